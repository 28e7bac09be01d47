/- Which acts may be, twice. No conditions. -/
import Derived.Test.YtjmmbadpknlmcaaCond
namespace Go.Proofs.Ytjmmbadpknlmcaa
open Go.RowKit
attribute [local go_sem ↓] Go.wp_at_zero Go.wp_at_succ
set_option linter.unusedVariables false
set_option linter.unusedSimpArgs false

def bearsB (k : Int) : Bool := decide (k = 3 ∨ k = 4 ∨ k = 6)
def actB (k a : Int) : Bool := decide (1 ≤ k ∧ k ≤ 8 ∧ 0 ≤ a ∧ a ≤ 65535) && (decide (a = 0) || bearsB k)
theorem bears_any (n : Int) (w : World) : Calls Try.prog 52 #[.int .i64 n] w (Same (.bool (bearsB n)) w) := by
  go_enter Try.func52, Try.ntmps52
  go_wp2
  all_goals
    go_ret
    refine same_of ?_
    rw [Bool.eq_iff_iff]
    simp [bearsB]
    try omega
theorem has_any (n : Int) (w : World) : Calls Try.prog 60 #[.int .i64 n] w (Same (.bool (bearsB n)) w) := by
  go_enter Try.func60, Try.ntmps60
  go_wp2
  all_goals
    go_ret
    refine same_of ?_
    rw [Bool.eq_iff_iff]
    simp [bearsB]
    try omega
theorem act_any (k a : Int) (w : World) : Calls Try.prog 32 #[.agg #[.int .i64 k, .int .i64 a]] w (Ret (.bool (actB k a)) w) := by
  have B := bears_any k
  unfold actB
  obtain ⟨y, hy⟩ : ∃ y, bearsB k = y := ⟨_, rfl⟩
  rw [hy] at B ⊢
  clear hy
  go_enter Try.func32, Try.ntmps32
  cases y
  all_goals
    go_wp2_with (go_at_call 52; refine (B _).mono ?_; rintro e w' ⟨rfl, rfl⟩)
    all_goals
      go_ret
      refine ret_of ?_ ((Below.refl _ _).alloc (Nat.le_refl _) _)
      rw [Bool.eq_iff_iff]
      simp
      try omega
theorem ref_act_any (k a : Int) (w : World) : Calls Try.prog 40 #[.agg #[.int .i64 k, .int .i64 a]] w (Ret (.bool (actB k a)) w) := by
  have B := has_any k
  unfold actB
  obtain ⟨y, hy⟩ : ∃ y, bearsB k = y := ⟨_, rfl⟩
  rw [hy] at B ⊢
  clear hy
  go_enter Try.func40, Try.ntmps40
  cases y
  all_goals
    go_wp2_with (go_at_call 60; refine (B _).mono ?_; rintro e w' ⟨rfl, rfl⟩)
    all_goals
      go_ret
      refine ret_of ?_ ((Below.refl _ _).alloc (Nat.le_refl _) _)
      rw [Bool.eq_iff_iff]
      simp
      try omega
end Go.Proofs.Ytjmmbadpknlmcaa
