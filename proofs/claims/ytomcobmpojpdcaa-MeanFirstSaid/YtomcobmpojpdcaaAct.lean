/- Which acts may be, twice. No conditions. -/
import Derived.Test.YtomcobmpojpdcaaCond2
namespace Go.Proofs.Ytomcobmpojpdcaa
open Go.RowKit
attribute [local go_sem ↓] Go.wp_at_zero Go.wp_at_succ
set_option linter.unusedVariables false
set_option linter.unusedSimpArgs false

def bearsB (k : Int) : Bool := decide (k = 3 ∨ k = 4 ∨ k = 6)
def actB (k a : Int) : Bool := decide (1 ≤ k ∧ k ≤ 8 ∧ 0 ≤ a ∧ a ≤ 65535) && (decide (a = 0) || bearsB k)
theorem bears_any (n : Int) (w : World) : Calls Try.prog 45 #[.int .i64 n] w (Same (.bool (bearsB n)) w) := by
  go_enter Try.func45, Try.ntmps45
  go_wp2
  all_goals
    go_ret
    refine same_of ?_
    rw [Bool.eq_iff_iff]
    simp [bearsB]
    try omega
theorem has_any (n : Int) (w : World) : Calls Try.prog 51 #[.int .i64 n] w (Same (.bool (bearsB n)) w) := by
  go_enter Try.func51, Try.ntmps51
  go_wp2
  all_goals
    go_ret
    refine same_of ?_
    rw [Bool.eq_iff_iff]
    simp [bearsB]
    try omega
theorem act_any (k a : Int) (w : World) : Calls Try.prog 35 #[.agg #[.int .i64 k, .int .i64 a]] w (Ret (.bool (actB k a)) w) := by
  have B := bears_any k
  unfold actB
  obtain ⟨y, hy⟩ : ∃ y, bearsB k = y := ⟨_, rfl⟩
  rw [hy] at B ⊢
  clear hy
  go_enter Try.func35, Try.ntmps35
  cases y
  all_goals
    go_wp2_with (go_at_call 45; refine (B _).mono ?_; rintro e w' ⟨rfl, rfl⟩)
    all_goals
      go_ret
      refine ret_of ?_ ((Below.refl _ _).alloc (Nat.le_refl _) _)
      rw [Bool.eq_iff_iff]
      simp
      try omega
theorem ref_act_any (k a : Int) (w : World) : Calls Try.prog 39 #[.agg #[.int .i64 k, .int .i64 a]] w (Ret (.bool (actB k a)) w) := by
  have B := has_any k
  unfold actB
  obtain ⟨y, hy⟩ : ∃ y, bearsB k = y := ⟨_, rfl⟩
  rw [hy] at B ⊢
  clear hy
  go_enter Try.func39, Try.ntmps39
  cases y
  all_goals
    go_wp2_with (go_at_call 51; refine (B _).mono ?_; rintro e w' ⟨rfl, rfl⟩)
    all_goals
      go_ret
      refine ret_of ?_ ((Below.refl _ _).alloc (Nat.le_refl _) _)
      rw [Bool.eq_iff_iff]
      simp
      try omega
end Go.Proofs.Ytomcobmpojpdcaa
