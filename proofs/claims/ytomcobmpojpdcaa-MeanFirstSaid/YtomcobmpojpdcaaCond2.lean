/- The reference's functions, and Is: what each computes. No conditions. -/
import Derived.Test.YtomcobmpojpdcaaCond
import Derived.Lib.Hide
namespace Go.Proofs.Ytomcobmpojpdcaa
open Go.RowKit
attribute [local go_sem ↓] Go.wp_at_zero Go.wp_at_succ

theorem keep_cell {W w' : World} {p : Addr} {v : Value} (hb : Below W.heap.size W w') (h : W.cell? p = some v) : w'.cell? p = some v := (hb.cell (World.block_lt_of_cell? W p h)).trans h
theorem keep_below {B : Nat} {w W w' : World} (h : Below B w W) (hb : Below W.heap.size W w') (hB : B ≤ w.heap.size) : Below B w w' := h.trans (hb.mono (Nat.le_trans hB h.size))

set_option maxRecDepth 100000 in
theorem of_yes (a o m v x : Int) (hr : rightB a o = true) (w : World) :
    Calls Try.prog 55 #[.agg #[.int .i64 a, .int .i64 o, .int .u64 m, .int .u64 v], .int .u64 x] w (Ret (.bool (cmpB o (bits .and .u64 x m) v)) w) := by
  have hR : 0 ≤ a ∧ a ≤ 5 ∧ 1 ≤ o ∧ o ≤ 6 := by simpa [rightB] using hr
  obtain ⟨ha0, ha5, ho1, ho6⟩ := hR
  go_enter Try.func55, Try.ntmps55
  go_wp2_with (first | (go_at_call 70; refine (held_any _ _ _ (by omega) (by omega) _).mono ?_; rintro e w' ⟨rfl, rfl⟩) | go_in)
  go_ret
  exact ⟨rfl, (((Below.refl _ _).alloc (Nat.le_refl _) _).alloc (by simp) _)⟩

set_option maxRecDepth 100000 in
theorem holds2_any (a o m v nr ar ip x0 x1 x2 x3 x4 x5 : Int) (w : World) :
    Calls Try.prog 43 #[.agg #[.int .i64 a, .int .i64 o, .int .u64 m, .int .u64 v], .agg #[.int .u32 nr, .int .u32 ar, .int .u64 ip, .int .u64 x0, .int .u64 x1, .int .u64 x2, .int .u64 x3, .int .u64 x4, .int .u64 x5]] w
      (Ret (.bool (rightB a o && cmpB o (bits .and .u64 (argI a x0 x1 x2 x3 x4 x5) m) v)) w) := by
  cases hr : rightB a o with
  | false =>
    rw [Bool.false_and]
    go_enter Try.func43, Try.ntmps43
    go_wp2_with (go_at_call 41; refine (right2_any _ _ _ _ _).mono ?_; rintro e w' ⟨rfl, hb⟩)
    go_ret
    exact ⟨rfl, (((Below.refl _ _).alloc (Nat.le_refl _) _).alloc (by simp) _).trans (hb.mono (by simp; omega))⟩
  | true =>
    have hR : 0 ≤ a ∧ a ≤ 5 ∧ 1 ≤ o ∧ o ≤ 6 := by simpa [rightB] using hr
    obtain ⟨ha0, ha5, ho1, ho6⟩ := hR
    rw [Bool.true_and]
    have hc := cells_arg a nr ar ip x0 x1 x2 x3 x4 x5 ha0 ha5
    have h6 : a < 6 := by omega
    go_enter Try.func43, Try.ntmps43
    go_wp2
    go_region_held3 (fun w' => w'.cell? ⟨w.heap.size, 0, none⟩ = some (.int .i64 a) ∧ w'.cell? ⟨w.heap.size, 1, none⟩ = some (.int .i64 o) ∧ w'.cell? ⟨w.heap.size, 2, none⟩ = some (.int .u64 m) ∧ w'.cell? ⟨w.heap.size, 3, none⟩ = some (.int .u64 v) ∧ w'.cell? ⟨w.heap.size + 1, 3 + a.toNat, none⟩ = some (.int .u64 (argI a x0 x1 x2 x3 x4 x5)))
      (refine ⟨?_, ?_, ?_, ?_, ?_⟩ <;> first | exact keep_cell hb (by go_keep) | go_keep) (first | (go_at_call 55; refine (of_yes _ _ _ _ _ hr _).mono ?_; rintro e w' ⟨rfl, hb⟩))
    go_wp2
    go_ret
    exact ⟨rfl, ((((Below.refl _ _).alloc (Nat.le_refl _) _).alloc (by simp) _).alloc (by simp; omega) _).drew.trans (hb.mono (by simp; omega))⟩

end Go.Proofs.Ytomcobmpojpdcaa
