/- CondIs: whatever the form and the number, the law returns true. No conditions but that the numbers are of their kinds. -/
import Derived.Test.YtipapejgemkoaaaLaw1
namespace Go.Proofs.Ytipapejgemkoaaa
open Go.RowKit
attribute [local go_sem ↓] Go.wp_at_zero Go.wp_at_succ

set_option maxRecDepth 100000 in
theorem condIs_walk (al ne no : Bool) (o m v x : Int) (w : World) : Calls Try.prog 5 #[.agg #[.bool al, .bool ne, .bool no, .int .i64 o, .int .u64 m, .int .u64 v], .int .u64 x] w (Ret (.bool true) w) := by
  go_enter Try.func5, Try.ntmps5
  go_wp2_with (go_at_call 9; refine (awake_any _).mono ?_; rintro e w0 ⟨rfl, hb⟩)
  go_region_held3 (fun w' => w'.cell? ⟨w.heap.size, 0, none⟩ = some (.bool al) ∧ w'.cell? ⟨w.heap.size, 1, none⟩ = some (.bool ne) ∧ w'.cell? ⟨w.heap.size, 2, none⟩ = some (.bool no) ∧ w'.cell? ⟨w.heap.size, 3, none⟩ = some (.int .i64 o) ∧ w'.cell? ⟨w.heap.size, 4, none⟩ = some (.int .u64 m) ∧ w'.cell? ⟨w.heap.size, 5, none⟩ = some (.int .u64 v))
    ((((first | (have hq := hb2) | (have hq := hb1) | (have hq := hb)); refine ⟨?_, ?_, ?_, ?_, ?_, ?_⟩ <;> first | exact keep_cell hq (by go_keep) | (show World.cell? w0 _ = _; exact keep_cell hq (by go_keep))))) (first | (go_at_call 14; refine (is_any _ _ _ _ _ _ _ _).mono ?_; rintro e w1 ⟨rfl, hb1⟩) | (go_at_call 15; refine (is2_any _ _ _ _ _ _ _ _).mono ?_; rintro e w2 ⟨rfl, hb2⟩))
  go_wp2
  go_ret
  exact ⟨rfl, (keep_below (keep_below (keep_below ((Below.refl _ _).alloc (Nat.le_refl _) _) hb (Nat.le_refl _)).drew hb1 (Nat.le_refl _)) hb2 (Nat.le_refl _))⟩
end Go.Proofs.Ytipapejgemkoaaa
