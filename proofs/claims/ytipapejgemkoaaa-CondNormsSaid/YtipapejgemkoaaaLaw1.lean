/- CondHolds: whatever the condition and the call, the law returns true; nothing that lay has turned. No conditions but that the numbers are of their kinds. -/
import Derived.Test.YtipapejgemkoaaaCond2
import Derived.Test.YtipapejgemkoaaaTop
namespace Go.Proofs.Ytipapejgemkoaaa
open Go.RowKit
attribute [local go_sem ↓] Go.wp_at_zero Go.wp_at_succ

theorem aw_holds (w : World) : Calls Try.prog 12 #[.agg #[.int .i64 0, .int .i64 4, .int .u64 7, .int .u64 5], .agg #[.int .u32 0, .int .u32 0, .int .u64 0, .int .u64 13, .int .u64 0, .int .u64 0, .int .u64 0, .int .u64 0, .int .u64 0]] w (Ret (.bool true) w) :=
  holds_any 0 4 7 5 0 0 0 13 0 0 0 0 0 w

set_option maxRecDepth 100000 in
theorem aw_norm (w : World) : Calls Try.prog 16 #[.agg #[.int .i64 0, .int .i64 4, .int .u64 7, .int .u64 5]] w (Ret (.agg #[.bool false, .bool false, .bool true, .int .i64 5, .int .u64 7, .int .u64 5]) w) := by
  go_enter Try.func16, Try.ntmps16
  go_wp2_with (first | (go_at_call 20; refine (way_4 _).mono ?_; rintro e w' ⟨rfl, rfl⟩) | go_in)
  refine bodyPost_ret (v := .agg #[.bool false, .bool false, .bool true, .int .i64 5, .int .u64 7, .int .u64 5]) (by simp [results, Try.results16, go_sem]) rfl ⟨rfl, ?_⟩
  repeat (first | exact Below.refl _ _ | (refine Below.alloc ?_ (by simp; try omega) _) | (refine Below.setCell ?_ (by simp; try omega) _) | apply Below.drew)

set_option maxRecDepth 100000 in
theorem awake_any (w : World) : Calls Try.prog 9 #[] w (Ret (.bool true) w) := by
  go_enter Try.func9, Try.ntmps9
  go_wp2_with (first | (go_at_call 16; refine (aw_norm _).mono ?_; rintro e w' ⟨rfl, hb⟩; have c0 : w'.cell? ⟨w.heap.size, 0, none⟩ = some (.int .i64 0) := keep_cell hb (by go_keep); have c1 : w'.cell? ⟨w.heap.size, 1, none⟩ = some (.int .i64 4) := keep_cell hb (by go_keep); have c2 : w'.cell? ⟨w.heap.size, 2, none⟩ = some (.int .u64 7) := keep_cell hb (by go_keep); have c3 : w'.cell? ⟨w.heap.size, 3, none⟩ = some (.int .u64 5) := keep_cell hb (by go_keep)) | (go_at_call 12; refine (aw_holds _).mono ?_; rintro e w2 ⟨rfl, hb2⟩))
  go_ret
  exact ⟨rfl, keep_below (keep_below ((Below.refl _ _).alloc (Nat.le_refl _) _) hb (Nat.le_refl _)) hb2 (Nat.le_refl _)⟩

set_option maxRecDepth 100000 in
theorem condHolds_walk (a o m v nr ar ip x0 x1 x2 x3 x4 x5 : Int) (w : World) :
    Calls Try.prog 3 #[.agg #[.int .i64 a, .int .i64 o, .int .u64 m, .int .u64 v], .agg #[.int .u32 nr, .int .u32 ar, .int .u64 ip, .int .u64 x0, .int .u64 x1, .int .u64 x2, .int .u64 x3, .int .u64 x4, .int .u64 x5]] w
      (Ret (.bool true) w) := by
  go_enter Try.func3, Try.ntmps3
  go_wp2_with (go_at_call 9; refine (awake_any _).mono ?_; rintro e w0 ⟨rfl, hb⟩)
  go_region_held3 (fun w' => w'.cell? ⟨w.heap.size, 0, none⟩ = some (.int .i64 a) ∧ w'.cell? ⟨w.heap.size, 1, none⟩ = some (.int .i64 o) ∧ w'.cell? ⟨w.heap.size, 2, none⟩ = some (.int .u64 m) ∧ w'.cell? ⟨w.heap.size, 3, none⟩ = some (.int .u64 v) ∧ w'.cell? ⟨w.heap.size + 1, 0, none⟩ = some (.int .u32 nr) ∧ w'.cell? ⟨w.heap.size + 1, 1, none⟩ = some (.int .u32 ar) ∧ w'.cell? ⟨w.heap.size + 1, 2, none⟩ = some (.int .u64 ip) ∧ w'.cell? ⟨w.heap.size + 1, 3, none⟩ = some (.int .u64 x0) ∧ w'.cell? ⟨w.heap.size + 1, 4, none⟩ = some (.int .u64 x1) ∧ w'.cell? ⟨w.heap.size + 1, 5, none⟩ = some (.int .u64 x2) ∧ w'.cell? ⟨w.heap.size + 1, 6, none⟩ = some (.int .u64 x3) ∧ w'.cell? ⟨w.heap.size + 1, 7, none⟩ = some (.int .u64 x4) ∧ w'.cell? ⟨w.heap.size + 1, 8, none⟩ = some (.int .u64 x5))
    (((first | (have hq := hb4) | (have hq := hb3) | (have hq := hb2) | (have hq := hb1) | (have hq := hb)); refine ⟨?_, ?_, ?_, ?_, ?_, ?_, ?_, ?_, ?_, ?_, ?_, ?_, ?_⟩ <;> first | exact keep_cell hq (by go_keep) | (show World.cell? w0 _ = _; exact keep_cell hq (by go_keep)))) (first | (go_at_call 10; refine (right_any _ _ _ _ _).mono ?_; rintro e w1 ⟨rfl, hb1⟩) | (go_at_call 11; refine (right2_any _ _ _ _ _).mono ?_; rintro e w2 ⟨rfl, hb2⟩) | (go_at_call 12; refine (holds_any _ _ _ _ _ _ _ _ _ _ _ _ _ _).mono ?_; rintro e w3 ⟨rfl, hb3⟩) | (go_at_call 13; refine (holds2_any _ _ _ _ _ _ _ _ _ _ _ _ _ _).mono ?_; rintro e w4 ⟨rfl, hb4⟩))
  go_wp2
  go_ret
  exact ⟨rfl, keep_below (keep_below (keep_below (keep_below (keep_below (((Below.refl _ _).alloc (Nat.le_refl _) _).alloc (by simp) _) hb (Nat.le_refl _)).drew hb1 (Nat.le_refl _)) hb2 (Nat.le_refl _)) hb3 (Nat.le_refl _)) hb4 (Nat.le_refl _)⟩
end Go.Proofs.Ytipapejgemkoaaa
