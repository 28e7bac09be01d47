/- CondNorms: whatever the condition, the law returns true. No conditions but that the numbers are of their kinds. -/
import Derived.Test.YtipapejgemkoaaaLaw1
import Derived.Test.YtipapejgemkoaaaNormAny
import Derived.Test.YtipapejgemkoaaaNot
namespace Go.Proofs.Ytipapejgemkoaaa
open Go.RowKit
attribute [local go_sem ↓] Go.wp_at_zero Go.wp_at_succ

/-- A form, as a value, by its parts. -/
theorem normV_form (o m v : Int) : ∃ (al ne no : Bool) (p q r : Int), normV o m v = .agg #[.bool al, .bool ne, .bool no, .int .i64 p, .int .u64 q, .int .u64 r] := by
  unfold normV nev alw nv
  repeat' split
  all_goals exact ⟨_, _, _, _, _, _, rfl⟩
theorem ifnorm_form (a o m v : Int) : ∃ (al ne no : Bool) (p q r : Int), (if rightB a o then normV o m v else nev) = .agg #[.bool al, .bool ne, .bool no, .int .i64 p, .int .u64 q, .int .u64 r] := by
  split
  · exact normV_form o m v
  · exact ⟨_, _, _, _, _, _, rfl⟩
theorem notV_form (a o m v : Int) : ∃ a' o' m' v' e' : Int, notV a o m v = .tuple #[.agg #[.int .i64 a', .int .i64 o', .int .u64 m', .int .u64 v'], .int .i64 e'] := by
  unfold notV
  split
  all_goals exact ⟨_, _, _, _, _, rfl⟩

set_option maxRecDepth 100000 in
theorem condNorms_walk (a o m v : Int) (hm : 0 ≤ m) (hv : 0 ≤ v) (hm' : m < 18446744073709551616) (hv' : v < 18446744073709551616) (w : World) : Calls Try.prog 7 #[.agg #[.int .i64 a, .int .i64 o, .int .u64 m, .int .u64 v]] w (Ret (.bool true) w) := by
  obtain ⟨al, ne, no, p, q, r, hn⟩ := ifnorm_form a o m v
  obtain ⟨a', o', m', v', e', ht⟩ := notV_form a o m v
  have N1 := fun w => norm_any a o m v hm hv hm' hv' w
  have N2 := fun w => norm2_any a o m v hm hv hm' hv' w
  have T1 := fun w => not_any a o m v w
  have T2 := fun w => not2_any a o m v w
  rw [hn] at N1 N2
  rw [ht] at T1 T2
  have N1 := Lib.hid N1
  have N2 := Lib.hid N2
  have T1 := Lib.hid T1
  have T2 := Lib.hid T2
  clear hn ht
  go_enter Try.func7, Try.ntmps7
  go_wp2_with (first | (go_at_call 9; refine (awake_any _).mono ?_; rintro e w0 ⟨rfl, hb⟩; have c0 : w0.cell? ⟨w.heap.size, 0, none⟩ = some (.int .i64 a) := keep_cell hb (by go_keep); have c1 : w0.cell? ⟨w.heap.size, 1, none⟩ = some (.int .i64 o) := keep_cell hb (by go_keep); have c2 : w0.cell? ⟨w.heap.size, 2, none⟩ = some (.int .u64 m) := keep_cell hb (by go_keep); have c3 : w0.cell? ⟨w.heap.size, 3, none⟩ = some (.int .u64 v) := keep_cell hb (by go_keep)) | (go_at_call 17; refine (T1.out _).mono ?_; rintro e w1 ⟨rfl, hb1⟩; have d0 : w1.cell? ⟨w.heap.size, 0, none⟩ = some (.int .i64 a) := keep_cell hb1 (by assumption); have d1 : w1.cell? ⟨w.heap.size, 1, none⟩ = some (.int .i64 o) := keep_cell hb1 (by assumption); have d2 : w1.cell? ⟨w.heap.size, 2, none⟩ = some (.int .u64 m) := keep_cell hb1 (by assumption); have d3 : w1.cell? ⟨w.heap.size, 3, none⟩ = some (.int .u64 v) := keep_cell hb1 (by assumption); have z1 : w.heap.size < w1.heap.size := World.block_lt_of_cell? _ _ d0) | (go_at_call 18; refine (T2.out _).mono ?_; rintro e w2 ⟨rfl, hb2⟩; have g0 : w2.cell? ⟨w.heap.size, 0, none⟩ = some (.int .i64 a) := keep_cell hb2 (by go_keep); have g1 : w2.cell? ⟨w.heap.size, 1, none⟩ = some (.int .i64 o) := keep_cell hb2 (by go_keep); have g2 : w2.cell? ⟨w.heap.size, 2, none⟩ = some (.int .u64 m) := keep_cell hb2 (by go_keep); have g3 : w2.cell? ⟨w.heap.size, 3, none⟩ = some (.int .u64 v) := keep_cell hb2 (by go_keep); have k0 : w2.cell? ⟨w1.heap.size, 0, none⟩ = some (.int .i64 a') := keep_cell hb2 (by go_keep); have k1 : w2.cell? ⟨w1.heap.size, 1, none⟩ = some (.int .i64 o') := keep_cell hb2 (by go_keep); have k2 : w2.cell? ⟨w1.heap.size, 2, none⟩ = some (.int .u64 m') := keep_cell hb2 (by go_keep); have k3 : w2.cell? ⟨w1.heap.size, 3, none⟩ = some (.int .u64 v') := keep_cell hb2 (by go_keep); have z2 : w1.heap.size < w2.heap.size := World.block_lt_of_cell? _ _ k0; have z3 : w.heap.size < w2.heap.size := World.block_lt_of_cell? _ _ g0))
  go_region_held3 (fun w' => w'.cell? ⟨w.heap.size, 0, none⟩ = some (.int .i64 a) ∧ w'.cell? ⟨w.heap.size, 1, none⟩ = some (.int .i64 o) ∧ w'.cell? ⟨w.heap.size, 2, none⟩ = some (.int .u64 m) ∧ w'.cell? ⟨w.heap.size, 3, none⟩ = some (.int .u64 v) ∧ w'.cell? ⟨w1.heap.size, 0, none⟩ = some (.int .i64 a') ∧ w'.cell? ⟨w1.heap.size, 1, none⟩ = some (.int .i64 o') ∧ w'.cell? ⟨w1.heap.size, 2, none⟩ = some (.int .u64 m') ∧ w'.cell? ⟨w1.heap.size, 3, none⟩ = some (.int .u64 v') ∧ w'.cell? ⟨w2.heap.size, 0, none⟩ = some (.int .i64 a') ∧ w'.cell? ⟨w2.heap.size, 1, none⟩ = some (.int .i64 o') ∧ w'.cell? ⟨w2.heap.size, 2, none⟩ = some (.int .u64 m') ∧ w'.cell? ⟨w2.heap.size, 3, none⟩ = some (.int .u64 v'))
    ((((first | (have hq := hb4) | (have hq := hb3) | (have hq := hb2)); refine ⟨?_, ?_, ?_, ?_, ?_, ?_, ?_, ?_, ?_, ?_, ?_, ?_⟩ <;> first | exact keep_cell hq (by go_keep) | (show World.cell? (w2.alloc (.cells #[.int .i64 a', .int .i64 o', .int .u64 m', .int .u64 v'] 24)) _ = _; exact keep_cell hq (by go_keep)) | go_keep))) (first | (go_at_call 16; refine (N1.out _).mono ?_; rintro e w3 ⟨rfl, hb3⟩) | (go_at_call 19; refine (N2.out _).mono ?_; rintro e w4 ⟨rfl, hb4⟩))
  go_wp2
  go_ret
  exact ⟨rfl, keep_below (keep_below ((keep_below ((keep_below (keep_below ((Below.refl _ _).alloc (Nat.le_refl _) _) hb (Nat.le_refl _)) hb1 (Nat.le_refl _)).alloc (by omega) _) hb2 (Nat.le_refl _)).alloc (by omega) _).drew hb3 (Nat.le_refl _)) hb4 (Nat.le_refl _)⟩
end Go.Proofs.Ytipapejgemkoaaa
