/- Not, of cond and of its reference: what each computes. No conditions. -/
import Derived.Test.YtipapejgemkoaaaCond2
namespace Go.Proofs.Ytipapejgemkoaaa
open Go.RowKit
attribute [local go_sem ↓] Go.wp_at_zero Go.wp_at_succ

theorem ret_val2 {u v : Value} {w w' : World} (h : u = v) (hb : Below w.heap.size w w') : Ret v w (.returned u) w' := ⟨by rw [h], hb⟩
def notO (o : Int) : Int := if o = 1 then 2 else if o = 2 then 1 else 9 - o
def notV (a o m v : Int) : Value :=
  if rightB a o then .tuple #[.agg #[.int .i64 a, .int .i64 (notO o), .int .u64 m, .int .u64 v], .int .i64 0] else .tuple #[.agg #[.int .i64 0, .int .i64 0, .int .u64 0, .int .u64 0], .int .i64 1]
set_option maxRecDepth 100000 in
theorem not_1 (a m v : Int) (h0 : 0 ≤ a) (h5 : a ≤ 5) (w : World) :
    Calls Try.prog 17 #[.agg #[.int .i64 a, .int .i64 1, .int .u64 m, .int .u64 v]] w (Ret (.tuple #[.agg #[.int .i64 a, .int .i64 2, .int .u64 m, .int .u64 v], .int .i64 0]) w) := by
  go_enter Try.func17, Try.ntmps17
  go_wp2
  refine bodyPost_ret (v := .tuple #[.agg #[.int .i64 a, .int .i64 2, .int .u64 m, .int .u64 v], .int .i64 0]) (by simp [results, Try.results17, go_sem]) rfl (ret_val2 rfl ?_)
  repeat (first | exact Below.refl _ _ | (refine Below.alloc ?_ (by simp; try omega) _) | (refine Below.setCell ?_ (by simp; try omega) _) | apply Below.drew)
set_option maxRecDepth 100000 in
theorem not_2 (a m v : Int) (h0 : 0 ≤ a) (h5 : a ≤ 5) (w : World) :
    Calls Try.prog 17 #[.agg #[.int .i64 a, .int .i64 2, .int .u64 m, .int .u64 v]] w (Ret (.tuple #[.agg #[.int .i64 a, .int .i64 1, .int .u64 m, .int .u64 v], .int .i64 0]) w) := by
  go_enter Try.func17, Try.ntmps17
  go_wp2
  refine bodyPost_ret (v := .tuple #[.agg #[.int .i64 a, .int .i64 1, .int .u64 m, .int .u64 v], .int .i64 0]) (by simp [results, Try.results17, go_sem]) rfl (ret_val2 rfl ?_)
  repeat (first | exact Below.refl _ _ | (refine Below.alloc ?_ (by simp; try omega) _) | (refine Below.setCell ?_ (by simp; try omega) _) | apply Below.drew)
set_option maxRecDepth 100000 in
theorem not_3 (a m v : Int) (h0 : 0 ≤ a) (h5 : a ≤ 5) (w : World) :
    Calls Try.prog 17 #[.agg #[.int .i64 a, .int .i64 3, .int .u64 m, .int .u64 v]] w (Ret (.tuple #[.agg #[.int .i64 a, .int .i64 6, .int .u64 m, .int .u64 v], .int .i64 0]) w) := by
  go_enter Try.func17, Try.ntmps17
  go_wp2
  refine bodyPost_ret (v := .tuple #[.agg #[.int .i64 a, .int .i64 6, .int .u64 m, .int .u64 v], .int .i64 0]) (by simp [results, Try.results17, go_sem]) rfl (ret_val2 rfl ?_)
  repeat (first | exact Below.refl _ _ | (refine Below.alloc ?_ (by simp; try omega) _) | (refine Below.setCell ?_ (by simp; try omega) _) | apply Below.drew)
set_option maxRecDepth 100000 in
theorem not_4 (a m v : Int) (h0 : 0 ≤ a) (h5 : a ≤ 5) (w : World) :
    Calls Try.prog 17 #[.agg #[.int .i64 a, .int .i64 4, .int .u64 m, .int .u64 v]] w (Ret (.tuple #[.agg #[.int .i64 a, .int .i64 5, .int .u64 m, .int .u64 v], .int .i64 0]) w) := by
  go_enter Try.func17, Try.ntmps17
  go_wp2
  refine bodyPost_ret (v := .tuple #[.agg #[.int .i64 a, .int .i64 5, .int .u64 m, .int .u64 v], .int .i64 0]) (by simp [results, Try.results17, go_sem]) rfl (ret_val2 rfl ?_)
  repeat (first | exact Below.refl _ _ | (refine Below.alloc ?_ (by simp; try omega) _) | (refine Below.setCell ?_ (by simp; try omega) _) | apply Below.drew)
set_option maxRecDepth 100000 in
theorem not_5 (a m v : Int) (h0 : 0 ≤ a) (h5 : a ≤ 5) (w : World) :
    Calls Try.prog 17 #[.agg #[.int .i64 a, .int .i64 5, .int .u64 m, .int .u64 v]] w (Ret (.tuple #[.agg #[.int .i64 a, .int .i64 4, .int .u64 m, .int .u64 v], .int .i64 0]) w) := by
  go_enter Try.func17, Try.ntmps17
  go_wp2
  refine bodyPost_ret (v := .tuple #[.agg #[.int .i64 a, .int .i64 4, .int .u64 m, .int .u64 v], .int .i64 0]) (by simp [results, Try.results17, go_sem]) rfl (ret_val2 rfl ?_)
  repeat (first | exact Below.refl _ _ | (refine Below.alloc ?_ (by simp; try omega) _) | (refine Below.setCell ?_ (by simp; try omega) _) | apply Below.drew)
set_option maxRecDepth 100000 in
theorem not_6 (a m v : Int) (h0 : 0 ≤ a) (h5 : a ≤ 5) (w : World) :
    Calls Try.prog 17 #[.agg #[.int .i64 a, .int .i64 6, .int .u64 m, .int .u64 v]] w (Ret (.tuple #[.agg #[.int .i64 a, .int .i64 3, .int .u64 m, .int .u64 v], .int .i64 0]) w) := by
  go_enter Try.func17, Try.ntmps17
  go_wp2
  refine bodyPost_ret (v := .tuple #[.agg #[.int .i64 a, .int .i64 3, .int .u64 m, .int .u64 v], .int .i64 0]) (by simp [results, Try.results17, go_sem]) rfl (ret_val2 rfl ?_)
  repeat (first | exact Below.refl _ _ | (refine Below.alloc ?_ (by simp; try omega) _) | (refine Below.setCell ?_ (by simp; try omega) _) | apply Below.drew)
set_option maxRecDepth 100000 in
theorem not_any (a o m v : Int) (w : World) : Calls Try.prog 17 #[.agg #[.int .i64 a, .int .i64 o, .int .u64 m, .int .u64 v]] w (Ret (notV a o m v) w) := by
  unfold notV
  cases hr : rightB a o with
  | false =>
    rw [if_neg (by decide)]
    have hF : ¬ (0 ≤ a ∧ a ≤ 5 ∧ 1 ≤ o ∧ o ≤ 6) := by simpa [rightB] using hr
    clear hr
    by_cases q1 : 0 ≤ a
    · by_cases q2 : a ≤ 5
      · by_cases q3 : 1 ≤ o
        · have q4 : 6 < o := by omega
          have q5 : decide (o ≤ 6) = false := by simp; omega
          clear hF
          go_enter Try.func17, Try.ntmps17
          go_wp2
          refine bodyPost_ret (v := .tuple #[.agg #[.int .i64 0, .int .i64 0, .int .u64 0, .int .u64 0], .int .i64 1]) (by simp [results, Try.results17, go_sem]) rfl (ret_val2 rfl ?_)
          repeat (first | exact Below.refl _ _ | (refine Below.alloc ?_ (by simp; try omega) _) | (refine Below.setCell ?_ (by simp; try omega) _) | apply Below.drew)
        · have q4 : o < 1 := by omega
          clear hF q3
          go_enter Try.func17, Try.ntmps17
          go_wp2
          refine bodyPost_ret (v := .tuple #[.agg #[.int .i64 0, .int .i64 0, .int .u64 0, .int .u64 0], .int .i64 1]) (by simp [results, Try.results17, go_sem]) rfl (ret_val2 rfl ?_)
          repeat (first | exact Below.refl _ _ | (refine Below.alloc ?_ (by simp; try omega) _) | (refine Below.setCell ?_ (by simp; try omega) _) | apply Below.drew)
      · have q4 : 5 < a := by omega
        clear hF q2
        go_enter Try.func17, Try.ntmps17
        go_wp2
        refine bodyPost_ret (v := .tuple #[.agg #[.int .i64 0, .int .i64 0, .int .u64 0, .int .u64 0], .int .i64 1]) (by simp [results, Try.results17, go_sem]) rfl (ret_val2 rfl ?_)
        repeat (first | exact Below.refl _ _ | (refine Below.alloc ?_ (by simp; try omega) _) | (refine Below.setCell ?_ (by simp; try omega) _) | apply Below.drew)
    · have q4 : a < 0 := by omega
      clear hF q1
      go_enter Try.func17, Try.ntmps17
      go_wp2
      refine bodyPost_ret (v := .tuple #[.agg #[.int .i64 0, .int .i64 0, .int .u64 0, .int .u64 0], .int .i64 1]) (by simp [results, Try.results17, go_sem]) rfl (ret_val2 rfl ?_)
      repeat (first | exact Below.refl _ _ | (refine Below.alloc ?_ (by simp; try omega) _) | (refine Below.setCell ?_ (by simp; try omega) _) | apply Below.drew)
  | true =>
    have hR : 0 ≤ a ∧ a ≤ 5 ∧ 1 ≤ o ∧ o ≤ 6 := by simpa [rightB] using hr
    obtain ⟨ha0, ha5, ho1, ho6⟩ := hR
    rw [if_pos rfl]
    obtain rfl | rfl | rfl | rfl | rfl | rfl : o = 1 ∨ o = 2 ∨ o = 3 ∨ o = 4 ∨ o = 5 ∨ o = 6 := by omega
    · exact not_1 a m v ha0 ha5 w
    · exact not_2 a m v ha0 ha5 w
    · exact not_3 a m v ha0 ha5 w
    · exact not_4 a m v ha0 ha5 w
    · exact not_5 a m v ha0 ha5 w
    · exact not_6 a m v ha0 ha5 w
set_option maxRecDepth 100000 in
theorem not2_1 (a m v : Int) (h0 : 0 ≤ a) (h5 : a ≤ 5) (w : World) :
    Calls Try.prog 18 #[.agg #[.int .i64 a, .int .i64 1, .int .u64 m, .int .u64 v]] w (Ret (.tuple #[.agg #[.int .i64 a, .int .i64 2, .int .u64 m, .int .u64 v], .int .i64 0]) w) := by
  go_enter Try.func18, Try.ntmps18
  go_wp2
  refine bodyPost_ret (v := .tuple #[.agg #[.int .i64 a, .int .i64 2, .int .u64 m, .int .u64 v], .int .i64 0]) (by simp [results, Try.results18, go_sem]) rfl (ret_val2 rfl ?_)
  repeat (first | exact Below.refl _ _ | (refine Below.alloc ?_ (by simp; try omega) _) | (refine Below.setCell ?_ (by simp; try omega) _) | apply Below.drew)
set_option maxRecDepth 100000 in
theorem not2_2 (a m v : Int) (h0 : 0 ≤ a) (h5 : a ≤ 5) (w : World) :
    Calls Try.prog 18 #[.agg #[.int .i64 a, .int .i64 2, .int .u64 m, .int .u64 v]] w (Ret (.tuple #[.agg #[.int .i64 a, .int .i64 1, .int .u64 m, .int .u64 v], .int .i64 0]) w) := by
  go_enter Try.func18, Try.ntmps18
  go_wp2
  refine bodyPost_ret (v := .tuple #[.agg #[.int .i64 a, .int .i64 1, .int .u64 m, .int .u64 v], .int .i64 0]) (by simp [results, Try.results18, go_sem]) rfl (ret_val2 rfl ?_)
  repeat (first | exact Below.refl _ _ | (refine Below.alloc ?_ (by simp; try omega) _) | (refine Below.setCell ?_ (by simp; try omega) _) | apply Below.drew)
set_option maxRecDepth 100000 in
theorem not2_3 (a m v : Int) (h0 : 0 ≤ a) (h5 : a ≤ 5) (w : World) :
    Calls Try.prog 18 #[.agg #[.int .i64 a, .int .i64 3, .int .u64 m, .int .u64 v]] w (Ret (.tuple #[.agg #[.int .i64 a, .int .i64 6, .int .u64 m, .int .u64 v], .int .i64 0]) w) := by
  go_enter Try.func18, Try.ntmps18
  go_wp2
  refine bodyPost_ret (v := .tuple #[.agg #[.int .i64 a, .int .i64 6, .int .u64 m, .int .u64 v], .int .i64 0]) (by simp [results, Try.results18, go_sem]) rfl (ret_val2 rfl ?_)
  repeat (first | exact Below.refl _ _ | (refine Below.alloc ?_ (by simp; try omega) _) | (refine Below.setCell ?_ (by simp; try omega) _) | apply Below.drew)
set_option maxRecDepth 100000 in
theorem not2_4 (a m v : Int) (h0 : 0 ≤ a) (h5 : a ≤ 5) (w : World) :
    Calls Try.prog 18 #[.agg #[.int .i64 a, .int .i64 4, .int .u64 m, .int .u64 v]] w (Ret (.tuple #[.agg #[.int .i64 a, .int .i64 5, .int .u64 m, .int .u64 v], .int .i64 0]) w) := by
  go_enter Try.func18, Try.ntmps18
  go_wp2
  refine bodyPost_ret (v := .tuple #[.agg #[.int .i64 a, .int .i64 5, .int .u64 m, .int .u64 v], .int .i64 0]) (by simp [results, Try.results18, go_sem]) rfl (ret_val2 rfl ?_)
  repeat (first | exact Below.refl _ _ | (refine Below.alloc ?_ (by simp; try omega) _) | (refine Below.setCell ?_ (by simp; try omega) _) | apply Below.drew)
set_option maxRecDepth 100000 in
theorem not2_5 (a m v : Int) (h0 : 0 ≤ a) (h5 : a ≤ 5) (w : World) :
    Calls Try.prog 18 #[.agg #[.int .i64 a, .int .i64 5, .int .u64 m, .int .u64 v]] w (Ret (.tuple #[.agg #[.int .i64 a, .int .i64 4, .int .u64 m, .int .u64 v], .int .i64 0]) w) := by
  go_enter Try.func18, Try.ntmps18
  go_wp2
  refine bodyPost_ret (v := .tuple #[.agg #[.int .i64 a, .int .i64 4, .int .u64 m, .int .u64 v], .int .i64 0]) (by simp [results, Try.results18, go_sem]) rfl (ret_val2 rfl ?_)
  repeat (first | exact Below.refl _ _ | (refine Below.alloc ?_ (by simp; try omega) _) | (refine Below.setCell ?_ (by simp; try omega) _) | apply Below.drew)
set_option maxRecDepth 100000 in
theorem not2_6 (a m v : Int) (h0 : 0 ≤ a) (h5 : a ≤ 5) (w : World) :
    Calls Try.prog 18 #[.agg #[.int .i64 a, .int .i64 6, .int .u64 m, .int .u64 v]] w (Ret (.tuple #[.agg #[.int .i64 a, .int .i64 3, .int .u64 m, .int .u64 v], .int .i64 0]) w) := by
  go_enter Try.func18, Try.ntmps18
  go_wp2
  refine bodyPost_ret (v := .tuple #[.agg #[.int .i64 a, .int .i64 3, .int .u64 m, .int .u64 v], .int .i64 0]) (by simp [results, Try.results18, go_sem]) rfl (ret_val2 rfl ?_)
  repeat (first | exact Below.refl _ _ | (refine Below.alloc ?_ (by simp; try omega) _) | (refine Below.setCell ?_ (by simp; try omega) _) | apply Below.drew)
set_option maxRecDepth 100000 in
theorem not2_any (a o m v : Int) (w : World) : Calls Try.prog 18 #[.agg #[.int .i64 a, .int .i64 o, .int .u64 m, .int .u64 v]] w (Ret (notV a o m v) w) := by
  unfold notV
  cases hr : rightB a o with
  | false =>
    rw [if_neg (by decide)]
    have hF : ¬ (0 ≤ a ∧ a ≤ 5 ∧ 1 ≤ o ∧ o ≤ 6) := by simpa [rightB] using hr
    clear hr
    by_cases q1 : 0 ≤ a
    · by_cases q2 : a ≤ 5
      · by_cases q3 : 1 ≤ o
        · have q4 : 6 < o := by omega
          have q5 : decide (o ≤ 6) = false := by simp; omega
          clear hF
          go_enter Try.func18, Try.ntmps18
          go_wp2
          refine bodyPost_ret (v := .tuple #[.agg #[.int .i64 0, .int .i64 0, .int .u64 0, .int .u64 0], .int .i64 1]) (by simp [results, Try.results18, go_sem]) rfl (ret_val2 rfl ?_)
          repeat (first | exact Below.refl _ _ | (refine Below.alloc ?_ (by simp; try omega) _) | (refine Below.setCell ?_ (by simp; try omega) _) | apply Below.drew)
        · have q4 : o < 1 := by omega
          clear hF q3
          go_enter Try.func18, Try.ntmps18
          go_wp2
          refine bodyPost_ret (v := .tuple #[.agg #[.int .i64 0, .int .i64 0, .int .u64 0, .int .u64 0], .int .i64 1]) (by simp [results, Try.results18, go_sem]) rfl (ret_val2 rfl ?_)
          repeat (first | exact Below.refl _ _ | (refine Below.alloc ?_ (by simp; try omega) _) | (refine Below.setCell ?_ (by simp; try omega) _) | apply Below.drew)
      · have q4 : 5 < a := by omega
        clear hF q2
        go_enter Try.func18, Try.ntmps18
        go_wp2
        refine bodyPost_ret (v := .tuple #[.agg #[.int .i64 0, .int .i64 0, .int .u64 0, .int .u64 0], .int .i64 1]) (by simp [results, Try.results18, go_sem]) rfl (ret_val2 rfl ?_)
        repeat (first | exact Below.refl _ _ | (refine Below.alloc ?_ (by simp; try omega) _) | (refine Below.setCell ?_ (by simp; try omega) _) | apply Below.drew)
    · have q4 : a < 0 := by omega
      clear hF q1
      go_enter Try.func18, Try.ntmps18
      go_wp2
      refine bodyPost_ret (v := .tuple #[.agg #[.int .i64 0, .int .i64 0, .int .u64 0, .int .u64 0], .int .i64 1]) (by simp [results, Try.results18, go_sem]) rfl (ret_val2 rfl ?_)
      repeat (first | exact Below.refl _ _ | (refine Below.alloc ?_ (by simp; try omega) _) | (refine Below.setCell ?_ (by simp; try omega) _) | apply Below.drew)
  | true =>
    have hR : 0 ≤ a ∧ a ≤ 5 ∧ 1 ≤ o ∧ o ≤ 6 := by simpa [rightB] using hr
    obtain ⟨ha0, ha5, ho1, ho6⟩ := hR
    rw [if_pos rfl]
    obtain rfl | rfl | rfl | rfl | rfl | rfl : o = 1 ∨ o = 2 ∨ o = 3 ∨ o = 4 ∨ o = 5 ∨ o = 6 := by omega
    · exact not2_1 a m v ha0 ha5 w
    · exact not2_2 a m v ha0 ha5 w
    · exact not2_3 a m v ha0 ha5 w
    · exact not2_4 a m v ha0 ha5 w
    · exact not2_5 a m v ha0 ha5 w
    · exact not2_6 a m v ha0 ha5 w
end Go.Proofs.Ytipapejgemkoaaa
