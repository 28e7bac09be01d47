/- Norm and Not, of cond and of its reference: what each computes. No conditions but that the numbers are of their kinds. -/
import Derived.Test.YtipapejgemkoaaaCond2
import Derived.Test.YtipapejgemkoaaaNorm
namespace Go.Proofs.Ytipapejgemkoaaa
open Go.RowKit
attribute [local go_sem ↓] Go.wp_at_zero Go.wp_at_succ

set_option maxRecDepth 100000 in
set_option maxHeartbeats 1000000 in
theorem norm2_1 (a m v : Int) (h0 : 0 ≤ a) (h5 : a ≤ 5) (hm : 0 ≤ m) (hv : 0 ≤ v) (hm' : m < 18446744073709551616) (hv' : v < 18446744073709551616) (w : World) :
    Calls Try.prog 19 #[.agg #[.int .i64 a, .int .i64 1, .int .u64 m, .int .u64 v]] w (Ret (normV 1 m v) w) := by
  have ho : (bits .or .u64 v m != m) = outB m v := or_out m v hm hv hm' hv'
  cases hq : outB m v with
  | true =>
    rw [hq] at ho
    go_enter Try.func19, Try.ntmps19
    go_wp2_with (first | fail | go_in)
    refine bodyPost_ret (v := .agg #[.bool false, .bool true, .bool false, .int .i64 0, .int .u64 0, .int .u64 0]) (by simp [results, Try.results19, go_sem]; try omega) rfl (ret_val ?_ ?_)
    · simp [normV, nev, alw, nv, *]
    · repeat (first | exact Below.refl _ _ | (refine Below.alloc ?_ (by simp; try omega) _) | (refine Below.setCell ?_ (by simp; try omega) _) | apply Below.drew)
  | false =>
    rw [hq] at ho
    go_enter Try.func19, Try.ntmps19
    go_wp2_with (first | fail | go_in)
    refine bodyPost_ret (v := .agg #[.bool false, .bool false, .bool false, .int .i64 1, .int .u64 m, .int .u64 v]) (by simp [results, Try.results19, go_sem]; try omega) rfl (ret_val ?_ ?_)
    · simp [normV, nev, alw, nv, *]
    · repeat (first | exact Below.refl _ _ | (refine Below.alloc ?_ (by simp; try omega) _) | (refine Below.setCell ?_ (by simp; try omega) _) | apply Below.drew)
set_option maxRecDepth 100000 in
set_option maxHeartbeats 1000000 in
theorem norm2_2 (a m v : Int) (h0 : 0 ≤ a) (h5 : a ≤ 5) (hm : 0 ≤ m) (hv : 0 ≤ v) (hm' : m < 18446744073709551616) (hv' : v < 18446744073709551616) (w : World) :
    Calls Try.prog 19 #[.agg #[.int .i64 a, .int .i64 2, .int .u64 m, .int .u64 v]] w (Ret (normV 2 m v) w) := by
  have ho : (bits .or .u64 v m != m) = outB m v := or_out m v hm hv hm' hv'
  cases hq : outB m v with
  | true =>
    rw [hq] at ho
    go_enter Try.func19, Try.ntmps19
    go_wp2_with (first | fail | go_in)
    refine bodyPost_ret (v := .agg #[.bool true, .bool false, .bool false, .int .i64 0, .int .u64 0, .int .u64 0]) (by simp [results, Try.results19, go_sem]; try omega) rfl (ret_val ?_ ?_)
    · simp [normV, nev, alw, nv, *]
    · repeat (first | exact Below.refl _ _ | (refine Below.alloc ?_ (by simp; try omega) _) | (refine Below.setCell ?_ (by simp; try omega) _) | apply Below.drew)
  | false =>
    rw [hq] at ho
    go_enter Try.func19, Try.ntmps19
    go_wp2_with (first | fail | go_in)
    refine bodyPost_ret (v := .agg #[.bool false, .bool false, .bool true, .int .i64 1, .int .u64 m, .int .u64 v]) (by simp [results, Try.results19, go_sem]; try omega) rfl (ret_val ?_ ?_)
    · simp [normV, nev, alw, nv, *]
    · repeat (first | exact Below.refl _ _ | (refine Below.alloc ?_ (by simp; try omega) _) | (refine Below.setCell ?_ (by simp; try omega) _) | apply Below.drew)
set_option maxRecDepth 100000 in
set_option maxHeartbeats 1000000 in
theorem norm2_5 (a m v : Int) (h0 : 0 ≤ a) (h5 : a ≤ 5) (hm : 0 ≤ m) (hv : 0 ≤ v) (hm' : m < 18446744073709551616) (hv' : v < 18446744073709551616) (w : World) :
    Calls Try.prog 19 #[.agg #[.int .i64 a, .int .i64 5, .int .u64 m, .int .u64 v]] w (Ret (normV 5 m v) w) := by
  by_cases hq : m ≤ v
  · have hq' : ¬ v < m := by omega
    go_enter Try.func19, Try.ntmps19
    go_wp2_with (first | fail | go_in)
    refine bodyPost_ret (v := .agg #[.bool false, .bool true, .bool false, .int .i64 0, .int .u64 0, .int .u64 0]) (by simp [results, Try.results19, go_sem]; try omega) rfl (ret_val ?_ ?_)
    · simp [normV, nev, alw, nv, *]
    · repeat (first | exact Below.refl _ _ | (refine Below.alloc ?_ (by simp; try omega) _) | (refine Below.setCell ?_ (by simp; try omega) _) | apply Below.drew)
  · have hq' : v < m := by omega
    go_enter Try.func19, Try.ntmps19
    go_wp2_with (first | fail | go_in)
    refine bodyPost_ret (v := .agg #[.bool false, .bool false, .bool false, .int .i64 5, .int .u64 m, .int .u64 v]) (by simp [results, Try.results19, go_sem]; try omega) rfl (ret_val ?_ ?_)
    · simp [normV, nev, alw, nv, *]
    · repeat (first | exact Below.refl _ _ | (refine Below.alloc ?_ (by simp; try omega) _) | (refine Below.setCell ?_ (by simp; try omega) _) | apply Below.drew)
set_option maxRecDepth 100000 in
set_option maxHeartbeats 1000000 in
theorem norm2_4 (a m v : Int) (h0 : 0 ≤ a) (h5 : a ≤ 5) (hm : 0 ≤ m) (hv : 0 ≤ v) (hm' : m < 18446744073709551616) (hv' : v < 18446744073709551616) (w : World) :
    Calls Try.prog 19 #[.agg #[.int .i64 a, .int .i64 4, .int .u64 m, .int .u64 v]] w (Ret (normV 4 m v) w) := by
  by_cases hq : m ≤ v
  · have hq' : ¬ v < m := by omega
    go_enter Try.func19, Try.ntmps19
    go_wp2_with (first | fail | go_in)
    refine bodyPost_ret (v := .agg #[.bool true, .bool false, .bool false, .int .i64 0, .int .u64 0, .int .u64 0]) (by simp [results, Try.results19, go_sem]; try omega) rfl (ret_val ?_ ?_)
    · simp [normV, nev, alw, nv, *]
    · repeat (first | exact Below.refl _ _ | (refine Below.alloc ?_ (by simp; try omega) _) | (refine Below.setCell ?_ (by simp; try omega) _) | apply Below.drew)
  · have hq' : v < m := by omega
    go_enter Try.func19, Try.ntmps19
    go_wp2_with (first | fail | go_in)
    refine bodyPost_ret (v := .agg #[.bool false, .bool false, .bool true, .int .i64 5, .int .u64 m, .int .u64 v]) (by simp [results, Try.results19, go_sem]; try omega) rfl (ret_val ?_ ?_)
    · simp [normV, nev, alw, nv, *]
    · repeat (first | exact Below.refl _ _ | (refine Below.alloc ?_ (by simp; try omega) _) | (refine Below.setCell ?_ (by simp; try omega) _) | apply Below.drew)
set_option maxRecDepth 100000 in
set_option maxHeartbeats 1000000 in
theorem norm2_6 (a m v : Int) (h0 : 0 ≤ a) (h5 : a ≤ 5) (hm : 0 ≤ m) (hv : 0 ≤ v) (hm' : m < 18446744073709551616) (hv' : v < 18446744073709551616) (w : World) :
    Calls Try.prog 19 #[.agg #[.int .i64 a, .int .i64 6, .int .u64 m, .int .u64 v]] w (Ret (normV 6 m v) w) := by
  by_cases hz : v = 0
  · subst hz
    have hm0 : decide (m < 0) = false := by simpa using hm
    go_enter Try.func19, Try.ntmps19
    go_wp2_with (first | fail | go_in)
    refine bodyPost_ret (v := .agg #[.bool true, .bool false, .bool false, .int .i64 0, .int .u64 0, .int .u64 0]) (by simp [results, Try.results19, go_sem]; try omega) rfl (ret_val ?_ ?_)
    · simp [normV, nev, alw, nv, *]
    · repeat (first | exact Below.refl _ _ | (refine Below.alloc ?_ (by simp; try omega) _) | (refine Below.setCell ?_ (by simp; try omega) _) | apply Below.drew)
  have hz' : (v == 0) = false := by simpa using hz
  have hz2 : 0 < v := by omega
  by_cases hq : m < v
  · have hq' : ¬ v ≤ m := by omega
    go_enter Try.func19, Try.ntmps19
    go_wp2_with (first | fail | go_in)
    refine bodyPost_ret (v := .agg #[.bool false, .bool true, .bool false, .int .i64 0, .int .u64 0, .int .u64 0]) (by simp [results, Try.results19, go_sem]; try omega) rfl (ret_val ?_ ?_)
    · simp [normV, nev, alw, nv, *]
    · repeat (first | exact Below.refl _ _ | (refine Below.alloc ?_ (by simp; try omega) _) | (refine Below.setCell ?_ (by simp; try omega) _) | apply Below.drew)
  · have hq' : v ≤ m := by omega
    go_enter Try.func19, Try.ntmps19
    go_wp2_with (first | fail | go_in)
    refine bodyPost_ret (v := .agg #[.bool false, .bool false, .bool false, .int .i64 6, .int .u64 m, .int .u64 v]) (by simp [results, Try.results19, go_sem]; try omega) rfl (ret_val ?_ ?_)
    · simp [normV, nev, alw, nv, *]
    · repeat (first | exact Below.refl _ _ | (refine Below.alloc ?_ (by simp; try omega) _) | (refine Below.setCell ?_ (by simp; try omega) _) | apply Below.drew)
set_option maxRecDepth 100000 in
set_option maxHeartbeats 1000000 in
theorem norm2_3 (a m v : Int) (h0 : 0 ≤ a) (h5 : a ≤ 5) (hm : 0 ≤ m) (hv : 0 ≤ v) (hm' : m < 18446744073709551616) (hv' : v < 18446744073709551616) (w : World) :
    Calls Try.prog 19 #[.agg #[.int .i64 a, .int .i64 3, .int .u64 m, .int .u64 v]] w (Ret (normV 3 m v) w) := by
  by_cases hz : v = 0
  · subst hz
    have hm0 : decide (m < 0) = false := by simpa using hm
    go_enter Try.func19, Try.ntmps19
    go_wp2_with (first | fail | go_in)
    refine bodyPost_ret (v := .agg #[.bool false, .bool true, .bool false, .int .i64 0, .int .u64 0, .int .u64 0]) (by simp [results, Try.results19, go_sem]; try omega) rfl (ret_val ?_ ?_)
    · simp [normV, nev, alw, nv, *]
    · repeat (first | exact Below.refl _ _ | (refine Below.alloc ?_ (by simp; try omega) _) | (refine Below.setCell ?_ (by simp; try omega) _) | apply Below.drew)
  have hz' : (v == 0) = false := by simpa using hz
  have hz2 : 0 < v := by omega
  by_cases hq : m < v
  · have hq' : ¬ v ≤ m := by omega
    go_enter Try.func19, Try.ntmps19
    go_wp2_with (first | fail | go_in)
    refine bodyPost_ret (v := .agg #[.bool true, .bool false, .bool false, .int .i64 0, .int .u64 0, .int .u64 0]) (by simp [results, Try.results19, go_sem]; try omega) rfl (ret_val ?_ ?_)
    · simp [normV, nev, alw, nv, *]
    · repeat (first | exact Below.refl _ _ | (refine Below.alloc ?_ (by simp; try omega) _) | (refine Below.setCell ?_ (by simp; try omega) _) | apply Below.drew)
  · have hq' : v ≤ m := by omega
    go_enter Try.func19, Try.ntmps19
    go_wp2_with (first | fail | go_in)
    refine bodyPost_ret (v := .agg #[.bool false, .bool false, .bool true, .int .i64 6, .int .u64 m, .int .u64 v]) (by simp [results, Try.results19, go_sem]; try omega) rfl (ret_val ?_ ?_)
    · simp [normV, nev, alw, nv, *]
    · repeat (first | exact Below.refl _ _ | (refine Below.alloc ?_ (by simp; try omega) _) | (refine Below.setCell ?_ (by simp; try omega) _) | apply Below.drew)
end Go.Proofs.Ytipapejgemkoaaa
