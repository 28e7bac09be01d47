/- Norm and Not, of cond and of its reference: what each computes. No conditions but that the numbers are of their kinds. -/
import Derived.Test.YtjmmbadpknlmcaaCond
namespace Go.Proofs.Ytjmmbadpknlmcaa
open Go.RowKit
attribute [local go_sem ↓] Go.wp_at_zero Go.wp_at_succ

def nv (al ne no : Bool) (op m v : Int) : Value := .agg #[.bool al, .bool ne, .bool no, .int .i64 op, .int .u64 m, .int .u64 v]
def nev : Value := nv false true false 0 0 0
def alw : Value := nv true false false 0 0 0
def outB (m v : Int) : Bool := bits .andNot .u64 v m != 0
def normV (o m v : Int) : Value :=
  if o = 1 then (if outB m v then nev else nv false false false 1 m v)
  else if o = 2 then (if outB m v then alw else nv false false true 1 m v)
  else if o = 5 then (if m ≤ v then nev else nv false false false 5 m v)
  else if o = 4 then (if m ≤ v then alw else nv false false true 5 m v)
  else if o = 6 then (if v = 0 then alw else if m < v then nev else nv false false false 6 m v)
  else (if v = 0 then nev else if m < v then alw else nv false false true 6 m v)
theorem ret_val {u v : Value} {w w' : World} (h : u = v) (hb : Below w.heap.size w w') : Ret v w (.returned u) w' := ⟨by rw [h], hb⟩

set_option maxRecDepth 100000 in
set_option maxHeartbeats 1000000 in
theorem norm_1 (a m v : Int) (h0 : 0 ≤ a) (h5 : a ≤ 5) (hm : 0 ≤ m) (hv : 0 ≤ v) (hm' : m < 18446744073709551616) (hv' : v < 18446744073709551616) (w : World) :
    Calls Try.prog 37 #[.agg #[.int .i64 a, .int .i64 1, .int .u64 m, .int .u64 v]] w (Ret (normV 1 m v) w) := by
  cases hq : outB m v with
  | true =>
    have h : (bits .andNot .u64 v m != 0) = true := hq
    go_enter Try.func37, Try.ntmps37
    go_wp2_with (first | (go_at_call 56; refine (way_1 _).mono ?_; rintro e w' ⟨rfl, rfl⟩) | go_in)
    refine bodyPost_ret (v := .agg #[.bool false, .bool true, .bool false, .int .i64 0, .int .u64 0, .int .u64 0]) (by simp [results, Try.results37, go_sem]; try omega) rfl (ret_val ?_ ?_)
    · simp [normV, nev, alw, nv, *]
    · repeat (first | exact Below.refl _ _ | (refine Below.alloc ?_ (by simp; try omega) _) | (refine Below.setCell ?_ (by simp; try omega) _) | apply Below.drew)
  | false =>
    have h : (bits .andNot .u64 v m != 0) = false := hq
    go_enter Try.func37, Try.ntmps37
    go_wp2_with (first | (go_at_call 56; refine (way_1 _).mono ?_; rintro e w' ⟨rfl, rfl⟩) | go_in)
    refine bodyPost_ret (v := .agg #[.bool false, .bool false, .bool false, .int .i64 1, .int .u64 m, .int .u64 v]) (by simp [results, Try.results37, go_sem]; try omega) rfl (ret_val ?_ ?_)
    · simp [normV, nev, alw, nv, *]
    · repeat (first | exact Below.refl _ _ | (refine Below.alloc ?_ (by simp; try omega) _) | (refine Below.setCell ?_ (by simp; try omega) _) | apply Below.drew)
set_option maxRecDepth 100000 in
set_option maxHeartbeats 1000000 in
theorem norm_2 (a m v : Int) (h0 : 0 ≤ a) (h5 : a ≤ 5) (hm : 0 ≤ m) (hv : 0 ≤ v) (hm' : m < 18446744073709551616) (hv' : v < 18446744073709551616) (w : World) :
    Calls Try.prog 37 #[.agg #[.int .i64 a, .int .i64 2, .int .u64 m, .int .u64 v]] w (Ret (normV 2 m v) w) := by
  cases hq : outB m v with
  | true =>
    have h : (bits .andNot .u64 v m != 0) = true := hq
    go_enter Try.func37, Try.ntmps37
    go_wp2_with (first | (go_at_call 56; refine (way_2 _).mono ?_; rintro e w' ⟨rfl, rfl⟩) | go_in)
    refine bodyPost_ret (v := .agg #[.bool true, .bool false, .bool false, .int .i64 0, .int .u64 0, .int .u64 0]) (by simp [results, Try.results37, go_sem]; try omega) rfl (ret_val ?_ ?_)
    · simp [normV, nev, alw, nv, *]
    · repeat (first | exact Below.refl _ _ | (refine Below.alloc ?_ (by simp; try omega) _) | (refine Below.setCell ?_ (by simp; try omega) _) | apply Below.drew)
  | false =>
    have h : (bits .andNot .u64 v m != 0) = false := hq
    go_enter Try.func37, Try.ntmps37
    go_wp2_with (first | (go_at_call 56; refine (way_2 _).mono ?_; rintro e w' ⟨rfl, rfl⟩) | go_in)
    refine bodyPost_ret (v := .agg #[.bool false, .bool false, .bool true, .int .i64 1, .int .u64 m, .int .u64 v]) (by simp [results, Try.results37, go_sem]; try omega) rfl (ret_val ?_ ?_)
    · simp [normV, nev, alw, nv, *]
    · repeat (first | exact Below.refl _ _ | (refine Below.alloc ?_ (by simp; try omega) _) | (refine Below.setCell ?_ (by simp; try omega) _) | apply Below.drew)
set_option maxRecDepth 100000 in
set_option maxHeartbeats 1000000 in
theorem norm_5 (a m v : Int) (h0 : 0 ≤ a) (h5 : a ≤ 5) (hm : 0 ≤ m) (hv : 0 ≤ v) (hm' : m < 18446744073709551616) (hv' : v < 18446744073709551616) (w : World) :
    Calls Try.prog 37 #[.agg #[.int .i64 a, .int .i64 5, .int .u64 m, .int .u64 v]] w (Ret (normV 5 m v) w) := by
  by_cases hq : m ≤ v
  · have hq' : ¬ v < m := by omega
    go_enter Try.func37, Try.ntmps37
    go_wp2_with (first | (go_at_call 56; refine (way_5 _).mono ?_; rintro e w' ⟨rfl, rfl⟩) | go_in)
    refine bodyPost_ret (v := .agg #[.bool false, .bool true, .bool false, .int .i64 0, .int .u64 0, .int .u64 0]) (by simp [results, Try.results37, go_sem]; try omega) rfl (ret_val ?_ ?_)
    · simp [normV, nev, alw, nv, *]
    · repeat (first | exact Below.refl _ _ | (refine Below.alloc ?_ (by simp; try omega) _) | (refine Below.setCell ?_ (by simp; try omega) _) | apply Below.drew)
  · have hq' : v < m := by omega
    go_enter Try.func37, Try.ntmps37
    go_wp2_with (first | (go_at_call 56; refine (way_5 _).mono ?_; rintro e w' ⟨rfl, rfl⟩) | go_in)
    refine bodyPost_ret (v := .agg #[.bool false, .bool false, .bool false, .int .i64 5, .int .u64 m, .int .u64 v]) (by simp [results, Try.results37, go_sem]; try omega) rfl (ret_val ?_ ?_)
    · simp [normV, nev, alw, nv, *]
    · repeat (first | exact Below.refl _ _ | (refine Below.alloc ?_ (by simp; try omega) _) | (refine Below.setCell ?_ (by simp; try omega) _) | apply Below.drew)
set_option maxRecDepth 100000 in
set_option maxHeartbeats 1000000 in
theorem norm_4 (a m v : Int) (h0 : 0 ≤ a) (h5 : a ≤ 5) (hm : 0 ≤ m) (hv : 0 ≤ v) (hm' : m < 18446744073709551616) (hv' : v < 18446744073709551616) (w : World) :
    Calls Try.prog 37 #[.agg #[.int .i64 a, .int .i64 4, .int .u64 m, .int .u64 v]] w (Ret (normV 4 m v) w) := by
  by_cases hq : m ≤ v
  · have hq' : ¬ v < m := by omega
    go_enter Try.func37, Try.ntmps37
    go_wp2_with (first | (go_at_call 56; refine (way_4 _).mono ?_; rintro e w' ⟨rfl, rfl⟩) | go_in)
    refine bodyPost_ret (v := .agg #[.bool true, .bool false, .bool false, .int .i64 0, .int .u64 0, .int .u64 0]) (by simp [results, Try.results37, go_sem]; try omega) rfl (ret_val ?_ ?_)
    · simp [normV, nev, alw, nv, *]
    · repeat (first | exact Below.refl _ _ | (refine Below.alloc ?_ (by simp; try omega) _) | (refine Below.setCell ?_ (by simp; try omega) _) | apply Below.drew)
  · have hq' : v < m := by omega
    go_enter Try.func37, Try.ntmps37
    go_wp2_with (first | (go_at_call 56; refine (way_4 _).mono ?_; rintro e w' ⟨rfl, rfl⟩) | go_in)
    refine bodyPost_ret (v := .agg #[.bool false, .bool false, .bool true, .int .i64 5, .int .u64 m, .int .u64 v]) (by simp [results, Try.results37, go_sem]; try omega) rfl (ret_val ?_ ?_)
    · simp [normV, nev, alw, nv, *]
    · repeat (first | exact Below.refl _ _ | (refine Below.alloc ?_ (by simp; try omega) _) | (refine Below.setCell ?_ (by simp; try omega) _) | apply Below.drew)
set_option maxRecDepth 100000 in
set_option maxHeartbeats 1000000 in
theorem norm_6 (a m v : Int) (h0 : 0 ≤ a) (h5 : a ≤ 5) (hm : 0 ≤ m) (hv : 0 ≤ v) (hm' : m < 18446744073709551616) (hv' : v < 18446744073709551616) (w : World) :
    Calls Try.prog 37 #[.agg #[.int .i64 a, .int .i64 6, .int .u64 m, .int .u64 v]] w (Ret (normV 6 m v) w) := by
  by_cases hz : v = 0
  · subst hz
    have hm0 : decide (m < 0) = false := by simpa using hm
    go_enter Try.func37, Try.ntmps37
    go_wp2_with (first | (go_at_call 56; refine (way_6 _).mono ?_; rintro e w' ⟨rfl, rfl⟩) | go_in)
    refine bodyPost_ret (v := .agg #[.bool true, .bool false, .bool false, .int .i64 0, .int .u64 0, .int .u64 0]) (by simp [results, Try.results37, go_sem]; try omega) rfl (ret_val ?_ ?_)
    · simp [normV, nev, alw, nv, *]
    · repeat (first | exact Below.refl _ _ | (refine Below.alloc ?_ (by simp; try omega) _) | (refine Below.setCell ?_ (by simp; try omega) _) | apply Below.drew)
  have hz' : (v == 0) = false := by simpa using hz
  have hz2 : 0 < v := by omega
  by_cases hq : m < v
  · have hq' : ¬ v ≤ m := by omega
    go_enter Try.func37, Try.ntmps37
    go_wp2_with (first | (go_at_call 56; refine (way_6 _).mono ?_; rintro e w' ⟨rfl, rfl⟩) | go_in)
    refine bodyPost_ret (v := .agg #[.bool false, .bool true, .bool false, .int .i64 0, .int .u64 0, .int .u64 0]) (by simp [results, Try.results37, go_sem]; try omega) rfl (ret_val ?_ ?_)
    · simp [normV, nev, alw, nv, *]
    · repeat (first | exact Below.refl _ _ | (refine Below.alloc ?_ (by simp; try omega) _) | (refine Below.setCell ?_ (by simp; try omega) _) | apply Below.drew)
  · have hq' : v ≤ m := by omega
    go_enter Try.func37, Try.ntmps37
    go_wp2_with (first | (go_at_call 56; refine (way_6 _).mono ?_; rintro e w' ⟨rfl, rfl⟩) | go_in)
    refine bodyPost_ret (v := .agg #[.bool false, .bool false, .bool false, .int .i64 6, .int .u64 m, .int .u64 v]) (by simp [results, Try.results37, go_sem]; try omega) rfl (ret_val ?_ ?_)
    · simp [normV, nev, alw, nv, *]
    · repeat (first | exact Below.refl _ _ | (refine Below.alloc ?_ (by simp; try omega) _) | (refine Below.setCell ?_ (by simp; try omega) _) | apply Below.drew)
set_option maxRecDepth 100000 in
set_option maxHeartbeats 1000000 in
theorem norm_3 (a m v : Int) (h0 : 0 ≤ a) (h5 : a ≤ 5) (hm : 0 ≤ m) (hv : 0 ≤ v) (hm' : m < 18446744073709551616) (hv' : v < 18446744073709551616) (w : World) :
    Calls Try.prog 37 #[.agg #[.int .i64 a, .int .i64 3, .int .u64 m, .int .u64 v]] w (Ret (normV 3 m v) w) := by
  by_cases hz : v = 0
  · subst hz
    have hm0 : decide (m < 0) = false := by simpa using hm
    go_enter Try.func37, Try.ntmps37
    go_wp2_with (first | (go_at_call 56; refine (way_3 _).mono ?_; rintro e w' ⟨rfl, rfl⟩) | go_in)
    refine bodyPost_ret (v := .agg #[.bool false, .bool true, .bool false, .int .i64 0, .int .u64 0, .int .u64 0]) (by simp [results, Try.results37, go_sem]; try omega) rfl (ret_val ?_ ?_)
    · simp [normV, nev, alw, nv, *]
    · repeat (first | exact Below.refl _ _ | (refine Below.alloc ?_ (by simp; try omega) _) | (refine Below.setCell ?_ (by simp; try omega) _) | apply Below.drew)
  have hz' : (v == 0) = false := by simpa using hz
  have hz2 : 0 < v := by omega
  by_cases hq : m < v
  · have hq' : ¬ v ≤ m := by omega
    go_enter Try.func37, Try.ntmps37
    go_wp2_with (first | (go_at_call 56; refine (way_3 _).mono ?_; rintro e w' ⟨rfl, rfl⟩) | go_in)
    refine bodyPost_ret (v := .agg #[.bool true, .bool false, .bool false, .int .i64 0, .int .u64 0, .int .u64 0]) (by simp [results, Try.results37, go_sem]; try omega) rfl (ret_val ?_ ?_)
    · simp [normV, nev, alw, nv, *]
    · repeat (first | exact Below.refl _ _ | (refine Below.alloc ?_ (by simp; try omega) _) | (refine Below.setCell ?_ (by simp; try omega) _) | apply Below.drew)
  · have hq' : v ≤ m := by omega
    go_enter Try.func37, Try.ntmps37
    go_wp2_with (first | (go_at_call 56; refine (way_3 _).mono ?_; rintro e w' ⟨rfl, rfl⟩) | go_in)
    refine bodyPost_ret (v := .agg #[.bool false, .bool false, .bool true, .int .i64 6, .int .u64 m, .int .u64 v]) (by simp [results, Try.results37, go_sem]; try omega) rfl (ret_val ?_ ?_)
    · simp [normV, nev, alw, nv, *]
    · repeat (first | exact Below.refl _ _ | (refine Below.alloc ?_ (by simp; try omega) _) | (refine Below.setCell ?_ (by simp; try omega) _) | apply Below.drew)
set_option maxRecDepth 100000 in
set_option maxHeartbeats 1000000 in
theorem norm_any (a o m v : Int) (hm : 0 ≤ m) (hv : 0 ≤ v) (hm' : m < 18446744073709551616) (hv' : v < 18446744073709551616) (w : World) :
    Calls Try.prog 37 #[.agg #[.int .i64 a, .int .i64 o, .int .u64 m, .int .u64 v]] w (Ret (if rightB a o then normV o m v else nev) w) := by
  cases hr : rightB a o with
  | false =>
    rw [if_neg (by decide)]
    have hF : ¬ (0 ≤ a ∧ a ≤ 5 ∧ 1 ≤ o ∧ o ≤ 6) := by simpa [rightB] using hr
    clear hr
    by_cases q1 : 0 ≤ a
    · by_cases q2 : a ≤ 5
      · by_cases q3 : 1 ≤ o
        · have q4 : 6 < o := by omega
          have q5 : decide (o ≤ 6) = false := by simp; omega
          clear hF
          go_enter Try.func37, Try.ntmps37
          go_wp2
          refine bodyPost_ret (v := .agg #[.bool false, .bool true, .bool false, .int .i64 0, .int .u64 0, .int .u64 0]) (by simp [results, Try.results37, go_sem]) rfl (ret_val rfl ?_)
          repeat (first | exact Below.refl _ _ | (refine Below.alloc ?_ (by simp; try omega) _) | (refine Below.setCell ?_ (by simp; try omega) _) | apply Below.drew)
        · have q4 : o < 1 := by omega
          clear hF q3
          go_enter Try.func37, Try.ntmps37
          go_wp2
          refine bodyPost_ret (v := .agg #[.bool false, .bool true, .bool false, .int .i64 0, .int .u64 0, .int .u64 0]) (by simp [results, Try.results37, go_sem]) rfl (ret_val rfl ?_)
          repeat (first | exact Below.refl _ _ | (refine Below.alloc ?_ (by simp; try omega) _) | (refine Below.setCell ?_ (by simp; try omega) _) | apply Below.drew)
      · have q4 : 5 < a := by omega
        clear hF q2
        go_enter Try.func37, Try.ntmps37
        go_wp2
        refine bodyPost_ret (v := .agg #[.bool false, .bool true, .bool false, .int .i64 0, .int .u64 0, .int .u64 0]) (by simp [results, Try.results37, go_sem]) rfl (ret_val rfl ?_)
        repeat (first | exact Below.refl _ _ | (refine Below.alloc ?_ (by simp; try omega) _) | (refine Below.setCell ?_ (by simp; try omega) _) | apply Below.drew)
    · have q4 : a < 0 := by omega
      clear hF q1
      go_enter Try.func37, Try.ntmps37
      go_wp2
      refine bodyPost_ret (v := .agg #[.bool false, .bool true, .bool false, .int .i64 0, .int .u64 0, .int .u64 0]) (by simp [results, Try.results37, go_sem]) rfl (ret_val rfl ?_)
      repeat (first | exact Below.refl _ _ | (refine Below.alloc ?_ (by simp; try omega) _) | (refine Below.setCell ?_ (by simp; try omega) _) | apply Below.drew)
  | true =>
    have hR : 0 ≤ a ∧ a ≤ 5 ∧ 1 ≤ o ∧ o ≤ 6 := by simpa [rightB] using hr
    obtain ⟨ha0, ha5, ho1, ho6⟩ := hR
    rw [if_pos rfl]
    obtain rfl | rfl | rfl | rfl | rfl | rfl : o = 1 ∨ o = 2 ∨ o = 3 ∨ o = 4 ∨ o = 5 ∨ o = 6 := by omega
    · exact norm_1 a m v ha0 ha5 hm hv hm' hv' w
    · exact norm_2 a m v ha0 ha5 hm hv hm' hv' w
    · exact norm_3 a m v ha0 ha5 hm hv hm' hv' w
    · exact norm_4 a m v ha0 ha5 hm hv hm' hv' w
    · exact norm_5 a m v ha0 ha5 hm hv hm' hv' w
    · exact norm_6 a m v ha0 ha5 hm hv hm' hv' w
end Go.Proofs.Ytjmmbadpknlmcaa
