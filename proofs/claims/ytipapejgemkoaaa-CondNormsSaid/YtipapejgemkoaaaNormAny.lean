/- Norm and Not, of cond and of its reference: what each computes. No conditions but that the numbers are of their kinds. -/
import Derived.Test.YtipapejgemkoaaaCond2
import Derived.Test.YtipapejgemkoaaaNorm
import Derived.Test.YtipapejgemkoaaaNorm2
namespace Go.Proofs.Ytipapejgemkoaaa
open Go.RowKit
attribute [local go_sem ↓] Go.wp_at_zero Go.wp_at_succ

theorem norm_any (a o m v : Int) (hm : 0 ≤ m) (hv : 0 ≤ v) (hm' : m < 18446744073709551616) (hv' : v < 18446744073709551616) (w : World) :
    Calls Try.prog 16 #[.agg #[.int .i64 a, .int .i64 o, .int .u64 m, .int .u64 v]] w (Ret (if rightB a o then normV o m v else nev) w) := by
  cases hr : rightB a o with
  | false =>
    rw [if_neg (by decide)]
    have hF : ¬ (0 ≤ a ∧ a ≤ 5 ∧ 1 ≤ o ∧ o ≤ 6) := by simpa [rightB] using hr
    clear hr
    by_cases q1 : 0 ≤ a
    · by_cases q2 : a ≤ 5
      · by_cases q3 : 1 ≤ o
        · have q4 : 6 < o := by omega
          have q5 : decide (o ≤ 6) = false := by simp; omega
          clear hF
          go_enter Try.func16, Try.ntmps16
          go_wp2
          refine bodyPost_ret (v := .agg #[.bool false, .bool true, .bool false, .int .i64 0, .int .u64 0, .int .u64 0]) (by simp [results, Try.results16, go_sem]) rfl (ret_val rfl ?_)
          repeat (first | exact Below.refl _ _ | (refine Below.alloc ?_ (by simp; try omega) _) | (refine Below.setCell ?_ (by simp; try omega) _) | apply Below.drew)
        · have q4 : o < 1 := by omega
          clear hF q3
          go_enter Try.func16, Try.ntmps16
          go_wp2
          refine bodyPost_ret (v := .agg #[.bool false, .bool true, .bool false, .int .i64 0, .int .u64 0, .int .u64 0]) (by simp [results, Try.results16, go_sem]) rfl (ret_val rfl ?_)
          repeat (first | exact Below.refl _ _ | (refine Below.alloc ?_ (by simp; try omega) _) | (refine Below.setCell ?_ (by simp; try omega) _) | apply Below.drew)
      · have q4 : 5 < a := by omega
        clear hF q2
        go_enter Try.func16, Try.ntmps16
        go_wp2
        refine bodyPost_ret (v := .agg #[.bool false, .bool true, .bool false, .int .i64 0, .int .u64 0, .int .u64 0]) (by simp [results, Try.results16, go_sem]) rfl (ret_val rfl ?_)
        repeat (first | exact Below.refl _ _ | (refine Below.alloc ?_ (by simp; try omega) _) | (refine Below.setCell ?_ (by simp; try omega) _) | apply Below.drew)
    · have q4 : a < 0 := by omega
      clear hF q1
      go_enter Try.func16, Try.ntmps16
      go_wp2
      refine bodyPost_ret (v := .agg #[.bool false, .bool true, .bool false, .int .i64 0, .int .u64 0, .int .u64 0]) (by simp [results, Try.results16, go_sem]) rfl (ret_val rfl ?_)
      repeat (first | exact Below.refl _ _ | (refine Below.alloc ?_ (by simp; try omega) _) | (refine Below.setCell ?_ (by simp; try omega) _) | apply Below.drew)
  | true =>
    have hR : 0 ≤ a ∧ a ≤ 5 ∧ 1 ≤ o ∧ o ≤ 6 := by simpa [rightB] using hr
    obtain ⟨ha0, ha5, ho1, ho6⟩ := hR
    rw [if_pos rfl]
    obtain rfl | rfl | rfl | rfl | rfl | rfl : o = 1 ∨ o = 2 ∨ o = 3 ∨ o = 4 ∨ o = 5 ∨ o = 6 := by omega
    · exact norm_1 a m v ha0 ha5 hm hv hm' hv' w
    · exact norm_2 a m v ha0 ha5 hm hv hm' hv' w
    · exact norm_3 a m v ha0 ha5 hm hv hm' hv' w
    · exact norm_4 a m v ha0 ha5 hm hv hm' hv' w
    · exact norm_5 a m v ha0 ha5 hm hv hm' hv' w
    · exact norm_6 a m v ha0 ha5 hm hv hm' hv' w
theorem norm2_any (a o m v : Int) (hm : 0 ≤ m) (hv : 0 ≤ v) (hm' : m < 18446744073709551616) (hv' : v < 18446744073709551616) (w : World) :
    Calls Try.prog 19 #[.agg #[.int .i64 a, .int .i64 o, .int .u64 m, .int .u64 v]] w (Ret (if rightB a o then normV o m v else nev) w) := by
  cases hr : rightB a o with
  | false =>
    rw [if_neg (by decide)]
    have hF : ¬ (0 ≤ a ∧ a ≤ 5 ∧ 1 ≤ o ∧ o ≤ 6) := by simpa [rightB] using hr
    clear hr
    by_cases q1 : 0 ≤ a
    · by_cases q2 : a ≤ 5
      · by_cases q3 : 1 ≤ o
        · have q4 : 6 < o := by omega
          have q5 : decide (o ≤ 6) = false := by simp; omega
          clear hF
          go_enter Try.func19, Try.ntmps19
          go_wp2
          refine bodyPost_ret (v := .agg #[.bool false, .bool true, .bool false, .int .i64 0, .int .u64 0, .int .u64 0]) (by simp [results, Try.results19, go_sem]) rfl (ret_val rfl ?_)
          repeat (first | exact Below.refl _ _ | (refine Below.alloc ?_ (by simp; try omega) _) | (refine Below.setCell ?_ (by simp; try omega) _) | apply Below.drew)
        · have q4 : o < 1 := by omega
          clear hF q3
          go_enter Try.func19, Try.ntmps19
          go_wp2
          refine bodyPost_ret (v := .agg #[.bool false, .bool true, .bool false, .int .i64 0, .int .u64 0, .int .u64 0]) (by simp [results, Try.results19, go_sem]) rfl (ret_val rfl ?_)
          repeat (first | exact Below.refl _ _ | (refine Below.alloc ?_ (by simp; try omega) _) | (refine Below.setCell ?_ (by simp; try omega) _) | apply Below.drew)
      · have q4 : 5 < a := by omega
        clear hF q2
        go_enter Try.func19, Try.ntmps19
        go_wp2
        refine bodyPost_ret (v := .agg #[.bool false, .bool true, .bool false, .int .i64 0, .int .u64 0, .int .u64 0]) (by simp [results, Try.results19, go_sem]) rfl (ret_val rfl ?_)
        repeat (first | exact Below.refl _ _ | (refine Below.alloc ?_ (by simp; try omega) _) | (refine Below.setCell ?_ (by simp; try omega) _) | apply Below.drew)
    · have q4 : a < 0 := by omega
      clear hF q1
      go_enter Try.func19, Try.ntmps19
      go_wp2
      refine bodyPost_ret (v := .agg #[.bool false, .bool true, .bool false, .int .i64 0, .int .u64 0, .int .u64 0]) (by simp [results, Try.results19, go_sem]) rfl (ret_val rfl ?_)
      repeat (first | exact Below.refl _ _ | (refine Below.alloc ?_ (by simp; try omega) _) | (refine Below.setCell ?_ (by simp; try omega) _) | apply Below.drew)
  | true =>
    have hR : 0 ≤ a ∧ a ≤ 5 ∧ 1 ≤ o ∧ o ≤ 6 := by simpa [rightB] using hr
    obtain ⟨ha0, ha5, ho1, ho6⟩ := hR
    rw [if_pos rfl]
    obtain rfl | rfl | rfl | rfl | rfl | rfl : o = 1 ∨ o = 2 ∨ o = 3 ∨ o = 4 ∨ o = 5 ∨ o = 6 := by omega
    · exact norm2_1 a m v ha0 ha5 hm hv hm' hv' w
    · exact norm2_2 a m v ha0 ha5 hm hv hm' hv' w
    · exact norm2_3 a m v ha0 ha5 hm hv hm' hv' w
    · exact norm2_4 a m v ha0 ha5 hm hv hm' hv' w
    · exact norm2_5 a m v ha0 ha5 hm hv hm' hv' w
    · exact norm2_6 a m v ha0 ha5 hm hv hm' hv' w
end Go.Proofs.Ytipapejgemkoaaa
