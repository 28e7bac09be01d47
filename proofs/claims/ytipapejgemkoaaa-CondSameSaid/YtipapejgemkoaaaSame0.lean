/- CondSame: whatever the condition and the number, the law returns true. No conditions but that the numbers are of their kinds. -/
import Derived.Test.YtipapejgemkoaaaLaw3
namespace Go.Proofs.Ytipapejgemkoaaa
open Go.RowKit
attribute [local go_sem ↓] Go.wp_at_zero Go.wp_at_succ

theorem and_le (x m : Int) (hx : 0 ≤ x) (hx' : x < 18446744073709551616) (hm : 0 ≤ m) (hm' : m < 18446744073709551616) : 0 ≤ bits .and .u64 x m ∧ bits .and .u64 x m ≤ m := by
  rw [u64_and x m hx hx' hm hm']
  have := Nat.and_le_right (n := x.toNat) (m := m.toNat)
  omega
theorem and_out (x m v : Int) (hx : 0 ≤ x) (hx' : x < 18446744073709551616) (hm : 0 ≤ m) (hm' : m < 18446744073709551616) (hv : 0 ≤ v) (hv' : v < 18446744073709551616) (h : outB m v = true) : bits .and .u64 x m ≠ v := by
  intro he
  have ho := or_out m v hm hv hm' hv'
  have : (bits .or .u64 v m != m) = true := ho.trans h
  rw [u64_or v m hv hv' hm hm', bne_iff_ne] at this
  rw [u64_and x m hx hx' hm hm'] at he
  apply this
  have e : v.toNat = x.toNat &&& m.toNat := by omega
  rw [e]
  have e2 : (x.toNat &&& m.toNat) ||| m.toNat = m.toNat := by
    apply Nat.eq_of_testBit_eq
    intro i
    rw [Nat.testBit_or, Nat.testBit_and]
    cases x.toNat.testBit i <;> cases m.toNat.testBit i <;> rfl
  rw [e2]
  omega

theorem norm_is (a o m v x : Int) (hx : 0 ≤ x) (hx' : x < 18446744073709551616) (hm : 0 ≤ m) (hm' : m < 18446744073709551616) (hv : 0 ≤ v) (hv' : v < 18446744073709551616) :
    ∃ (al ne no : Bool) (p q r : Int), (if rightB a o then normV o m v else nev) = .agg #[.bool al, .bool ne, .bool no, .int .i64 p, .int .u64 q, .int .u64 r] ∧
      isB al ne no p q r x = (rightB a o && cmpB o (bits .and .u64 x m) v) ∧ (al = true → (rightB a o && cmpB o (bits .and .u64 x m) v) = true) ∧ (ne = true → (rightB a o && cmpB o (bits .and .u64 x m) v) = false) ∧ (al && ne) = false := by
  obtain ⟨l0, l1⟩ := and_le x m hx hx' hm hm'
  have lo := and_out x m v hx hx' hm hm' hv hv'
  cases hr : rightB a o with
  | false => exact ⟨_, _, _, _, _, _, rfl, by simp [isB], by simp, by simp, rfl⟩
  | true =>
    have hR : 0 ≤ a ∧ a ≤ 5 ∧ 1 ≤ o ∧ o ≤ 6 := by simpa [rightB] using hr
    obtain ⟨ha0, ha5, ho1, ho6⟩ := hR
    generalize hy : bits .and .u64 x m = y at *
    obtain rfl | rfl | rfl | rfl | rfl | rfl : o = 1 ∨ o = 2 ∨ o = 3 ∨ o = 4 ∨ o = 5 ∨ o = 6 := by omega
    · cases hq : outB m v with
      | true => have := lo hq; exact ⟨false, true, false, 0, 0, 0, by simp [normV, hq, nev, nv], by simp [isB, cmpB, this], by simp, by simp [cmpB, this], rfl⟩
      | false => exact ⟨false, false, false, 1, m, v, by simp [normV, hq, nv], by simp [isB, cmpB, hy], by simp, by simp, rfl⟩
    · cases hq : outB m v with
      | true => have := lo hq; exact ⟨true, false, false, 0, 0, 0, by simp [normV, hq, alw, nv], by simp [isB, cmpB, this], by simp [cmpB, this], by simp, rfl⟩
      | false => exact ⟨false, false, true, 1, m, v, by simp [normV, hq, nv], by rw [Bool.eq_iff_iff]; simp [isB, cmpB, hy], by simp, by simp, rfl⟩
    · by_cases hz : v = 0
      · exact ⟨false, true, false, 0, 0, 0, by simp [normV, hz, nev, nv], by simp [isB, cmpB, hz]; omega, by simp, by simp [cmpB, hz]; omega, rfl⟩
      · by_cases hq : m < v
        · exact ⟨true, false, false, 0, 0, 0, by simp [normV, hz, hq, alw, nv], by simp [isB, cmpB]; omega, by simp [cmpB]; omega, by simp, rfl⟩
        · exact ⟨false, false, true, 6, m, v, by simp [normV, hz, hq, nv], by rw [Bool.eq_iff_iff]; simp [isB, cmpB, hy], by simp, by simp, rfl⟩
    · by_cases hq : m ≤ v
      · exact ⟨true, false, false, 0, 0, 0, by simp [normV, hq, alw, nv], by simp [isB, cmpB]; omega, by simp [cmpB]; omega, by simp, rfl⟩
      · exact ⟨false, false, true, 5, m, v, by simp [normV, hq, nv], by rw [Bool.eq_iff_iff]; simp [isB, cmpB, hy], by simp, by simp, rfl⟩
    · by_cases hq : m ≤ v
      · exact ⟨false, true, false, 0, 0, 0, by simp [normV, hq, nev, nv], by simp [isB, cmpB]; omega, by simp, by simp [cmpB]; omega, rfl⟩
      · exact ⟨false, false, false, 5, m, v, by simp [normV, hq, nv], by simp [isB, cmpB, hy], by simp, by simp, rfl⟩
    · by_cases hz : v = 0
      · exact ⟨true, false, false, 0, 0, 0, by simp [normV, hz, alw, nv], by simp [isB, cmpB, hz]; omega, by simp [cmpB, hz]; omega, by simp, rfl⟩
      · by_cases hq : m < v
        · exact ⟨false, true, false, 0, 0, 0, by simp [normV, hz, hq, nev, nv], by simp [isB, cmpB]; omega, by simp, by simp [cmpB]; omega, rfl⟩
        · exact ⟨false, false, false, 6, m, v, by simp [normV, hz, hq, nv], by simp [isB, cmpB, hy], by simp, by simp, rfl⟩
end Go.Proofs.Ytipapejgemkoaaa
