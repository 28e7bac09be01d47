/- Plain laws on the bits of 64-bit words. No Go in sight. -/
import Derived.WalkKit
namespace Go.Proofs.Ytipapejgemkoaaa

theorem mask_bit (b i : Nat) (hb : b < 18446744073709551616) : (18446744073709551615 - b).testBit i = (decide (i < 64) && !b.testBit i) := by
  have h := Nat.testBit_two_pow_sub_succ (x := b) (n := 64) (by simpa using hb) i
  have e : 2 ^ 64 - (b + 1) = 18446744073709551615 - b := by omega
  rw [e] at h
  exact h

theorem nat_out (a b : Nat) (ha : a < 18446744073709551616) (hb : b < 18446744073709551616) : (a ||| b = b) ↔ (a &&& (18446744073709551615 - b) = 0) := by
  constructor
  · intro h
    apply Nat.eq_of_testBit_eq
    intro i
    rw [Nat.testBit_and, mask_bit b i hb, Nat.zero_testBit]
    have hi := congrArg (fun x => Nat.testBit x i) h
    simp only [Nat.testBit_or] at hi
    revert hi
    cases a.testBit i <;> cases b.testBit i <;> simp
  · intro h
    apply Nat.eq_of_testBit_eq
    intro i
    have hi := congrArg (fun x => Nat.testBit x i) h
    simp only [Nat.testBit_and, mask_bit b i hb, Nat.zero_testBit] at hi
    rw [Nat.testBit_or]
    by_cases hlt : i < 64
    · revert hi
      cases a.testBit i <;> cases b.testBit i <;> simp [hlt]
    · have : a.testBit i = false := Nat.testBit_lt_two_pow (Nat.lt_of_lt_of_le (by simpa using ha) (Nat.pow_le_pow_right (n := 2) (by decide) (show 64 ≤ i by omega)))
      rw [this, Bool.false_or]

theorem or_out (m v : Int) (hm : 0 ≤ m) (hv : 0 ≤ v) (hm' : m < 18446744073709551616) (hv' : v < 18446744073709551616) : (bits .or .u64 v m != m) = (bits .andNot .u64 v m != 0) := by
  rw [u64_or v m hv hv' hm hm', u64_andNot v m hv hv' hm hm']
  have h := nat_out v.toNat m.toNat (by omega) (by omega)
  rw [Bool.eq_iff_iff, bne_iff_ne, bne_iff_ne]
  refine not_congr ?_
  rw [show (((v.toNat ||| m.toNat : Nat) : Int) = m) ↔ (v.toNat ||| m.toNat = m.toNat) from by omega, h]
  omega

/-- Bits that the mask has not do not matter. -/
theorem xor_mask (y x m : Int) (hy : 0 ≤ y) (hx : 0 ≤ x) (hm : 0 ≤ m) (hy' : y < 18446744073709551616) (hx' : x < 18446744073709551616) (hm' : m < 18446744073709551616) :
    bits .and .u64 (bits .xor .u64 y (bits .andNot .u64 x m)) m = bits .and .u64 y m := by
  have hle : x.toNat &&& (18446744073709551615 - m.toNat) < 18446744073709551616 := Nat.lt_of_le_of_lt Nat.and_le_left (by omega)
  have hxo : y.toNat ^^^ (x.toNat &&& (18446744073709551615 - m.toNat)) < 2 ^ 64 := Nat.xor_lt_two_pow (by omega) (by omega)
  rw [u64_andNot x m hx hx' hm hm', u64_xor y _ hy hy' (by omega) (by omega), Int.toNat_natCast, u64_and _ m (by omega) (by omega) hm hm', u64_and y m hy hy' hm hm', Int.toNat_natCast]
  congr 1
  apply Nat.eq_of_testBit_eq
  intro i
  rw [Nat.testBit_and, Nat.testBit_xor, Nat.testBit_and, mask_bit _ _ (by omega), Nat.testBit_and]
  cases y.toNat.testBit i <;> cases x.toNat.testBit i <;> cases m.toNat.testBit i <;> simp
end Go.Proofs.Ytipapejgemkoaaa
