/- bits.Len64. Condition: x is a uint64. (Turned from the shelf's contract; the table is read differently here.) -/
import Derived.Test.YtjmmbadpknlmcaaSrt0
import Derived.Ground.So_math_bits_Len64
import Derived.Ground.So_math_bits_Len
section
namespace Go.Proofs.Ytjmmbadpknlmcaa
open Go.RowKit Go.Sort
theorem wrap64_inU (n : Int) (h : -9223372036854775808 ≤ n ∧ n ≤ 9223372036854775807) : wrap64 n = n := by unfold wrap64; omega
theorem len8_size : Lib.len8tab.size = 256 := by decide +kernel
theorem len8_fin : ∀ n : Fin 256, ((Lib.len8tab[n.val]!).toNat : Int) = Lib.bitLen n.val := by decide +kernel
theorem len8_tab (y : Int) (h0 : 0 ≤ y) (h1 : y ≤ 255) (hp : y.toNat < Lib.len8tab.size) : ((Lib.len8tab[y.toNat]'hp).toNat : Int) = Lib.bitLen y.toNat := by
  have e := len8_fin ⟨y.toNat, by omega⟩
  simp only at e
  rw [getElem!_pos Lib.len8tab y.toNat hp] at e
  exact e
theorem len_arm {x : Int} {k : Int} {K q : Nat} (s : Lib.bitLen x.toNat = K + Lib.bitLen q) (l : Lib.bitLen q ≤ 8) (hk : K ≤ 56) (hK : k = (K : Int)) : wrap64 (k + wrap64 (Lib.bitLen q : Int)) = (Lib.bitLen x.toNat : Int) := by
  rw [s]
  generalize Lib.bitLen q = b at l ⊢
  subst hK
  rw [wrap64_inU (b : Int) (by omega), wrap64_inU _ (by omega)]
  push_cast
  rfl
theorem len_arm0 {x : Int} (l : Lib.bitLen x.toNat ≤ 8) : wrap64 (wrap64 (Lib.bitLen x.toNat : Int)) = (Lib.bitLen x.toNat : Int) := by
  generalize Lib.bitLen x.toNat = b at l ⊢
  rw [wrap64_inU (b : Int) (by omega), wrap64_inU _ (by omega)]
set_option maxHeartbeats 4000000 in
set_option maxRecDepth 100000 in
theorem bits_Len64_u (x : Int) (w : World) (h0 : 0 ≤ x) (h1 : x ≤ 18446744073709551615) :
    Calls Try.prog 79 #[.int .u64 x] w fun e w' => e = .returned (.int .i64 (Lib.bitLen x.toNat)) ∧ w' = w := by
  go_enter Try.func79, Try.ntmps79
  go_wp2
  all_goals first
    | (exfalso; have hs := len8_size; omega)
    | skip
  all_goals (go_ret; refine ⟨congrArg Ending.returned (congrArg (Value.int IntKind.i64) ?_), rfl⟩)
  all_goals have hs := len8_size
  all_goals rw [len8_tab _ (by omega) (by omega)]
  all_goals first
    | (have l := Lib.bitLen_le8' (x / 4294967296 / 65536 / 256) (by omega) (by omega); have s := Lib.bitLen_shift56 x.toNat (by omega) (by omega); have e : (x / 4294967296 / 65536 / 256).toNat = x.toNat / 72057594037927936 := by omega
       rw [e] at l ⊢; exact len_arm s l (by omega) (by rfl))
    | (have l := Lib.bitLen_le8' (x / 4294967296 / 65536) (by omega) (by omega); have s := Lib.bitLen_shift48 x.toNat (by omega) (by omega); have e : (x / 4294967296 / 65536).toNat = x.toNat / 281474976710656 := by omega
       rw [e] at l ⊢; exact len_arm s l (by omega) (by rfl))
    | (have l := Lib.bitLen_le8' (x / 4294967296 / 256) (by omega) (by omega); have s := Lib.bitLen_shift40 x.toNat (by omega) (by omega); have e : (x / 4294967296 / 256).toNat = x.toNat / 1099511627776 := by omega
       rw [e] at l ⊢; exact len_arm s l (by omega) (by rfl))
    | (have l := Lib.bitLen_le8' (x / 4294967296) (by omega) (by omega); have s := Lib.bitLen_shift32 x.toNat (by omega) (by omega); have e : (x / 4294967296).toNat = x.toNat / 4294967296 := by omega
       rw [e] at l ⊢; exact len_arm s l (by omega) (by rfl))
    | (have l := Lib.bitLen_le8' (x / 65536 / 256) (by omega) (by omega); have s := Lib.bitLen_shift24 x.toNat (by omega) (by omega); have e : (x / 65536 / 256).toNat = x.toNat / 16777216 := by omega
       rw [e] at l ⊢; exact len_arm s l (by omega) (by rfl))
    | (have l := Lib.bitLen_le8' (x / 65536) (by omega) (by omega); have s := Lib.bitLen_shift16 x.toNat (by omega) (by omega); have e : (x / 65536).toNat = x.toNat / 65536 := by omega
       rw [e] at l ⊢; exact len_arm s l (by omega) (by rfl))
    | (have l := Lib.bitLen_le8' (x / 256) (by omega) (by omega); have s := Lib.bitLen_shift8 x.toNat (by omega) (by omega); have e : (x / 256).toNat = x.toNat / 256 := by omega
       rw [e] at l ⊢; exact len_arm s l (by omega) (by rfl))
    | (have l := Lib.bitLen_le8' x (by omega) (by omega); exact len_arm0 l)
end Go.Proofs.Ytjmmbadpknlmcaa
end
section
/- The walk of the library's sort at []uint32: turned by program (gensort.py) from the kit's worked walk ../Ground/So_math_bits_Len. -/
namespace Go.Proofs.Ytjmmbadpknlmcaa
open Go.RowKit Go.Sort
set_option linter.unusedVariables false
set_option linter.unusedSimpArgs false

theorem bits_Len_u (x : Int) (w : World) (h0 : 0 ≤ x) (h1 : x ≤ 18446744073709551615) :
    Calls Try.prog 54 #[.int .u64 x] w fun e w' => e = .returned (.int .i64 (Lib.bitLen x.toNat)) ∧ w' = w := by
  go_enter Try.func54, Try.ntmps54
  go_wp2_with (go_at_call 79; refine (bits_Len64_u x _ h0 h1).mono ?_; rintro e w' ⟨rfl, rfl⟩)
  go_ret
  exact ⟨rfl, rfl⟩
end Go.Proofs.Ytjmmbadpknlmcaa
end
