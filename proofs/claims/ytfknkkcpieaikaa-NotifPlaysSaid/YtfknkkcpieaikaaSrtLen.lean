/- The walk of the library's sort at []uint64: turned by program (gensort.py) from the kit's worked walk ../Ground/So_math_bits_Len. -/
import Derived.Ground.So_math_bits_Len
import Derived.Test.YtfknkkcpieaikaaSrtLen6
namespace Go.Proofs.Ytfknkkcpieaikaa
open Go.RowKit Go.Sort
set_option linter.unusedVariables false
set_option linter.unusedSimpArgs false

theorem bits_Len_u (x : Int) (w : World) (h0 : 0 ≤ x) (h1 : x ≤ 18446744073709551615) :
    Calls Try.prog 45 #[.int .u64 x] w fun e w' => e = .returned (.int .i64 (Lib.bitLen x.toNat)) ∧ w' = w := by
  go_enter Try.func45, Try.ntmps45
  go_wp2_with (go_at_call 56; refine (bits_Len64_u x _ h0 h1).mono ?_; rintro e w' ⟨rfl, rfl⟩)
  go_ret
  exact ⟨rfl, rfl⟩
end Go.Proofs.Ytfknkkcpieaikaa
