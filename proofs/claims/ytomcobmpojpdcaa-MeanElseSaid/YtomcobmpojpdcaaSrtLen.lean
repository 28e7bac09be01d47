/- The walk of the library's sort at []uint32: turned by program (gensort.py) from the kit's worked walk ../Ground/So_math_bits_Len. -/
import Derived.Ground.So_math_bits_Len
import Derived.Test.YtomcobmpojpdcaaSrtLen6
namespace Go.Proofs.Ytomcobmpojpdcaa
open Go.RowKit Go.Sort
set_option linter.unusedVariables false
set_option linter.unusedSimpArgs false

theorem bits_Len_u (x : Int) (w : World) (h0 : 0 ≤ x) (h1 : x ≤ 18446744073709551615) :
    Calls Try.prog 50 #[.int .u64 x] w fun e w' => e = .returned (.int .i64 (Lib.bitLen x.toNat)) ∧ w' = w := by
  go_enter Try.func50, Try.ntmps50
  go_wp2_with (go_at_call 68; refine (bits_Len64_u x _ h0 h1).mono ?_; rintro e w' ⟨rfl, rfl⟩)
  go_ret
  exact ⟨rfl, rfl⟩
end Go.Proofs.Ytomcobmpojpdcaa
