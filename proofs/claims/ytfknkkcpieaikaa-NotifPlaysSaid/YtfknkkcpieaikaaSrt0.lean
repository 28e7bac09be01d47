/- The walk of the library's sort at []uint64: turned by program (gensort.py) from the kit's worked walk Walk0. -/
import Derived.Test.YtfknkkcpieaikaaProg
import Derived.Lib.Hide
import Derived.WalkKit
import Derived.Sort.Walk0
namespace Go.Proofs.Ytfknkkcpieaikaa
open Go.RowKit Go.Sort
set_option linter.unusedVariables false
set_option linter.unusedSimpArgs false

abbrev encU : Int → Value := fun x => Value.int .u64 x

set_option maxHeartbeats 1000000 in
theorem cmp_isNaN_int_u (x : Int) (w : World) : Calls Try.prog 62 #[.int .u64 x] w fun e w' => e = .returned (.bool false) ∧ w' = w := by
  go_enter Try.func62, Try.ntmps62
  go_wp2
  go_ret
  exact ⟨by simp, rfl⟩

set_option maxHeartbeats 1000000 in
theorem cmp_Less_int_u (x y : Int) (w : World) : Calls Try.prog 52 #[.int .u64 x, .int .u64 y] w fun e w' => e = .returned (.bool (Sort.ltInt x y)) ∧ w' = w := by
  go_enter Try.func52, Try.ntmps52
  go_wp2_with (go_at_call 62; refine (cmp_isNaN_int_u _ _).mono ?_; rintro e w' ⟨rfl, rfl⟩)
  go_ret
  exact ⟨rfl, rfl⟩
end Go.Proofs.Ytfknkkcpieaikaa
