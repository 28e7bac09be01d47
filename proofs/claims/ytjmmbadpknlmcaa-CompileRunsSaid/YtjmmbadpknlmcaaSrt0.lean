/- The walk of the library's sort at []uint32: turned by program (gensort.py) from the kit's worked walk Walk0. -/
import Derived.Test.YtjmmbadpknlmcaaProg
import Derived.Lib.Hide
import Derived.WalkKit
import Derived.Sort.Walk0
namespace Go.Proofs.Ytjmmbadpknlmcaa
open Go.RowKit Go.Sort
set_option linter.unusedVariables false
set_option linter.unusedSimpArgs false

abbrev encU : Int → Value := fun x => Value.int .u32 x

set_option maxHeartbeats 1000000 in
theorem cmp_isNaN_int_u (x : Int) (w : World) : Calls Try.prog 93 #[.int .u32 x] w fun e w' => e = .returned (.bool false) ∧ w' = w := by
  go_enter Try.func93, Try.ntmps93
  go_wp2
  go_ret
  exact ⟨by simp, rfl⟩

set_option maxHeartbeats 1000000 in
theorem cmp_Less_int_u (x y : Int) (w : World) : Calls Try.prog 75 #[.int .u32 x, .int .u32 y] w fun e w' => e = .returned (.bool (Sort.ltInt x y)) ∧ w' = w := by
  go_enter Try.func75, Try.ntmps75
  go_wp2_with (go_at_call 93; refine (cmp_isNaN_int_u _ _).mono ?_; rintro e w' ⟨rfl, rfl⟩)
  go_ret
  exact ⟨rfl, rfl⟩
end Go.Proofs.Ytjmmbadpknlmcaa
