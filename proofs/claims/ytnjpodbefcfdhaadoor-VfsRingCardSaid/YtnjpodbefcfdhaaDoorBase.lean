/- Two facts of the program. No conditions. -/
import Derived.Test.YtnjpodbefcfdhaaDoorChecked
import Derived.Test.YtnjpodbefcfdhaaDoorTop
namespace Go.Proofs.YtnjpodbefcfdhaaDoor
open Go.ChangeShapes Go.WideShapes Go.RowKit
theorem own : ownKnob Tryd.prog.godebug = none := by kernel_rfl
theorem laidOut : laidOutB Tryd.prog = true := by kernel_rfl
end Go.Proofs.YtnjpodbefcfdhaaDoor
