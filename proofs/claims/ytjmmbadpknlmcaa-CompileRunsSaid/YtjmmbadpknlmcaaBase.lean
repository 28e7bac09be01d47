/- Two facts of the program. No conditions. -/
import Derived.Test.YtjmmbadpknlmcaaChecked
import Derived.Test.YtjmmbadpknlmcaaTop
namespace Go.Proofs.Ytjmmbadpknlmcaa
open Go.ChangeShapes Go.WideShapes Go.RowKit
theorem own : ownKnob Try.prog.godebug = none := by kernel_rfl
theorem laidOut : laidOutB Try.prog = true := by kernel_rfl
end Go.Proofs.Ytjmmbadpknlmcaa
