/-
  No cell of these rows narrows 'for every input' (looked for: loops, veiled, ifaces, maps, wideKeys, modest, calm, conditions, laid).
  DERIVED. THE GIVEN ROWS OF THIS SEAT. 7 by the template 'for every input the law returns true; each argument reads behind the call as it read before'; 0 by the template 'total and deterministic' (their statements: YtomcobmpojpdcaaTotals.lean).
  GIVEN WITH THE SEED: the statements are not yours to turn. If you find one false, say at which input.
  Laid BY PROGRAM, IN A SANDBOX (cutbox-rows.mjs): the forced cells as the released guide's own fill.sh prints them over the translation 8c9e1d413c6e2453… (all of the seat's roots in one cut). By AI agents, Wed Nov 11 2026. No macro, syntax, notation, axiom, sorry.
-/
import Derived.Test.YtomcobmpojpdcaaChecked
import GoSem.Claim
import GoSem.ClaimJoined
import GoSem.ClaimMapViews
import Derived.JoinedTies
import Derived.KernelRfl
namespace Go.Proofs.Ytomcobmpojpdcaa
/- THE CELL 'sum', in the pinned program and in every row, IS THE sha256 OF THE DUMP (.gsa) THAT YtomcobmpojpdcaaProg.lean LOADS. Nothing in Lean hashes anything: it is a label: what it is worth is what the hold of that sum in a sandbox is worth. -/
noncomputable def Try.pinned : Pinned := { name := "ytomcobmpojpdcaa", sum := "8c9e1d413c6e24532acea7a2e16b1f16e02b62ac4953363a72ce3df89031b25a", checked := Try.checked }
namespace Rows
def none {H : Type} : Left H := { results := [], args := [] }

/-- 'fairleadlaw12.MeanNames': WHATEVER THE INPUT: true; the input reads as it did. -/
def meanNamesSpec : ChangeSpec := { name := "meanNames", fn := fun _ => fun
  | [d1, d2] => { results := [.lit (.bool true)], args := [d1, d2] }
  | _ => none }
def meanNamesRow : OpenClaim := { program := "ytomcobmpojpdcaa", sum := "8c9e1d413c6e24532acea7a2e16b1f16e02b62ac4953363a72ce3df89031b25a", func := "fairlead/fairleadlaw12.MeanNames", spec := "meanNames", unfollowed := true, recurses := true, apart := false }
def MeanNamesSaid : Prop := meanNamesRow.holds Try.pinned (OpenSpec.ofChange meanNamesSpec)

/-- ITS FALSE NEIGHBOUR: 'it returns false'. Refute it at one input. -/
def meanNamesWrong : ChangeSpec := { name := "meanNames", fn := fun _ => fun
  | [d1, d2] => { results := [.lit (.bool false)], args := [d1, d2] }
  | _ => none }
def MeanNamesWrongFalsely : Prop := meanNamesRow.holds Try.pinned (OpenSpec.ofChange meanNamesWrong)

/-- 'fairleadlaw12.MeanChecks': WHATEVER THE INPUT: true; the input reads as it did. -/
def meanChecksSpec : ChangeSpec := { name := "meanChecks", fn := fun _ => fun
  | [d] => { results := [.lit (.bool true)], args := [d] }
  | _ => none }
def meanChecksRow : OpenClaim := { program := "ytomcobmpojpdcaa", sum := "8c9e1d413c6e24532acea7a2e16b1f16e02b62ac4953363a72ce3df89031b25a", func := "fairlead/fairleadlaw12.MeanChecks", spec := "meanChecks", unfollowed := true, recurses := true, apart := false }
def MeanChecksSaid : Prop := meanChecksRow.holds Try.pinned (OpenSpec.ofChange meanChecksSpec)

/-- ITS FALSE NEIGHBOUR: 'it returns false'. Refute it at one input. -/
def meanChecksWrong : ChangeSpec := { name := "meanChecks", fn := fun _ => fun
  | [d] => { results := [.lit (.bool false)], args := [d] }
  | _ => none }
def MeanChecksWrongFalsely : Prop := meanChecksRow.holds Try.pinned (OpenSpec.ofChange meanChecksWrong)

/-- 'fairleadlaw12.MeanDecides': WHATEVER THE INPUT: true; the input reads as it did. -/
def meanDecidesSpec : ChangeSpec := { name := "meanDecides", fn := fun _ => fun
  | [d1, d2] => { results := [.lit (.bool true)], args := [d1, d2] }
  | _ => none }
def meanDecidesRow : OpenClaim := { program := "ytomcobmpojpdcaa", sum := "8c9e1d413c6e24532acea7a2e16b1f16e02b62ac4953363a72ce3df89031b25a", func := "fairlead/fairleadlaw12.MeanDecides", spec := "meanDecides", unfollowed := true, recurses := true, apart := false }
def MeanDecidesSaid : Prop := meanDecidesRow.holds Try.pinned (OpenSpec.ofChange meanDecidesSpec)

/-- ITS FALSE NEIGHBOUR: 'it returns false'. Refute it at one input. -/
def meanDecidesWrong : ChangeSpec := { name := "meanDecides", fn := fun _ => fun
  | [d1, d2] => { results := [.lit (.bool false)], args := [d1, d2] }
  | _ => none }
def MeanDecidesWrongFalsely : Prop := meanDecidesRow.holds Try.pinned (OpenSpec.ofChange meanDecidesWrong)

/-- 'fairleadlaw12.MeanFirst': WHATEVER THE INPUT: true; the input reads as it did. -/
def meanFirstSpec : ChangeSpec := { name := "meanFirst", fn := fun _ => fun
  | [d1, d2, d3] => { results := [.lit (.bool true)], args := [d1, d2, d3] }
  | _ => none }
def meanFirstRow : OpenClaim := { program := "ytomcobmpojpdcaa", sum := "8c9e1d413c6e24532acea7a2e16b1f16e02b62ac4953363a72ce3df89031b25a", func := "fairlead/fairleadlaw12.MeanFirst", spec := "meanFirst", unfollowed := true, recurses := true, apart := false }
def MeanFirstSaid : Prop := meanFirstRow.holds Try.pinned (OpenSpec.ofChange meanFirstSpec)

/-- ITS FALSE NEIGHBOUR: 'it returns false'. Refute it at one input. -/
def meanFirstWrong : ChangeSpec := { name := "meanFirst", fn := fun _ => fun
  | [d1, d2, d3] => { results := [.lit (.bool false)], args := [d1, d2, d3] }
  | _ => none }
def MeanFirstWrongFalsely : Prop := meanFirstRow.holds Try.pinned (OpenSpec.ofChange meanFirstWrong)

/-- 'fairleadlaw12.MeanTwo': WHATEVER THE INPUT: true; the input reads as it did. -/
def meanTwoSpec : ChangeSpec := { name := "meanTwo", fn := fun _ => fun
  | [d1, d2, d3] => { results := [.lit (.bool true)], args := [d1, d2, d3] }
  | _ => none }
def meanTwoRow : OpenClaim := { program := "ytomcobmpojpdcaa", sum := "8c9e1d413c6e24532acea7a2e16b1f16e02b62ac4953363a72ce3df89031b25a", func := "fairlead/fairleadlaw12.MeanTwo", spec := "meanTwo", unfollowed := true, recurses := true, apart := false }
def MeanTwoSaid : Prop := meanTwoRow.holds Try.pinned (OpenSpec.ofChange meanTwoSpec)

/-- ITS FALSE NEIGHBOUR: 'it returns false'. Refute it at one input. -/
def meanTwoWrong : ChangeSpec := { name := "meanTwo", fn := fun _ => fun
  | [d1, d2, d3] => { results := [.lit (.bool false)], args := [d1, d2, d3] }
  | _ => none }
def MeanTwoWrongFalsely : Prop := meanTwoRow.holds Try.pinned (OpenSpec.ofChange meanTwoWrong)

/-- 'fairleadlaw12.MeanElse': WHATEVER THE INPUT: true; the input reads as it did. -/
def meanElseSpec : ChangeSpec := { name := "meanElse", fn := fun _ => fun
  | [d1, d2] => { results := [.lit (.bool true)], args := [d1, d2] }
  | _ => none }
def meanElseRow : OpenClaim := { program := "ytomcobmpojpdcaa", sum := "8c9e1d413c6e24532acea7a2e16b1f16e02b62ac4953363a72ce3df89031b25a", func := "fairlead/fairleadlaw12.MeanElse", spec := "meanElse", unfollowed := true, recurses := true, apart := false }
def MeanElseSaid : Prop := meanElseRow.holds Try.pinned (OpenSpec.ofChange meanElseSpec)

/-- ITS FALSE NEIGHBOUR: 'it returns false'. Refute it at one input. -/
def meanElseWrong : ChangeSpec := { name := "meanElse", fn := fun _ => fun
  | [d1, d2] => { results := [.lit (.bool false)], args := [d1, d2] }
  | _ => none }
def MeanElseWrongFalsely : Prop := meanElseRow.holds Try.pinned (OpenSpec.ofChange meanElseWrong)

/-- 'fairleadlaw12.MeanNumbers': WHATEVER THE INPUT: true; the input reads as it did. -/
def meanNumbersSpec : ChangeSpec := { name := "meanNumbers", fn := fun _ => fun
  | [d] => { results := [.lit (.bool true)], args := [d] }
  | _ => none }
def meanNumbersRow : OpenClaim := { program := "ytomcobmpojpdcaa", sum := "8c9e1d413c6e24532acea7a2e16b1f16e02b62ac4953363a72ce3df89031b25a", func := "fairlead/fairleadlaw12.MeanNumbers", spec := "meanNumbers", unfollowed := true, recurses := true, apart := false }
def MeanNumbersSaid : Prop := meanNumbersRow.holds Try.pinned (OpenSpec.ofChange meanNumbersSpec)

/-- ITS FALSE NEIGHBOUR: 'it returns false'. Refute it at one input. -/
def meanNumbersWrong : ChangeSpec := { name := "meanNumbers", fn := fun _ => fun
  | [d] => { results := [.lit (.bool false)], args := [d] }
  | _ => none }
def MeanNumbersWrongFalsely : Prop := meanNumbersRow.holds Try.pinned (OpenSpec.ofChange meanNumbersWrong)

/- THE SECOND FORM. 'bulk': how many values and letters a reading holds, each counted each time it is reached (what is shared counts as often as it is met; a slice's spare places count too). A statement '..UptoSaid' is the law's where the arguments, and the package variables that the reading takes, are together of bulk at most 1048576: NARROWER than '..Said'. Prove '..Said' where nothing that the law and all that it calls make is longer than what came in: it says more and counts as full. Else prove '..UptoSaid'. A law counts once. -/
mutual
def uptoBulk {H : Type} : DataW H → Nat
  | .lit (.string bytes) => bytes.length + 1
  | .lit _ => 1
  | .nil => 1
  | .ptr d => uptoBulk d + 1
  | .slice elems spare => uptoBulkAll elems + uptoBulkAll spare + 1
  | .agg parts => uptoBulkAll parts + 1
  | .iface _ d => uptoBulk d + 1
  | .map entries => uptoBulkEntries entries + 1
  | .held _ => 1
def uptoBulkAll {H : Type} : List (DataW H) → Nat
  | [] => 0
  | d :: r => uptoBulk d + uptoBulkAll r
def uptoBulkEntries {H : Type} : List (Lit × DataW H) → Nat
  | [] => 0
  | x :: r => uptoBulkEntry x + uptoBulkEntries r
def uptoBulkEntry {H : Type} : Lit × DataW H → Nat
  | (.string bytes, d) => bytes.length + uptoBulk d + 1
  | (_, d) => uptoBulk d + 1
 end
def uptoSmall : (H : Type) → List (DataW H) → Bool := fun _ ds => decide (uptoBulkAll ds ≤ 1048576)
def OpenSpec.upto (s : _root_.Go.ChangeSpec) : _root_.Go.OpenSpec := { _root_.Go.OpenSpec.ofChange s with cond := some uptoSmall }

/-- 'fairleadlaw12.MeanNames', WHERE WHAT IT READS IS OF BULK AT MOST 1048576: true; the input reads as it did. -/
def meanNamesUptoRow : OpenClaim := { program := "ytomcobmpojpdcaa", sum := "8c9e1d413c6e24532acea7a2e16b1f16e02b62ac4953363a72ce3df89031b25a", func := "fairlead/fairleadlaw12.MeanNames", spec := "meanNames", unfollowed := true, recurses := true, apart := false, narrowed := true }
def MeanNamesUptoSaid : Prop := meanNamesUptoRow.holds Try.pinned (OpenSpec.upto meanNamesSpec)

/-- 'fairleadlaw12.MeanChecks', WHERE WHAT IT READS IS OF BULK AT MOST 1048576: true; the input reads as it did. -/
def meanChecksUptoRow : OpenClaim := { program := "ytomcobmpojpdcaa", sum := "8c9e1d413c6e24532acea7a2e16b1f16e02b62ac4953363a72ce3df89031b25a", func := "fairlead/fairleadlaw12.MeanChecks", spec := "meanChecks", unfollowed := true, recurses := true, apart := false, narrowed := true }
def MeanChecksUptoSaid : Prop := meanChecksUptoRow.holds Try.pinned (OpenSpec.upto meanChecksSpec)

/-- 'fairleadlaw12.MeanDecides', WHERE WHAT IT READS IS OF BULK AT MOST 1048576: true; the input reads as it did. -/
def meanDecidesUptoRow : OpenClaim := { program := "ytomcobmpojpdcaa", sum := "8c9e1d413c6e24532acea7a2e16b1f16e02b62ac4953363a72ce3df89031b25a", func := "fairlead/fairleadlaw12.MeanDecides", spec := "meanDecides", unfollowed := true, recurses := true, apart := false, narrowed := true }
def MeanDecidesUptoSaid : Prop := meanDecidesUptoRow.holds Try.pinned (OpenSpec.upto meanDecidesSpec)

/-- 'fairleadlaw12.MeanFirst', WHERE WHAT IT READS IS OF BULK AT MOST 1048576: true; the input reads as it did. -/
def meanFirstUptoRow : OpenClaim := { program := "ytomcobmpojpdcaa", sum := "8c9e1d413c6e24532acea7a2e16b1f16e02b62ac4953363a72ce3df89031b25a", func := "fairlead/fairleadlaw12.MeanFirst", spec := "meanFirst", unfollowed := true, recurses := true, apart := false, narrowed := true }
def MeanFirstUptoSaid : Prop := meanFirstUptoRow.holds Try.pinned (OpenSpec.upto meanFirstSpec)

/-- 'fairleadlaw12.MeanTwo', WHERE WHAT IT READS IS OF BULK AT MOST 1048576: true; the input reads as it did. -/
def meanTwoUptoRow : OpenClaim := { program := "ytomcobmpojpdcaa", sum := "8c9e1d413c6e24532acea7a2e16b1f16e02b62ac4953363a72ce3df89031b25a", func := "fairlead/fairleadlaw12.MeanTwo", spec := "meanTwo", unfollowed := true, recurses := true, apart := false, narrowed := true }
def MeanTwoUptoSaid : Prop := meanTwoUptoRow.holds Try.pinned (OpenSpec.upto meanTwoSpec)

/-- 'fairleadlaw12.MeanElse', WHERE WHAT IT READS IS OF BULK AT MOST 1048576: true; the input reads as it did. -/
def meanElseUptoRow : OpenClaim := { program := "ytomcobmpojpdcaa", sum := "8c9e1d413c6e24532acea7a2e16b1f16e02b62ac4953363a72ce3df89031b25a", func := "fairlead/fairleadlaw12.MeanElse", spec := "meanElse", unfollowed := true, recurses := true, apart := false, narrowed := true }
def MeanElseUptoSaid : Prop := meanElseUptoRow.holds Try.pinned (OpenSpec.upto meanElseSpec)

/-- 'fairleadlaw12.MeanNumbers', WHERE WHAT IT READS IS OF BULK AT MOST 1048576: true; the input reads as it did. -/
def meanNumbersUptoRow : OpenClaim := { program := "ytomcobmpojpdcaa", sum := "8c9e1d413c6e24532acea7a2e16b1f16e02b62ac4953363a72ce3df89031b25a", func := "fairlead/fairleadlaw12.MeanNumbers", spec := "meanNumbers", unfollowed := true, recurses := true, apart := false, narrowed := true }
def MeanNumbersUptoSaid : Prop := meanNumbersUptoRow.holds Try.pinned (OpenSpec.upto meanNumbersSpec)

end Rows
end Go.Proofs.Ytomcobmpojpdcaa
