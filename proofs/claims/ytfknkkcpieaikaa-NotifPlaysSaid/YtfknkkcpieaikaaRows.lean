/-
  No cell of these rows narrows 'for every input' (looked for: loops, veiled, ifaces, maps, wideKeys, modest, calm, conditions, laid).
  DERIVED. THE GIVEN ROWS OF THIS SEAT. 5 by the template 'for every input the law returns true; each argument reads behind the call as it read before'; 0 by the template 'total and deterministic' (their statements: YtfknkkcpieaikaaTotals.lean).
  GIVEN WITH THE SEED: the statements are not yours to turn. If you find one false, say at which input.
  Laid BY PROGRAM, IN A SANDBOX (cutbox-rows.mjs): the forced cells as the released guide's own fill.sh prints them over the translation af7b7ab532c9d7ae… (all of the seat's roots in one cut). By AI agents, Wed Nov 11 2026. No macro, syntax, notation, axiom, sorry.
-/
import Derived.Test.YtfknkkcpieaikaaChecked
import GoSem.Claim
import GoSem.ClaimJoined
import GoSem.ClaimMapViews
import Derived.JoinedTies
import Derived.KernelRfl
namespace Go.Proofs.Ytfknkkcpieaikaa
/- THE CELL 'sum', in the pinned program and in every row, IS THE sha256 OF THE DUMP (.gsa) THAT YtfknkkcpieaikaaProg.lean LOADS. Nothing in Lean hashes anything: it is a label: what it is worth is what the hold of that sum in a sandbox is worth. -/
noncomputable def Try.pinned : Pinned := { name := "ytfknkkcpieaikaa", sum := "af7b7ab532c9d7ae8692ca105f6a061199d12b565e8775025a9329b4bb20b985", checked := Try.checked }
namespace Rows
def none {H : Type} : Left H := { results := [], args := [] }

/-- 'fairleadlaw21.NotifRises': WHATEVER THE INPUT: true; the input reads as it did. -/
def notifRisesSpec : ChangeSpec := { name := "notifRises", fn := fun _ => fun
  | [d1, d2, d3] => { results := [.lit (.bool true)], args := [d1, d2, d3] }
  | _ => none }
def notifRisesRow : OpenClaim := { program := "ytfknkkcpieaikaa", sum := "af7b7ab532c9d7ae8692ca105f6a061199d12b565e8775025a9329b4bb20b985", func := "fairlead/fairleadlaw21.NotifRises", spec := "notifRises", unfollowed := true, recurses := true, apart := false }
def NotifRisesSaid : Prop := notifRisesRow.holds Try.pinned (OpenSpec.ofChange notifRisesSpec)

/-- ITS FALSE NEIGHBOUR: 'it returns false'. Refute it at one input. -/
def notifRisesWrong : ChangeSpec := { name := "notifRises", fn := fun _ => fun
  | [d1, d2, d3] => { results := [.lit (.bool false)], args := [d1, d2, d3] }
  | _ => none }
def NotifRisesWrongFalsely : Prop := notifRisesRow.holds Try.pinned (OpenSpec.ofChange notifRisesWrong)

/-- 'fairleadlaw21.NotifEnds': WHATEVER THE INPUT: true; the input reads as it did. -/
def notifEndsSpec : ChangeSpec := { name := "notifEnds", fn := fun _ => fun
  | [d1, d2, d3] => { results := [.lit (.bool true)], args := [d1, d2, d3] }
  | _ => none }
def notifEndsRow : OpenClaim := { program := "ytfknkkcpieaikaa", sum := "af7b7ab532c9d7ae8692ca105f6a061199d12b565e8775025a9329b4bb20b985", func := "fairlead/fairleadlaw21.NotifEnds", spec := "notifEnds", unfollowed := true, recurses := true, apart := false }
def NotifEndsSaid : Prop := notifEndsRow.holds Try.pinned (OpenSpec.ofChange notifEndsSpec)

/-- ITS FALSE NEIGHBOUR: 'it returns false'. Refute it at one input. -/
def notifEndsWrong : ChangeSpec := { name := "notifEnds", fn := fun _ => fun
  | [d1, d2, d3] => { results := [.lit (.bool false)], args := [d1, d2, d3] }
  | _ => none }
def NotifEndsWrongFalsely : Prop := notifEndsRow.holds Try.pinned (OpenSpec.ofChange notifEndsWrong)

/-- 'fairleadlaw21.NotifTimes': WHATEVER THE INPUT: true; the input reads as it did. -/
def notifTimesSpec : ChangeSpec := { name := "notifTimes", fn := fun _ => fun
  | [d1, d2, d3] => { results := [.lit (.bool true)], args := [d1, d2, d3] }
  | _ => none }
def notifTimesRow : OpenClaim := { program := "ytfknkkcpieaikaa", sum := "af7b7ab532c9d7ae8692ca105f6a061199d12b565e8775025a9329b4bb20b985", func := "fairlead/fairleadlaw21.NotifTimes", spec := "notifTimes", unfollowed := true, recurses := true, apart := false }
def NotifTimesSaid : Prop := notifTimesRow.holds Try.pinned (OpenSpec.ofChange notifTimesSpec)

/-- ITS FALSE NEIGHBOUR: 'it returns false'. Refute it at one input. -/
def notifTimesWrong : ChangeSpec := { name := "notifTimes", fn := fun _ => fun
  | [d1, d2, d3] => { results := [.lit (.bool false)], args := [d1, d2, d3] }
  | _ => none }
def NotifTimesWrongFalsely : Prop := notifTimesRow.holds Try.pinned (OpenSpec.ofChange notifTimesWrong)

/-- 'fairleadlaw21.NotifOld': WHATEVER THE INPUT: true; the input reads as it did. -/
def notifOldSpec : ChangeSpec := { name := "notifOld", fn := fun _ => fun
  | [d1, d2, d3] => { results := [.lit (.bool true)], args := [d1, d2, d3] }
  | _ => none }
def notifOldRow : OpenClaim := { program := "ytfknkkcpieaikaa", sum := "af7b7ab532c9d7ae8692ca105f6a061199d12b565e8775025a9329b4bb20b985", func := "fairlead/fairleadlaw21.NotifOld", spec := "notifOld", unfollowed := true, recurses := true, apart := false }
def NotifOldSaid : Prop := notifOldRow.holds Try.pinned (OpenSpec.ofChange notifOldSpec)

/-- ITS FALSE NEIGHBOUR: 'it returns false'. Refute it at one input. -/
def notifOldWrong : ChangeSpec := { name := "notifOld", fn := fun _ => fun
  | [d1, d2, d3] => { results := [.lit (.bool false)], args := [d1, d2, d3] }
  | _ => none }
def NotifOldWrongFalsely : Prop := notifOldRow.holds Try.pinned (OpenSpec.ofChange notifOldWrong)

/-- 'fairleadlaw21.NotifPlays': WHATEVER THE INPUT: true; the input reads as it did. -/
def notifPlaysSpec : ChangeSpec := { name := "notifPlays", fn := fun _ => fun
  | [d1, d2, d3] => { results := [.lit (.bool true)], args := [d1, d2, d3] }
  | _ => none }
def notifPlaysRow : OpenClaim := { program := "ytfknkkcpieaikaa", sum := "af7b7ab532c9d7ae8692ca105f6a061199d12b565e8775025a9329b4bb20b985", func := "fairlead/fairleadlaw21.NotifPlays", spec := "notifPlays", unfollowed := true, recurses := true, apart := false }
def NotifPlaysSaid : Prop := notifPlaysRow.holds Try.pinned (OpenSpec.ofChange notifPlaysSpec)

/-- ITS FALSE NEIGHBOUR: 'it returns false'. Refute it at one input. -/
def notifPlaysWrong : ChangeSpec := { name := "notifPlays", fn := fun _ => fun
  | [d1, d2, d3] => { results := [.lit (.bool false)], args := [d1, d2, d3] }
  | _ => none }
def NotifPlaysWrongFalsely : Prop := notifPlaysRow.holds Try.pinned (OpenSpec.ofChange notifPlaysWrong)

/- THE SECOND FORM. 'bulk': how many values and letters a reading holds, each counted each time it is reached (what is shared counts as often as it is met; a slice's spare places count too). A statement '..UptoSaid' is the law's where the arguments, and the package variables that the reading takes, are together of bulk at most 1048576: NARROWER than '..Said'. Prove '..Said' where nothing that the law and all that it calls make is longer than what came in: it says more and counts as full. Else prove '..UptoSaid'. A law counts once. -/
mutual
def uptoBulk {H : Type} : DataW H → Nat
  | .lit (.string bytes) => bytes.length + 1
  | .lit _ => 1
  | .nil => 1
  | .ptr d => uptoBulk d + 1
  | .slice elems spare => uptoBulkAll elems + uptoBulkAll spare + 1
  | .agg parts => uptoBulkAll parts + 1
  | .iface _ d => uptoBulk d + 1
  | .map entries => uptoBulkEntries entries + 1
  | .held _ => 1
def uptoBulkAll {H : Type} : List (DataW H) → Nat
  | [] => 0
  | d :: r => uptoBulk d + uptoBulkAll r
def uptoBulkEntries {H : Type} : List (Lit × DataW H) → Nat
  | [] => 0
  | x :: r => uptoBulkEntry x + uptoBulkEntries r
def uptoBulkEntry {H : Type} : Lit × DataW H → Nat
  | (.string bytes, d) => bytes.length + uptoBulk d + 1
  | (_, d) => uptoBulk d + 1
 end
def uptoSmall : (H : Type) → List (DataW H) → Bool := fun _ ds => decide (uptoBulkAll ds ≤ 1048576)
def OpenSpec.upto (s : _root_.Go.ChangeSpec) : _root_.Go.OpenSpec := { _root_.Go.OpenSpec.ofChange s with cond := some uptoSmall }

/-- 'fairleadlaw21.NotifRises', WHERE WHAT IT READS IS OF BULK AT MOST 1048576: true; the input reads as it did. -/
def notifRisesUptoRow : OpenClaim := { program := "ytfknkkcpieaikaa", sum := "af7b7ab532c9d7ae8692ca105f6a061199d12b565e8775025a9329b4bb20b985", func := "fairlead/fairleadlaw21.NotifRises", spec := "notifRises", unfollowed := true, recurses := true, apart := false, narrowed := true }
def NotifRisesUptoSaid : Prop := notifRisesUptoRow.holds Try.pinned (OpenSpec.upto notifRisesSpec)

/-- 'fairleadlaw21.NotifEnds', WHERE WHAT IT READS IS OF BULK AT MOST 1048576: true; the input reads as it did. -/
def notifEndsUptoRow : OpenClaim := { program := "ytfknkkcpieaikaa", sum := "af7b7ab532c9d7ae8692ca105f6a061199d12b565e8775025a9329b4bb20b985", func := "fairlead/fairleadlaw21.NotifEnds", spec := "notifEnds", unfollowed := true, recurses := true, apart := false, narrowed := true }
def NotifEndsUptoSaid : Prop := notifEndsUptoRow.holds Try.pinned (OpenSpec.upto notifEndsSpec)

/-- 'fairleadlaw21.NotifTimes', WHERE WHAT IT READS IS OF BULK AT MOST 1048576: true; the input reads as it did. -/
def notifTimesUptoRow : OpenClaim := { program := "ytfknkkcpieaikaa", sum := "af7b7ab532c9d7ae8692ca105f6a061199d12b565e8775025a9329b4bb20b985", func := "fairlead/fairleadlaw21.NotifTimes", spec := "notifTimes", unfollowed := true, recurses := true, apart := false, narrowed := true }
def NotifTimesUptoSaid : Prop := notifTimesUptoRow.holds Try.pinned (OpenSpec.upto notifTimesSpec)

/-- 'fairleadlaw21.NotifOld', WHERE WHAT IT READS IS OF BULK AT MOST 1048576: true; the input reads as it did. -/
def notifOldUptoRow : OpenClaim := { program := "ytfknkkcpieaikaa", sum := "af7b7ab532c9d7ae8692ca105f6a061199d12b565e8775025a9329b4bb20b985", func := "fairlead/fairleadlaw21.NotifOld", spec := "notifOld", unfollowed := true, recurses := true, apart := false, narrowed := true }
def NotifOldUptoSaid : Prop := notifOldUptoRow.holds Try.pinned (OpenSpec.upto notifOldSpec)

/-- 'fairleadlaw21.NotifPlays', WHERE WHAT IT READS IS OF BULK AT MOST 1048576: true; the input reads as it did. -/
def notifPlaysUptoRow : OpenClaim := { program := "ytfknkkcpieaikaa", sum := "af7b7ab532c9d7ae8692ca105f6a061199d12b565e8775025a9329b4bb20b985", func := "fairlead/fairleadlaw21.NotifPlays", spec := "notifPlays", unfollowed := true, recurses := true, apart := false, narrowed := true }
def NotifPlaysUptoSaid : Prop := notifPlaysUptoRow.holds Try.pinned (OpenSpec.upto notifPlaysSpec)

end Rows
end Go.Proofs.Ytfknkkcpieaikaa
