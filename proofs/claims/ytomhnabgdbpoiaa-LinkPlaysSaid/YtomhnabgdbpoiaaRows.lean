/-
  No cell of these rows narrows 'for every input' (looked for: loops, veiled, ifaces, maps, wideKeys, modest, calm, conditions, laid).
  DERIVED. THE GIVEN ROWS OF THIS SEAT. 5 by the template 'for every input the law returns true; each argument reads behind the call as it read before'; 0 by the template 'total and deterministic' (their statements: YtomhnabgdbpoiaaTotals.lean).
  GIVEN WITH THE SEED: the statements are not yours to turn. If you find one false, say at which input.
  Laid BY PROGRAM, IN A SANDBOX (cutbox-rows.mjs): the forced cells as the released guide's own fill.sh prints them over the translation 32d9999be069fc9c… (all of the seat's roots in one cut). By AI agents, Wed Nov 11 2026. No macro, syntax, notation, axiom, sorry.
-/
import Derived.Test.YtomhnabgdbpoiaaChecked
import GoSem.Claim
import GoSem.ClaimJoined
import GoSem.ClaimMapViews
import Derived.JoinedTies
import Derived.KernelRfl
namespace Go.Proofs.Ytomhnabgdbpoiaa
/- THE CELL 'sum', in the pinned program and in every row, IS THE sha256 OF THE DUMP (.gsa) THAT YtomhnabgdbpoiaaProg.lean LOADS. Nothing in Lean hashes anything: it is a label: what it is worth is what the hold of that sum in a sandbox is worth. -/
noncomputable def Try.pinned : Pinned := { name := "ytomhnabgdbpoiaa", sum := "32d9999be069fc9cfd186c484f10bc00d9821349ca9cf3f6ab1232b5d223faa2", checked := Try.checked }
namespace Rows
def none {H : Type} : Left H := { results := [], args := [] }

/-- 'fairleadlaw18.LinkOrder': WHATEVER THE INPUT: true; the input reads as it did. -/
def linkOrderSpec : ChangeSpec := { name := "linkOrder", fn := fun _ => fun
  | [d1, d2] => { results := [.lit (.bool true)], args := [d1, d2] }
  | _ => none }
def linkOrderRow : OpenClaim := { program := "ytomhnabgdbpoiaa", sum := "32d9999be069fc9cfd186c484f10bc00d9821349ca9cf3f6ab1232b5d223faa2", func := "fairlead/fairleadlaw18.LinkOrder", spec := "linkOrder", apart := false }
def LinkOrderSaid : Prop := linkOrderRow.holds Try.pinned (OpenSpec.ofChange linkOrderSpec)

/-- ITS FALSE NEIGHBOUR: 'it returns false'. Refute it at one input. -/
def linkOrderWrong : ChangeSpec := { name := "linkOrder", fn := fun _ => fun
  | [d1, d2] => { results := [.lit (.bool false)], args := [d1, d2] }
  | _ => none }
def LinkOrderWrongFalsely : Prop := linkOrderRow.holds Try.pinned (OpenSpec.ofChange linkOrderWrong)

/-- 'fairleadlaw18.LinkSent': WHATEVER THE INPUT: true; the input reads as it did. -/
def linkSentSpec : ChangeSpec := { name := "linkSent", fn := fun _ => fun
  | [d] => { results := [.lit (.bool true)], args := [d] }
  | _ => none }
def linkSentRow : OpenClaim := { program := "ytomhnabgdbpoiaa", sum := "32d9999be069fc9cfd186c484f10bc00d9821349ca9cf3f6ab1232b5d223faa2", func := "fairlead/fairleadlaw18.LinkSent", spec := "linkSent", apart := false }
def LinkSentSaid : Prop := linkSentRow.holds Try.pinned (OpenSpec.ofChange linkSentSpec)

/-- ITS FALSE NEIGHBOUR: 'it returns false'. Refute it at one input. -/
def linkSentWrong : ChangeSpec := { name := "linkSent", fn := fun _ => fun
  | [d] => { results := [.lit (.bool false)], args := [d] }
  | _ => none }
def LinkSentWrongFalsely : Prop := linkSentRow.holds Try.pinned (OpenSpec.ofChange linkSentWrong)

/-- 'fairleadlaw18.LinkSpoils': WHATEVER THE INPUT: true; the input reads as it did. -/
def linkSpoilsSpec : ChangeSpec := { name := "linkSpoils", fn := fun _ => fun
  | [d1, d2] => { results := [.lit (.bool true)], args := [d1, d2] }
  | _ => none }
def linkSpoilsRow : OpenClaim := { program := "ytomhnabgdbpoiaa", sum := "32d9999be069fc9cfd186c484f10bc00d9821349ca9cf3f6ab1232b5d223faa2", func := "fairlead/fairleadlaw18.LinkSpoils", spec := "linkSpoils", apart := false }
def LinkSpoilsSaid : Prop := linkSpoilsRow.holds Try.pinned (OpenSpec.ofChange linkSpoilsSpec)

/-- ITS FALSE NEIGHBOUR: 'it returns false'. Refute it at one input. -/
def linkSpoilsWrong : ChangeSpec := { name := "linkSpoils", fn := fun _ => fun
  | [d1, d2] => { results := [.lit (.bool false)], args := [d1, d2] }
  | _ => none }
def LinkSpoilsWrongFalsely : Prop := linkSpoilsRow.holds Try.pinned (OpenSpec.ofChange linkSpoilsWrong)

/-- 'fairleadlaw18.LinkFull': WHATEVER THE INPUT: true; the input reads as it did. -/
def linkFullSpec : ChangeSpec := { name := "linkFull", fn := fun _ => fun
  | [d1, d2] => { results := [.lit (.bool true)], args := [d1, d2] }
  | _ => none }
def linkFullRow : OpenClaim := { program := "ytomhnabgdbpoiaa", sum := "32d9999be069fc9cfd186c484f10bc00d9821349ca9cf3f6ab1232b5d223faa2", func := "fairlead/fairleadlaw18.LinkFull", spec := "linkFull", apart := false }
def LinkFullSaid : Prop := linkFullRow.holds Try.pinned (OpenSpec.ofChange linkFullSpec)

/-- ITS FALSE NEIGHBOUR: 'it returns false'. Refute it at one input. -/
def linkFullWrong : ChangeSpec := { name := "linkFull", fn := fun _ => fun
  | [d1, d2] => { results := [.lit (.bool false)], args := [d1, d2] }
  | _ => none }
def LinkFullWrongFalsely : Prop := linkFullRow.holds Try.pinned (OpenSpec.ofChange linkFullWrong)

/-- 'fairleadlaw18.LinkPlays': WHATEVER THE INPUT: true; the input reads as it did. -/
def linkPlaysSpec : ChangeSpec := { name := "linkPlays", fn := fun _ => fun
  | [d] => { results := [.lit (.bool true)], args := [d] }
  | _ => none }
def linkPlaysRow : OpenClaim := { program := "ytomhnabgdbpoiaa", sum := "32d9999be069fc9cfd186c484f10bc00d9821349ca9cf3f6ab1232b5d223faa2", func := "fairlead/fairleadlaw18.LinkPlays", spec := "linkPlays", apart := false }
def LinkPlaysSaid : Prop := linkPlaysRow.holds Try.pinned (OpenSpec.ofChange linkPlaysSpec)

/-- ITS FALSE NEIGHBOUR: 'it returns false'. Refute it at one input. -/
def linkPlaysWrong : ChangeSpec := { name := "linkPlays", fn := fun _ => fun
  | [d] => { results := [.lit (.bool false)], args := [d] }
  | _ => none }
def LinkPlaysWrongFalsely : Prop := linkPlaysRow.holds Try.pinned (OpenSpec.ofChange linkPlaysWrong)

/- THE SECOND FORM. 'bulk': how many values and letters a reading holds, each counted each time it is reached (what is shared counts as often as it is met; a slice's spare places count too). A statement '..UptoSaid' is the law's where the arguments, and the package variables that the reading takes, are together of bulk at most 1048576: NARROWER than '..Said'. Prove '..Said' where nothing that the law and all that it calls make is longer than what came in: it says more and counts as full. Else prove '..UptoSaid'. A law counts once. -/
mutual
def uptoBulk {H : Type} : DataW H → Nat
  | .lit (.string bytes) => bytes.length + 1
  | .lit _ => 1
  | .nil => 1
  | .ptr d => uptoBulk d + 1
  | .slice elems spare => uptoBulkAll elems + uptoBulkAll spare + 1
  | .agg parts => uptoBulkAll parts + 1
  | .iface _ d => uptoBulk d + 1
  | .map entries => uptoBulkEntries entries + 1
  | .held _ => 1
def uptoBulkAll {H : Type} : List (DataW H) → Nat
  | [] => 0
  | d :: r => uptoBulk d + uptoBulkAll r
def uptoBulkEntries {H : Type} : List (Lit × DataW H) → Nat
  | [] => 0
  | x :: r => uptoBulkEntry x + uptoBulkEntries r
def uptoBulkEntry {H : Type} : Lit × DataW H → Nat
  | (.string bytes, d) => bytes.length + uptoBulk d + 1
  | (_, d) => uptoBulk d + 1
 end
def uptoSmall : (H : Type) → List (DataW H) → Bool := fun _ ds => decide (uptoBulkAll ds ≤ 1048576)
def OpenSpec.upto (s : _root_.Go.ChangeSpec) : _root_.Go.OpenSpec := { _root_.Go.OpenSpec.ofChange s with cond := some uptoSmall }

/-- 'fairleadlaw18.LinkOrder', WHERE WHAT IT READS IS OF BULK AT MOST 1048576: true; the input reads as it did. -/
def linkOrderUptoRow : OpenClaim := { program := "ytomhnabgdbpoiaa", sum := "32d9999be069fc9cfd186c484f10bc00d9821349ca9cf3f6ab1232b5d223faa2", func := "fairlead/fairleadlaw18.LinkOrder", spec := "linkOrder", apart := false, narrowed := true }
def LinkOrderUptoSaid : Prop := linkOrderUptoRow.holds Try.pinned (OpenSpec.upto linkOrderSpec)

/-- 'fairleadlaw18.LinkSent', WHERE WHAT IT READS IS OF BULK AT MOST 1048576: true; the input reads as it did. -/
def linkSentUptoRow : OpenClaim := { program := "ytomhnabgdbpoiaa", sum := "32d9999be069fc9cfd186c484f10bc00d9821349ca9cf3f6ab1232b5d223faa2", func := "fairlead/fairleadlaw18.LinkSent", spec := "linkSent", apart := false, narrowed := true }
def LinkSentUptoSaid : Prop := linkSentUptoRow.holds Try.pinned (OpenSpec.upto linkSentSpec)

/-- 'fairleadlaw18.LinkSpoils', WHERE WHAT IT READS IS OF BULK AT MOST 1048576: true; the input reads as it did. -/
def linkSpoilsUptoRow : OpenClaim := { program := "ytomhnabgdbpoiaa", sum := "32d9999be069fc9cfd186c484f10bc00d9821349ca9cf3f6ab1232b5d223faa2", func := "fairlead/fairleadlaw18.LinkSpoils", spec := "linkSpoils", apart := false, narrowed := true }
def LinkSpoilsUptoSaid : Prop := linkSpoilsUptoRow.holds Try.pinned (OpenSpec.upto linkSpoilsSpec)

/-- 'fairleadlaw18.LinkFull', WHERE WHAT IT READS IS OF BULK AT MOST 1048576: true; the input reads as it did. -/
def linkFullUptoRow : OpenClaim := { program := "ytomhnabgdbpoiaa", sum := "32d9999be069fc9cfd186c484f10bc00d9821349ca9cf3f6ab1232b5d223faa2", func := "fairlead/fairleadlaw18.LinkFull", spec := "linkFull", apart := false, narrowed := true }
def LinkFullUptoSaid : Prop := linkFullUptoRow.holds Try.pinned (OpenSpec.upto linkFullSpec)

/-- 'fairleadlaw18.LinkPlays', WHERE WHAT IT READS IS OF BULK AT MOST 1048576: true; the input reads as it did. -/
def linkPlaysUptoRow : OpenClaim := { program := "ytomhnabgdbpoiaa", sum := "32d9999be069fc9cfd186c484f10bc00d9821349ca9cf3f6ab1232b5d223faa2", func := "fairlead/fairleadlaw18.LinkPlays", spec := "linkPlays", apart := false, narrowed := true }
def LinkPlaysUptoSaid : Prop := linkPlaysUptoRow.holds Try.pinned (OpenSpec.upto linkPlaysSpec)

end Rows
end Go.Proofs.Ytomhnabgdbpoiaa
