/-
  No cell of these rows narrows 'for every input' (looked for: loops, veiled, ifaces, maps, wideKeys, modest, calm, conditions, laid).
  DERIVED. THE GIVEN ROWS OF THIS SEAT. 5 by the template 'for every input the law returns true; each argument reads behind the call as it read before'; 0 by the template 'total and deterministic' (their statements: YtocfklnoklmocaaTotals.lean).
  GIVEN WITH THE SEED: the statements are not yours to turn. If you find one false, say at which input.
  Laid BY PROGRAM, IN A SANDBOX (cutbox-rows.mjs): the forced cells as the released guide's own fill.sh prints them over the translation 8e58e8bdf8805817… (all of the seat's roots in one cut). By AI agents, Wed Nov 11 2026. No macro, syntax, notation, axiom, sorry.
-/
import Derived.Test.YtocfklnoklmocaaChecked
import GoSem.Claim
import GoSem.ClaimJoined
import GoSem.ClaimMapViews
import Derived.JoinedTies
import Derived.KernelRfl
namespace Go.Proofs.Ytocfklnoklmocaa
/- THE CELL 'sum', in the pinned program and in every row, IS THE sha256 OF THE DUMP (.gsa) THAT YtocfklnoklmocaaProg.lean LOADS. Nothing in Lean hashes anything: it is a label: what it is worth is what the hold of that sum in a sandbox is worth. -/
noncomputable def Try.pinned : Pinned := { name := "ytocfklnoklmocaa", sum := "8e58e8bdf8805817db22962ef7d07d185a549c00fbee0ebd5620e0980fd91a5e", checked := Try.checked }
namespace Rows
def none {H : Type} : Left H := { results := [], args := [] }

/-- 'fairleadlaw19.ArqSees': WHATEVER THE INPUT: true; the input reads as it did. -/
def arqSeesSpec : ChangeSpec := { name := "arqSees", fn := fun _ => fun
  | [d] => { results := [.lit (.bool true)], args := [d] }
  | _ => none }
def arqSeesRow : OpenClaim := { program := "ytocfklnoklmocaa", sum := "8e58e8bdf8805817db22962ef7d07d185a549c00fbee0ebd5620e0980fd91a5e", func := "fairlead/fairleadlaw19.ArqSees", spec := "arqSees", unfollowed := true, recurses := true, apart := false }
def ArqSeesSaid : Prop := arqSeesRow.holds Try.pinned (OpenSpec.ofChange arqSeesSpec)

/-- ITS FALSE NEIGHBOUR: 'it returns false'. Refute it at one input. -/
def arqSeesWrong : ChangeSpec := { name := "arqSees", fn := fun _ => fun
  | [d] => { results := [.lit (.bool false)], args := [d] }
  | _ => none }
def ArqSeesWrongFalsely : Prop := arqSeesRow.holds Try.pinned (OpenSpec.ofChange arqSeesWrong)

/-- 'fairleadlaw19.ArqOrder': WHATEVER THE INPUT: true; the input reads as it did. -/
def arqOrderSpec : ChangeSpec := { name := "arqOrder", fn := fun _ => fun
  | [d1, d2] => { results := [.lit (.bool true)], args := [d1, d2] }
  | _ => none }
def arqOrderRow : OpenClaim := { program := "ytocfklnoklmocaa", sum := "8e58e8bdf8805817db22962ef7d07d185a549c00fbee0ebd5620e0980fd91a5e", func := "fairlead/fairleadlaw19.ArqOrder", spec := "arqOrder", unfollowed := true, recurses := true, apart := false }
def ArqOrderSaid : Prop := arqOrderRow.holds Try.pinned (OpenSpec.ofChange arqOrderSpec)

/-- ITS FALSE NEIGHBOUR: 'it returns false'. Refute it at one input. -/
def arqOrderWrong : ChangeSpec := { name := "arqOrder", fn := fun _ => fun
  | [d1, d2] => { results := [.lit (.bool false)], args := [d1, d2] }
  | _ => none }
def ArqOrderWrongFalsely : Prop := arqOrderRow.holds Try.pinned (OpenSpec.ofChange arqOrderWrong)

/-- 'fairleadlaw19.ArqPlays': WHATEVER THE INPUT: true; the input reads as it did. -/
def arqPlaysSpec : ChangeSpec := { name := "arqPlays", fn := fun _ => fun
  | [d1, d2] => { results := [.lit (.bool true)], args := [d1, d2] }
  | _ => none }
def arqPlaysRow : OpenClaim := { program := "ytocfklnoklmocaa", sum := "8e58e8bdf8805817db22962ef7d07d185a549c00fbee0ebd5620e0980fd91a5e", func := "fairlead/fairleadlaw19.ArqPlays", spec := "arqPlays", unfollowed := true, recurses := true, apart := false }
def ArqPlaysSaid : Prop := arqPlaysRow.holds Try.pinned (OpenSpec.ofChange arqPlaysSpec)

/-- ITS FALSE NEIGHBOUR: 'it returns false'. Refute it at one input. -/
def arqPlaysWrong : ChangeSpec := { name := "arqPlays", fn := fun _ => fun
  | [d1, d2] => { results := [.lit (.bool false)], args := [d1, d2] }
  | _ => none }
def ArqPlaysWrongFalsely : Prop := arqPlaysRow.holds Try.pinned (OpenSpec.ofChange arqPlaysWrong)

/-- 'fairleadlaw19.ArqGoes': WHATEVER THE INPUT: true; the input reads as it did. -/
def arqGoesSpec : ChangeSpec := { name := "arqGoes", fn := fun _ => fun
  | [d1, d2, d3] => { results := [.lit (.bool true)], args := [d1, d2, d3] }
  | _ => none }
def arqGoesRow : OpenClaim := { program := "ytocfklnoklmocaa", sum := "8e58e8bdf8805817db22962ef7d07d185a549c00fbee0ebd5620e0980fd91a5e", func := "fairlead/fairleadlaw19.ArqGoes", spec := "arqGoes", unfollowed := true, recurses := true, apart := false }
def ArqGoesSaid : Prop := arqGoesRow.holds Try.pinned (OpenSpec.ofChange arqGoesSpec)

/-- ITS FALSE NEIGHBOUR: 'it returns false'. Refute it at one input. -/
def arqGoesWrong : ChangeSpec := { name := "arqGoes", fn := fun _ => fun
  | [d1, d2, d3] => { results := [.lit (.bool false)], args := [d1, d2, d3] }
  | _ => none }
def ArqGoesWrongFalsely : Prop := arqGoesRow.holds Try.pinned (OpenSpec.ofChange arqGoesWrong)

/-- 'fairleadlaw19.ArqAnew': WHATEVER THE INPUT: true; the input reads as it did. -/
def arqAnewSpec : ChangeSpec := { name := "arqAnew", fn := fun _ => fun
  | [d1, d2, d3] => { results := [.lit (.bool true)], args := [d1, d2, d3] }
  | _ => none }
def arqAnewRow : OpenClaim := { program := "ytocfklnoklmocaa", sum := "8e58e8bdf8805817db22962ef7d07d185a549c00fbee0ebd5620e0980fd91a5e", func := "fairlead/fairleadlaw19.ArqAnew", spec := "arqAnew", unfollowed := true, recurses := true, apart := false }
def ArqAnewSaid : Prop := arqAnewRow.holds Try.pinned (OpenSpec.ofChange arqAnewSpec)

/-- ITS FALSE NEIGHBOUR: 'it returns false'. Refute it at one input. -/
def arqAnewWrong : ChangeSpec := { name := "arqAnew", fn := fun _ => fun
  | [d1, d2, d3] => { results := [.lit (.bool false)], args := [d1, d2, d3] }
  | _ => none }
def ArqAnewWrongFalsely : Prop := arqAnewRow.holds Try.pinned (OpenSpec.ofChange arqAnewWrong)

/- THE SECOND FORM. 'bulk': how many values and letters a reading holds, each counted each time it is reached (what is shared counts as often as it is met; a slice's spare places count too). A statement '..UptoSaid' is the law's where the arguments, and the package variables that the reading takes, are together of bulk at most 1048576: NARROWER than '..Said'. Prove '..Said' where nothing that the law and all that it calls make is longer than what came in: it says more and counts as full. Else prove '..UptoSaid'. A law counts once. -/
mutual
def uptoBulk {H : Type} : DataW H → Nat
  | .lit (.string bytes) => bytes.length + 1
  | .lit _ => 1
  | .nil => 1
  | .ptr d => uptoBulk d + 1
  | .slice elems spare => uptoBulkAll elems + uptoBulkAll spare + 1
  | .agg parts => uptoBulkAll parts + 1
  | .iface _ d => uptoBulk d + 1
  | .map entries => uptoBulkEntries entries + 1
  | .held _ => 1
def uptoBulkAll {H : Type} : List (DataW H) → Nat
  | [] => 0
  | d :: r => uptoBulk d + uptoBulkAll r
def uptoBulkEntries {H : Type} : List (Lit × DataW H) → Nat
  | [] => 0
  | x :: r => uptoBulkEntry x + uptoBulkEntries r
def uptoBulkEntry {H : Type} : Lit × DataW H → Nat
  | (.string bytes, d) => bytes.length + uptoBulk d + 1
  | (_, d) => uptoBulk d + 1
 end
def uptoSmall : (H : Type) → List (DataW H) → Bool := fun _ ds => decide (uptoBulkAll ds ≤ 1048576)
def OpenSpec.upto (s : _root_.Go.ChangeSpec) : _root_.Go.OpenSpec := { _root_.Go.OpenSpec.ofChange s with cond := some uptoSmall }

/-- 'fairleadlaw19.ArqSees', WHERE WHAT IT READS IS OF BULK AT MOST 1048576: true; the input reads as it did. -/
def arqSeesUptoRow : OpenClaim := { program := "ytocfklnoklmocaa", sum := "8e58e8bdf8805817db22962ef7d07d185a549c00fbee0ebd5620e0980fd91a5e", func := "fairlead/fairleadlaw19.ArqSees", spec := "arqSees", unfollowed := true, recurses := true, apart := false, narrowed := true }
def ArqSeesUptoSaid : Prop := arqSeesUptoRow.holds Try.pinned (OpenSpec.upto arqSeesSpec)

/-- 'fairleadlaw19.ArqOrder', WHERE WHAT IT READS IS OF BULK AT MOST 1048576: true; the input reads as it did. -/
def arqOrderUptoRow : OpenClaim := { program := "ytocfklnoklmocaa", sum := "8e58e8bdf8805817db22962ef7d07d185a549c00fbee0ebd5620e0980fd91a5e", func := "fairlead/fairleadlaw19.ArqOrder", spec := "arqOrder", unfollowed := true, recurses := true, apart := false, narrowed := true }
def ArqOrderUptoSaid : Prop := arqOrderUptoRow.holds Try.pinned (OpenSpec.upto arqOrderSpec)

/-- 'fairleadlaw19.ArqPlays', WHERE WHAT IT READS IS OF BULK AT MOST 1048576: true; the input reads as it did. -/
def arqPlaysUptoRow : OpenClaim := { program := "ytocfklnoklmocaa", sum := "8e58e8bdf8805817db22962ef7d07d185a549c00fbee0ebd5620e0980fd91a5e", func := "fairlead/fairleadlaw19.ArqPlays", spec := "arqPlays", unfollowed := true, recurses := true, apart := false, narrowed := true }
def ArqPlaysUptoSaid : Prop := arqPlaysUptoRow.holds Try.pinned (OpenSpec.upto arqPlaysSpec)

/-- 'fairleadlaw19.ArqGoes', WHERE WHAT IT READS IS OF BULK AT MOST 1048576: true; the input reads as it did. -/
def arqGoesUptoRow : OpenClaim := { program := "ytocfklnoklmocaa", sum := "8e58e8bdf8805817db22962ef7d07d185a549c00fbee0ebd5620e0980fd91a5e", func := "fairlead/fairleadlaw19.ArqGoes", spec := "arqGoes", unfollowed := true, recurses := true, apart := false, narrowed := true }
def ArqGoesUptoSaid : Prop := arqGoesUptoRow.holds Try.pinned (OpenSpec.upto arqGoesSpec)

/-- 'fairleadlaw19.ArqAnew', WHERE WHAT IT READS IS OF BULK AT MOST 1048576: true; the input reads as it did. -/
def arqAnewUptoRow : OpenClaim := { program := "ytocfklnoklmocaa", sum := "8e58e8bdf8805817db22962ef7d07d185a549c00fbee0ebd5620e0980fd91a5e", func := "fairlead/fairleadlaw19.ArqAnew", spec := "arqAnew", unfollowed := true, recurses := true, apart := false, narrowed := true }
def ArqAnewUptoSaid : Prop := arqAnewUptoRow.holds Try.pinned (OpenSpec.upto arqAnewSpec)

end Rows
end Go.Proofs.Ytocfklnoklmocaa
