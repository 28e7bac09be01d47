/-
  No cell of these rows narrows 'for every input' (looked for: loops, veiled, ifaces, maps, wideKeys, modest, calm, conditions, laid).
  DERIVED. THE GIVEN ROWS OF THIS SEAT. 6 by the template 'for every input the law returns true; each argument reads behind the call as it read before'; 0 by the template 'total and deterministic' (their statements: YtpejghinphnllaaTotals.lean).
  GIVEN WITH THE SEED: the statements are not yours to turn. If you find one false, say at which input.
  Laid BY PROGRAM, IN A SANDBOX (cutbox-rows.mjs): the forced cells as the released guide's own fill.sh prints them over the translation ddc0ee93a3eb4048… (all of the seat's roots in one cut). By AI agents, Wed Nov 11 2026. No macro, syntax, notation, axiom, sorry.
-/
import Derived.Test.YtpejghinphnllaaChecked
import GoSem.Claim
import GoSem.ClaimJoined
import GoSem.ClaimMapViews
import Derived.JoinedTies
import Derived.KernelRfl
namespace Go.Proofs.Ytpejghinphnllaa
/- THE CELL 'sum', in the pinned program and in every row, IS THE sha256 OF THE DUMP (.gsa) THAT YtpejghinphnllaaProg.lean LOADS. Nothing in Lean hashes anything: it is a label: what it is worth is what the hold of that sum in a sandbox is worth. -/
noncomputable def Try.pinned : Pinned := { name := "ytpejghinphnllaa", sum := "ddc0ee93a3eb40489a11be89750deebd94276625253813633884b75ffd6dfac2", checked := Try.checked }
namespace Rows
def none {H : Type} : Left H := { results := [], args := [] }

/-- 'fairleadlaw22.PathNames': WHATEVER THE INPUT: true; the input reads as it did. -/
def pathNamesSpec : ChangeSpec := { name := "pathNames", fn := fun _ => fun
  | [d1, d2] => { results := [.lit (.bool true)], args := [d1, d2] }
  | _ => none }
def pathNamesRow : OpenClaim := { program := "ytpejghinphnllaa", sum := "ddc0ee93a3eb40489a11be89750deebd94276625253813633884b75ffd6dfac2", func := "fairlead/fairleadlaw22.PathNames", spec := "pathNames", inPlace := ["internal/bytealg.IndexByteString", "internal/abi.NoEscape", "internal/bytealg.MakeNoZero"], unfollowed := true, recurses := true, apart := false }
def PathNamesSaid : Prop := pathNamesRow.holds Try.pinned (OpenSpec.ofChange pathNamesSpec)

/-- ITS FALSE NEIGHBOUR: 'it returns false'. Refute it at one input. -/
def pathNamesWrong : ChangeSpec := { name := "pathNames", fn := fun _ => fun
  | [d1, d2] => { results := [.lit (.bool false)], args := [d1, d2] }
  | _ => none }
def PathNamesWrongFalsely : Prop := pathNamesRow.holds Try.pinned (OpenSpec.ofChange pathNamesWrong)

/-- 'fairleadlaw22.PathWithin': WHATEVER THE INPUT: true; the input reads as it did. -/
def pathWithinSpec : ChangeSpec := { name := "pathWithin", fn := fun _ => fun
  | [d1, d2] => { results := [.lit (.bool true)], args := [d1, d2] }
  | _ => none }
def pathWithinRow : OpenClaim := { program := "ytpejghinphnllaa", sum := "ddc0ee93a3eb40489a11be89750deebd94276625253813633884b75ffd6dfac2", func := "fairlead/fairleadlaw22.PathWithin", spec := "pathWithin", inPlace := ["internal/bytealg.IndexByteString", "internal/abi.NoEscape", "internal/bytealg.MakeNoZero"], unfollowed := true, recurses := true, apart := false }
def PathWithinSaid : Prop := pathWithinRow.holds Try.pinned (OpenSpec.ofChange pathWithinSpec)

/-- ITS FALSE NEIGHBOUR: 'it returns false'. Refute it at one input. -/
def pathWithinWrong : ChangeSpec := { name := "pathWithin", fn := fun _ => fun
  | [d1, d2] => { results := [.lit (.bool false)], args := [d1, d2] }
  | _ => none }
def PathWithinWrongFalsely : Prop := pathWithinRow.holds Try.pinned (OpenSpec.ofChange pathWithinWrong)

/-- 'fairleadlaw22.PathAgain': WHATEVER THE INPUT: true; the input reads as it did. -/
def pathAgainSpec : ChangeSpec := { name := "pathAgain", fn := fun _ => fun
  | [d] => { results := [.lit (.bool true)], args := [d] }
  | _ => none }
def pathAgainRow : OpenClaim := { program := "ytpejghinphnllaa", sum := "ddc0ee93a3eb40489a11be89750deebd94276625253813633884b75ffd6dfac2", func := "fairlead/fairleadlaw22.PathAgain", spec := "pathAgain", inPlace := ["internal/bytealg.IndexByteString", "internal/abi.NoEscape", "internal/bytealg.MakeNoZero"], unfollowed := true, recurses := true, apart := false }
def PathAgainSaid : Prop := pathAgainRow.holds Try.pinned (OpenSpec.ofChange pathAgainSpec)

/-- ITS FALSE NEIGHBOUR: 'it returns false'. Refute it at one input. -/
def pathAgainWrong : ChangeSpec := { name := "pathAgain", fn := fun _ => fun
  | [d] => { results := [.lit (.bool false)], args := [d] }
  | _ => none }
def PathAgainWrongFalsely : Prop := pathAgainRow.holds Try.pinned (OpenSpec.ofChange pathAgainWrong)

/-- 'fairleadlaw22.PathCleans': WHATEVER THE INPUT: true; the input reads as it did. -/
def pathCleansSpec : ChangeSpec := { name := "pathCleans", fn := fun _ => fun
  | [d] => { results := [.lit (.bool true)], args := [d] }
  | _ => none }
def pathCleansRow : OpenClaim := { program := "ytpejghinphnllaa", sum := "ddc0ee93a3eb40489a11be89750deebd94276625253813633884b75ffd6dfac2", func := "fairlead/fairleadlaw22.PathCleans", spec := "pathCleans", inPlace := ["internal/bytealg.IndexByteString", "internal/abi.NoEscape", "internal/bytealg.MakeNoZero"], unfollowed := true, recurses := true, apart := false }
def PathCleansSaid : Prop := pathCleansRow.holds Try.pinned (OpenSpec.ofChange pathCleansSpec)

/-- ITS FALSE NEIGHBOUR: 'it returns false'. Refute it at one input. -/
def pathCleansWrong : ChangeSpec := { name := "pathCleans", fn := fun _ => fun
  | [d] => { results := [.lit (.bool false)], args := [d] }
  | _ => none }
def PathCleansWrongFalsely : Prop := pathCleansRow.holds Try.pinned (OpenSpec.ofChange pathCleansWrong)

/-- 'fairleadlaw22.PathAbove': WHATEVER THE INPUT: true; the input reads as it did. -/
def pathAboveSpec : ChangeSpec := { name := "pathAbove", fn := fun _ => fun
  | [d1, d2] => { results := [.lit (.bool true)], args := [d1, d2] }
  | _ => none }
def pathAboveRow : OpenClaim := { program := "ytpejghinphnllaa", sum := "ddc0ee93a3eb40489a11be89750deebd94276625253813633884b75ffd6dfac2", func := "fairlead/fairleadlaw22.PathAbove", spec := "pathAbove", inPlace := ["internal/bytealg.IndexByteString", "internal/abi.NoEscape", "internal/bytealg.MakeNoZero"], unfollowed := true, recurses := true, apart := false }
def PathAboveSaid : Prop := pathAboveRow.holds Try.pinned (OpenSpec.ofChange pathAboveSpec)

/-- ITS FALSE NEIGHBOUR: 'it returns false'. Refute it at one input. -/
def pathAboveWrong : ChangeSpec := { name := "pathAbove", fn := fun _ => fun
  | [d1, d2] => { results := [.lit (.bool false)], args := [d1, d2] }
  | _ => none }
def PathAboveWrongFalsely : Prop := pathAboveRow.holds Try.pinned (OpenSpec.ofChange pathAboveWrong)

/-- 'fairleadlaw22.PathLonger': WHATEVER THE INPUT: true; the input reads as it did. -/
def pathLongerSpec : ChangeSpec := { name := "pathLonger", fn := fun _ => fun
  | [d1, d2] => { results := [.lit (.bool true)], args := [d1, d2] }
  | _ => none }
def pathLongerRow : OpenClaim := { program := "ytpejghinphnllaa", sum := "ddc0ee93a3eb40489a11be89750deebd94276625253813633884b75ffd6dfac2", func := "fairlead/fairleadlaw22.PathLonger", spec := "pathLonger", inPlace := ["internal/bytealg.IndexByteString", "internal/abi.NoEscape", "internal/bytealg.MakeNoZero"], unfollowed := true, recurses := true, apart := false }
def PathLongerSaid : Prop := pathLongerRow.holds Try.pinned (OpenSpec.ofChange pathLongerSpec)

/-- ITS FALSE NEIGHBOUR: 'it returns false'. Refute it at one input. -/
def pathLongerWrong : ChangeSpec := { name := "pathLonger", fn := fun _ => fun
  | [d1, d2] => { results := [.lit (.bool false)], args := [d1, d2] }
  | _ => none }
def PathLongerWrongFalsely : Prop := pathLongerRow.holds Try.pinned (OpenSpec.ofChange pathLongerWrong)

/- THE SECOND FORM. 'bulk': how many values and letters a reading holds, each counted each time it is reached (what is shared counts as often as it is met; a slice's spare places count too). A statement '..UptoSaid' is the law's where the arguments, and the package variables that the reading takes, are together of bulk at most 1048576: NARROWER than '..Said'. Prove '..Said' where nothing that the law and all that it calls make is longer than what came in: it says more and counts as full. Else prove '..UptoSaid'. A law counts once. -/
mutual
def uptoBulk {H : Type} : DataW H → Nat
  | .lit (.string bytes) => bytes.length + 1
  | .lit _ => 1
  | .nil => 1
  | .ptr d => uptoBulk d + 1
  | .slice elems spare => uptoBulkAll elems + uptoBulkAll spare + 1
  | .agg parts => uptoBulkAll parts + 1
  | .iface _ d => uptoBulk d + 1
  | .map entries => uptoBulkEntries entries + 1
  | .held _ => 1
def uptoBulkAll {H : Type} : List (DataW H) → Nat
  | [] => 0
  | d :: r => uptoBulk d + uptoBulkAll r
def uptoBulkEntries {H : Type} : List (Lit × DataW H) → Nat
  | [] => 0
  | x :: r => uptoBulkEntry x + uptoBulkEntries r
def uptoBulkEntry {H : Type} : Lit × DataW H → Nat
  | (.string bytes, d) => bytes.length + uptoBulk d + 1
  | (_, d) => uptoBulk d + 1
 end
def uptoSmall : (H : Type) → List (DataW H) → Bool := fun _ ds => decide (uptoBulkAll ds ≤ 1048576)
def OpenSpec.upto (s : _root_.Go.ChangeSpec) : _root_.Go.OpenSpec := { _root_.Go.OpenSpec.ofChange s with cond := some uptoSmall }

/-- 'fairleadlaw22.PathNames', WHERE WHAT IT READS IS OF BULK AT MOST 1048576: true; the input reads as it did. -/
def pathNamesUptoRow : OpenClaim := { program := "ytpejghinphnllaa", sum := "ddc0ee93a3eb40489a11be89750deebd94276625253813633884b75ffd6dfac2", func := "fairlead/fairleadlaw22.PathNames", spec := "pathNames", inPlace := ["internal/bytealg.IndexByteString", "internal/abi.NoEscape", "internal/bytealg.MakeNoZero"], unfollowed := true, recurses := true, apart := false, narrowed := true }
def PathNamesUptoSaid : Prop := pathNamesUptoRow.holds Try.pinned (OpenSpec.upto pathNamesSpec)

/-- 'fairleadlaw22.PathWithin', WHERE WHAT IT READS IS OF BULK AT MOST 1048576: true; the input reads as it did. -/
def pathWithinUptoRow : OpenClaim := { program := "ytpejghinphnllaa", sum := "ddc0ee93a3eb40489a11be89750deebd94276625253813633884b75ffd6dfac2", func := "fairlead/fairleadlaw22.PathWithin", spec := "pathWithin", inPlace := ["internal/bytealg.IndexByteString", "internal/abi.NoEscape", "internal/bytealg.MakeNoZero"], unfollowed := true, recurses := true, apart := false, narrowed := true }
def PathWithinUptoSaid : Prop := pathWithinUptoRow.holds Try.pinned (OpenSpec.upto pathWithinSpec)

/-- 'fairleadlaw22.PathAgain', WHERE WHAT IT READS IS OF BULK AT MOST 1048576: true; the input reads as it did. -/
def pathAgainUptoRow : OpenClaim := { program := "ytpejghinphnllaa", sum := "ddc0ee93a3eb40489a11be89750deebd94276625253813633884b75ffd6dfac2", func := "fairlead/fairleadlaw22.PathAgain", spec := "pathAgain", inPlace := ["internal/bytealg.IndexByteString", "internal/abi.NoEscape", "internal/bytealg.MakeNoZero"], unfollowed := true, recurses := true, apart := false, narrowed := true }
def PathAgainUptoSaid : Prop := pathAgainUptoRow.holds Try.pinned (OpenSpec.upto pathAgainSpec)

/-- 'fairleadlaw22.PathCleans', WHERE WHAT IT READS IS OF BULK AT MOST 1048576: true; the input reads as it did. -/
def pathCleansUptoRow : OpenClaim := { program := "ytpejghinphnllaa", sum := "ddc0ee93a3eb40489a11be89750deebd94276625253813633884b75ffd6dfac2", func := "fairlead/fairleadlaw22.PathCleans", spec := "pathCleans", inPlace := ["internal/bytealg.IndexByteString", "internal/abi.NoEscape", "internal/bytealg.MakeNoZero"], unfollowed := true, recurses := true, apart := false, narrowed := true }
def PathCleansUptoSaid : Prop := pathCleansUptoRow.holds Try.pinned (OpenSpec.upto pathCleansSpec)

/-- 'fairleadlaw22.PathAbove', WHERE WHAT IT READS IS OF BULK AT MOST 1048576: true; the input reads as it did. -/
def pathAboveUptoRow : OpenClaim := { program := "ytpejghinphnllaa", sum := "ddc0ee93a3eb40489a11be89750deebd94276625253813633884b75ffd6dfac2", func := "fairlead/fairleadlaw22.PathAbove", spec := "pathAbove", inPlace := ["internal/bytealg.IndexByteString", "internal/abi.NoEscape", "internal/bytealg.MakeNoZero"], unfollowed := true, recurses := true, apart := false, narrowed := true }
def PathAboveUptoSaid : Prop := pathAboveUptoRow.holds Try.pinned (OpenSpec.upto pathAboveSpec)

/-- 'fairleadlaw22.PathLonger', WHERE WHAT IT READS IS OF BULK AT MOST 1048576: true; the input reads as it did. -/
def pathLongerUptoRow : OpenClaim := { program := "ytpejghinphnllaa", sum := "ddc0ee93a3eb40489a11be89750deebd94276625253813633884b75ffd6dfac2", func := "fairlead/fairleadlaw22.PathLonger", spec := "pathLonger", inPlace := ["internal/bytealg.IndexByteString", "internal/abi.NoEscape", "internal/bytealg.MakeNoZero"], unfollowed := true, recurses := true, apart := false, narrowed := true }
def PathLongerUptoSaid : Prop := pathLongerUptoRow.holds Try.pinned (OpenSpec.upto pathLongerSpec)

end Rows
end Go.Proofs.Ytpejghinphnllaa
