/-
  No cell of these rows narrows 'for every input' (looked for: loops, veiled, ifaces, maps, wideKeys, modest, calm, conditions, laid).
  DERIVED. THE GIVEN ROWS OF THIS SEAT. 7 by the template 'for every input the law returns true; each argument reads behind the call as it read before'; 0 by the template 'total and deterministic' (their statements: YtcmogmplfigikaaTotals.lean).
  GIVEN WITH THE SEED: the statements are not yours to turn. If you find one false, say at which input.
  Laid BY PROGRAM, IN A SANDBOX (cutbox-rows.mjs): the forced cells as the released guide's own fill.sh prints them over the translation 36a25fcaa5a9d074… (all of the seat's roots in one cut). By AI agents, Wed Nov 11 2026. No macro, syntax, notation, axiom, sorry.
-/
import Derived.Test.YtcmogmplfigikaaChecked
import GoSem.Claim
import GoSem.ClaimJoined
import GoSem.ClaimMapViews
import Derived.JoinedTies
import Derived.KernelRfl
namespace Go.Proofs.Ytcmogmplfigikaa
/- THE CELL 'sum', in the pinned program and in every row, IS THE sha256 OF THE DUMP (.gsa) THAT YtcmogmplfigikaaProg.lean LOADS. Nothing in Lean hashes anything: it is a label: what it is worth is what the hold of that sum in a sandbox is worth. -/
noncomputable def Try.pinned : Pinned := { name := "ytcmogmplfigikaa", sum := "36a25fcaa5a9d074236c39c6118006f736f6c232bac00b02b2302ee5d57ca866", checked := Try.checked }
namespace Rows
def none {H : Type} : Left H := { results := [], args := [] }

/-- 'fairleadlaw24.GlobNames': WHATEVER THE INPUT: true; the input reads as it did. -/
def globNamesSpec : ChangeSpec := { name := "globNames", fn := fun _ => fun
  | [d1, d2] => { results := [.lit (.bool true)], args := [d1, d2] }
  | _ => none }
def globNamesRow : OpenClaim := { program := "ytcmogmplfigikaa", sum := "36a25fcaa5a9d074236c39c6118006f736f6c232bac00b02b2302ee5d57ca866", func := "fairlead/fairleadlaw24.GlobNames", spec := "globNames", inPlace := ["internal/bytealg.IndexByteString", "internal/abi.NoEscape", "internal/bytealg.MakeNoZero"], unfollowed := true, recurses := true, apart := false }
def GlobNamesSaid : Prop := globNamesRow.holds Try.pinned (OpenSpec.ofChange globNamesSpec)

/-- ITS FALSE NEIGHBOUR: 'it returns false'. Refute it at one input. -/
def globNamesWrong : ChangeSpec := { name := "globNames", fn := fun _ => fun
  | [d1, d2] => { results := [.lit (.bool false)], args := [d1, d2] }
  | _ => none }
def GlobNamesWrongFalsely : Prop := globNamesRow.holds Try.pinned (OpenSpec.ofChange globNamesWrong)

/-- 'fairleadlaw24.GlobMatches': WHATEVER THE INPUT: true; the input reads as it did. -/
def globMatchesSpec : ChangeSpec := { name := "globMatches", fn := fun _ => fun
  | [d1, d2] => { results := [.lit (.bool true)], args := [d1, d2] }
  | _ => none }
def globMatchesRow : OpenClaim := { program := "ytcmogmplfigikaa", sum := "36a25fcaa5a9d074236c39c6118006f736f6c232bac00b02b2302ee5d57ca866", func := "fairlead/fairleadlaw24.GlobMatches", spec := "globMatches", inPlace := ["internal/bytealg.IndexByteString", "internal/abi.NoEscape", "internal/bytealg.MakeNoZero"], unfollowed := true, recurses := true, apart := false }
def GlobMatchesSaid : Prop := globMatchesRow.holds Try.pinned (OpenSpec.ofChange globMatchesSpec)

/-- ITS FALSE NEIGHBOUR: 'it returns false'. Refute it at one input. -/
def globMatchesWrong : ChangeSpec := { name := "globMatches", fn := fun _ => fun
  | [d1, d2] => { results := [.lit (.bool false)], args := [d1, d2] }
  | _ => none }
def GlobMatchesWrongFalsely : Prop := globMatchesRow.holds Try.pinned (OpenSpec.ofChange globMatchesWrong)

/-- 'fairleadlaw24.GlobSelf': WHATEVER THE INPUT: true; the input reads as it did. -/
def globSelfSpec : ChangeSpec := { name := "globSelf", fn := fun _ => fun
  | [d1, d2] => { results := [.lit (.bool true)], args := [d1, d2] }
  | _ => none }
def globSelfRow : OpenClaim := { program := "ytcmogmplfigikaa", sum := "36a25fcaa5a9d074236c39c6118006f736f6c232bac00b02b2302ee5d57ca866", func := "fairlead/fairleadlaw24.GlobSelf", spec := "globSelf", inPlace := ["internal/bytealg.IndexByteString", "internal/abi.NoEscape", "internal/bytealg.MakeNoZero"], unfollowed := true, recurses := true, apart := false }
def GlobSelfSaid : Prop := globSelfRow.holds Try.pinned (OpenSpec.ofChange globSelfSpec)

/-- ITS FALSE NEIGHBOUR: 'it returns false'. Refute it at one input. -/
def globSelfWrong : ChangeSpec := { name := "globSelf", fn := fun _ => fun
  | [d1, d2] => { results := [.lit (.bool false)], args := [d1, d2] }
  | _ => none }
def GlobSelfWrongFalsely : Prop := globSelfRow.holds Try.pinned (OpenSpec.ofChange globSelfWrong)

/-- 'fairleadlaw24.GlobMore': WHATEVER THE INPUT: true; the input reads as it did. -/
def globMoreSpec : ChangeSpec := { name := "globMore", fn := fun _ => fun
  | [d1, d2] => { results := [.lit (.bool true)], args := [d1, d2] }
  | _ => none }
def globMoreRow : OpenClaim := { program := "ytcmogmplfigikaa", sum := "36a25fcaa5a9d074236c39c6118006f736f6c232bac00b02b2302ee5d57ca866", func := "fairlead/fairleadlaw24.GlobMore", spec := "globMore", inPlace := ["internal/bytealg.IndexByteString", "internal/abi.NoEscape", "internal/bytealg.MakeNoZero"], unfollowed := true, recurses := true, apart := false }
def GlobMoreSaid : Prop := globMoreRow.holds Try.pinned (OpenSpec.ofChange globMoreSpec)

/-- ITS FALSE NEIGHBOUR: 'it returns false'. Refute it at one input. -/
def globMoreWrong : ChangeSpec := { name := "globMore", fn := fun _ => fun
  | [d1, d2] => { results := [.lit (.bool false)], args := [d1, d2] }
  | _ => none }
def GlobMoreWrongFalsely : Prop := globMoreRow.holds Try.pinned (OpenSpec.ofChange globMoreWrong)

/-- 'fairleadlaw24.GlobStars': WHATEVER THE INPUT: true; the input reads as it did. -/
def globStarsSpec : ChangeSpec := { name := "globStars", fn := fun _ => fun
  | [d1, d2, d3] => { results := [.lit (.bool true)], args := [d1, d2, d3] }
  | _ => none }
def globStarsRow : OpenClaim := { program := "ytcmogmplfigikaa", sum := "36a25fcaa5a9d074236c39c6118006f736f6c232bac00b02b2302ee5d57ca866", func := "fairlead/fairleadlaw24.GlobStars", spec := "globStars", inPlace := ["internal/bytealg.IndexByteString", "internal/abi.NoEscape", "internal/bytealg.MakeNoZero"], unfollowed := true, recurses := true, apart := false }
def GlobStarsSaid : Prop := globStarsRow.holds Try.pinned (OpenSpec.ofChange globStarsSpec)

/-- ITS FALSE NEIGHBOUR: 'it returns false'. Refute it at one input. -/
def globStarsWrong : ChangeSpec := { name := "globStars", fn := fun _ => fun
  | [d1, d2, d3] => { results := [.lit (.bool false)], args := [d1, d2, d3] }
  | _ => none }
def GlobStarsWrongFalsely : Prop := globStarsRow.holds Try.pinned (OpenSpec.ofChange globStarsWrong)

/-- 'fairleadlaw24.GlobFirsts': WHATEVER THE INPUT: true; the input reads as it did. -/
def globFirstsSpec : ChangeSpec := { name := "globFirsts", fn := fun _ => fun
  | [d1, d2] => { results := [.lit (.bool true)], args := [d1, d2] }
  | _ => none }
def globFirstsRow : OpenClaim := { program := "ytcmogmplfigikaa", sum := "36a25fcaa5a9d074236c39c6118006f736f6c232bac00b02b2302ee5d57ca866", func := "fairlead/fairleadlaw24.GlobFirsts", spec := "globFirsts", inPlace := ["internal/bytealg.IndexByteString", "internal/abi.NoEscape", "internal/bytealg.MakeNoZero"], unfollowed := true, recurses := true, apart := false }
def GlobFirstsSaid : Prop := globFirstsRow.holds Try.pinned (OpenSpec.ofChange globFirstsSpec)

/-- ITS FALSE NEIGHBOUR: 'it returns false'. Refute it at one input. -/
def globFirstsWrong : ChangeSpec := { name := "globFirsts", fn := fun _ => fun
  | [d1, d2] => { results := [.lit (.bool false)], args := [d1, d2] }
  | _ => none }
def GlobFirstsWrongFalsely : Prop := globFirstsRow.holds Try.pinned (OpenSpec.ofChange globFirstsWrong)

/-- 'fairleadlaw24.GlobBehind': WHATEVER THE INPUT: true; the input reads as it did. -/
def globBehindSpec : ChangeSpec := { name := "globBehind", fn := fun _ => fun
  | [d1, d2, d3] => { results := [.lit (.bool true)], args := [d1, d2, d3] }
  | _ => none }
def globBehindRow : OpenClaim := { program := "ytcmogmplfigikaa", sum := "36a25fcaa5a9d074236c39c6118006f736f6c232bac00b02b2302ee5d57ca866", func := "fairlead/fairleadlaw24.GlobBehind", spec := "globBehind", inPlace := ["internal/bytealg.IndexByteString", "internal/abi.NoEscape", "internal/bytealg.MakeNoZero"], unfollowed := true, recurses := true, apart := false }
def GlobBehindSaid : Prop := globBehindRow.holds Try.pinned (OpenSpec.ofChange globBehindSpec)

/-- ITS FALSE NEIGHBOUR: 'it returns false'. Refute it at one input. -/
def globBehindWrong : ChangeSpec := { name := "globBehind", fn := fun _ => fun
  | [d1, d2, d3] => { results := [.lit (.bool false)], args := [d1, d2, d3] }
  | _ => none }
def GlobBehindWrongFalsely : Prop := globBehindRow.holds Try.pinned (OpenSpec.ofChange globBehindWrong)

/- THE SECOND FORM. 'bulk': how many values and letters a reading holds, each counted each time it is reached (what is shared counts as often as it is met; a slice's spare places count too). A statement '..UptoSaid' is the law's where the arguments, and the package variables that the reading takes, are together of bulk at most 1048576: NARROWER than '..Said'. Prove '..Said' where nothing that the law and all that it calls make is longer than what came in: it says more and counts as full. Else prove '..UptoSaid'. A law counts once. -/
mutual
def uptoBulk {H : Type} : DataW H → Nat
  | .lit (.string bytes) => bytes.length + 1
  | .lit _ => 1
  | .nil => 1
  | .ptr d => uptoBulk d + 1
  | .slice elems spare => uptoBulkAll elems + uptoBulkAll spare + 1
  | .agg parts => uptoBulkAll parts + 1
  | .iface _ d => uptoBulk d + 1
  | .map entries => uptoBulkEntries entries + 1
  | .held _ => 1
def uptoBulkAll {H : Type} : List (DataW H) → Nat
  | [] => 0
  | d :: r => uptoBulk d + uptoBulkAll r
def uptoBulkEntries {H : Type} : List (Lit × DataW H) → Nat
  | [] => 0
  | x :: r => uptoBulkEntry x + uptoBulkEntries r
def uptoBulkEntry {H : Type} : Lit × DataW H → Nat
  | (.string bytes, d) => bytes.length + uptoBulk d + 1
  | (_, d) => uptoBulk d + 1
 end
def uptoSmall : (H : Type) → List (DataW H) → Bool := fun _ ds => decide (uptoBulkAll ds ≤ 1048576)
def OpenSpec.upto (s : _root_.Go.ChangeSpec) : _root_.Go.OpenSpec := { _root_.Go.OpenSpec.ofChange s with cond := some uptoSmall }

/-- 'fairleadlaw24.GlobNames', WHERE WHAT IT READS IS OF BULK AT MOST 1048576: true; the input reads as it did. -/
def globNamesUptoRow : OpenClaim := { program := "ytcmogmplfigikaa", sum := "36a25fcaa5a9d074236c39c6118006f736f6c232bac00b02b2302ee5d57ca866", func := "fairlead/fairleadlaw24.GlobNames", spec := "globNames", inPlace := ["internal/bytealg.IndexByteString", "internal/abi.NoEscape", "internal/bytealg.MakeNoZero"], unfollowed := true, recurses := true, apart := false, narrowed := true }
def GlobNamesUptoSaid : Prop := globNamesUptoRow.holds Try.pinned (OpenSpec.upto globNamesSpec)

/-- 'fairleadlaw24.GlobMatches', WHERE WHAT IT READS IS OF BULK AT MOST 1048576: true; the input reads as it did. -/
def globMatchesUptoRow : OpenClaim := { program := "ytcmogmplfigikaa", sum := "36a25fcaa5a9d074236c39c6118006f736f6c232bac00b02b2302ee5d57ca866", func := "fairlead/fairleadlaw24.GlobMatches", spec := "globMatches", inPlace := ["internal/bytealg.IndexByteString", "internal/abi.NoEscape", "internal/bytealg.MakeNoZero"], unfollowed := true, recurses := true, apart := false, narrowed := true }
def GlobMatchesUptoSaid : Prop := globMatchesUptoRow.holds Try.pinned (OpenSpec.upto globMatchesSpec)

/-- 'fairleadlaw24.GlobSelf', WHERE WHAT IT READS IS OF BULK AT MOST 1048576: true; the input reads as it did. -/
def globSelfUptoRow : OpenClaim := { program := "ytcmogmplfigikaa", sum := "36a25fcaa5a9d074236c39c6118006f736f6c232bac00b02b2302ee5d57ca866", func := "fairlead/fairleadlaw24.GlobSelf", spec := "globSelf", inPlace := ["internal/bytealg.IndexByteString", "internal/abi.NoEscape", "internal/bytealg.MakeNoZero"], unfollowed := true, recurses := true, apart := false, narrowed := true }
def GlobSelfUptoSaid : Prop := globSelfUptoRow.holds Try.pinned (OpenSpec.upto globSelfSpec)

/-- 'fairleadlaw24.GlobMore', WHERE WHAT IT READS IS OF BULK AT MOST 1048576: true; the input reads as it did. -/
def globMoreUptoRow : OpenClaim := { program := "ytcmogmplfigikaa", sum := "36a25fcaa5a9d074236c39c6118006f736f6c232bac00b02b2302ee5d57ca866", func := "fairlead/fairleadlaw24.GlobMore", spec := "globMore", inPlace := ["internal/bytealg.IndexByteString", "internal/abi.NoEscape", "internal/bytealg.MakeNoZero"], unfollowed := true, recurses := true, apart := false, narrowed := true }
def GlobMoreUptoSaid : Prop := globMoreUptoRow.holds Try.pinned (OpenSpec.upto globMoreSpec)

/-- 'fairleadlaw24.GlobStars', WHERE WHAT IT READS IS OF BULK AT MOST 1048576: true; the input reads as it did. -/
def globStarsUptoRow : OpenClaim := { program := "ytcmogmplfigikaa", sum := "36a25fcaa5a9d074236c39c6118006f736f6c232bac00b02b2302ee5d57ca866", func := "fairlead/fairleadlaw24.GlobStars", spec := "globStars", inPlace := ["internal/bytealg.IndexByteString", "internal/abi.NoEscape", "internal/bytealg.MakeNoZero"], unfollowed := true, recurses := true, apart := false, narrowed := true }
def GlobStarsUptoSaid : Prop := globStarsUptoRow.holds Try.pinned (OpenSpec.upto globStarsSpec)

/-- 'fairleadlaw24.GlobFirsts', WHERE WHAT IT READS IS OF BULK AT MOST 1048576: true; the input reads as it did. -/
def globFirstsUptoRow : OpenClaim := { program := "ytcmogmplfigikaa", sum := "36a25fcaa5a9d074236c39c6118006f736f6c232bac00b02b2302ee5d57ca866", func := "fairlead/fairleadlaw24.GlobFirsts", spec := "globFirsts", inPlace := ["internal/bytealg.IndexByteString", "internal/abi.NoEscape", "internal/bytealg.MakeNoZero"], unfollowed := true, recurses := true, apart := false, narrowed := true }
def GlobFirstsUptoSaid : Prop := globFirstsUptoRow.holds Try.pinned (OpenSpec.upto globFirstsSpec)

/-- 'fairleadlaw24.GlobBehind', WHERE WHAT IT READS IS OF BULK AT MOST 1048576: true; the input reads as it did. -/
def globBehindUptoRow : OpenClaim := { program := "ytcmogmplfigikaa", sum := "36a25fcaa5a9d074236c39c6118006f736f6c232bac00b02b2302ee5d57ca866", func := "fairlead/fairleadlaw24.GlobBehind", spec := "globBehind", inPlace := ["internal/bytealg.IndexByteString", "internal/abi.NoEscape", "internal/bytealg.MakeNoZero"], unfollowed := true, recurses := true, apart := false, narrowed := true }
def GlobBehindUptoSaid : Prop := globBehindUptoRow.holds Try.pinned (OpenSpec.upto globBehindSpec)

end Rows
end Go.Proofs.Ytcmogmplfigikaa
