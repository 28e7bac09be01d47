/-
  NARROWER THAN 'FOR EVERY INPUT', by the rows' own cells (each row's printed sentence says how): VfsResolves: laid · VfsLeads: laid · VfsPlain: laid · VfsLink: laid · VfsRing: laid.
  DERIVED. THE GIVEN ROWS OF THIS SEAT. 5 by the template 'for every input the law returns true; each argument reads behind the call as it read before'; 0 by the template 'total and deterministic' (their statements: YtnjpodbefcfdhaaDoorTotals.lean).
  GIVEN WITH THE SEED: the statements are not yours to turn. If you find one false, say at which input.
  Laid BY PROGRAM, IN A SANDBOX (cutbox-rows.mjs): the forced cells as the released guide's own fill.sh prints them over the translation 97216fc77b56cc2b… (all of the seat's roots in one cut). By AI agents, Wed Nov 11 2026. No macro, syntax, notation, axiom, sorry.
-/
import Derived.Test.YtnjpodbefcfdhaaDoorChecked
import GoSem.PinnedTables
import GoSem.Claim
import GoSem.ClaimJoined
import GoSem.ClaimMapViews
import Derived.JoinedTies
import Derived.KernelRfl
namespace Go.Proofs.YtnjpodbefcfdhaaDoor
/- THE CELL 'sum', in the pinned program and in every row, IS THE sha256 OF THE DUMP (.gsa) THAT YtnjpodbefcfdhaaDoorProg.lean LOADS. Nothing in Lean hashes anything: it is a label: what it is worth is what the hold of that sum in a sandbox is worth. -/
noncomputable def Tryd.pinned : Pinned := { name := "ytnjpodbefcfdhaadoor", sum := "97216fc77b56cc2ba005d3d3a51462321f78143b3be53dd61f7108831aab27e0", checked := Tryd.checked }
namespace Rows
def none {H : Type} : Left H := { results := [], args := [] }

/- WHAT THE LISTED PACKAGE-LEVEL VARIABLES READ AS WHEN THE CALL BEGINS. Each datum BY PROGRAM (the guide's laid-datum.mjs) off the statement by which the dump's own 'gosem.cut.vars' lays the variable. In a bare row this is a premise. The card (YtnjpodbefcfdhaaDoorCards.lean) ties it to the program's text. -/
def laid_unicode_utf8_acceptRanges {H : Type} : DataW H := .agg [.agg [.lit (.int .u8 128), .lit (.int .u8 191)], .agg [.lit (.int .u8 160), .lit (.int .u8 191)], .agg [.lit (.int .u8 128), .lit (.int .u8 159)], .agg [.lit (.int .u8 144), .lit (.int .u8 191)], .agg [.lit (.int .u8 128), .lit (.int .u8 143)], .agg [.lit (.int .u8 0), .lit (.int .u8 0)], .agg [.lit (.int .u8 0), .lit (.int .u8 0)], .agg [.lit (.int .u8 0), .lit (.int .u8 0)], .agg [.lit (.int .u8 0), .lit (.int .u8 0)], .agg [.lit (.int .u8 0), .lit (.int .u8 0)], .agg [.lit (.int .u8 0), .lit (.int .u8 0)], .agg [.lit (.int .u8 0), .lit (.int .u8 0)], .agg [.lit (.int .u8 0), .lit (.int .u8 0)], .agg [.lit (.int .u8 0), .lit (.int .u8 0)], .agg [.lit (.int .u8 0), .lit (.int .u8 0)], .agg [.lit (.int .u8 0), .lit (.int .u8 0)]]
/-- One of Go's own tables, pinned by name: the form's constant. -/
def laid_unicode_utf8_first : DataW Unit := Go.Pinned.utf8First

/-- 'fairleadlaw23.VfsResolves': WHATEVER THE INPUT: true; the input reads as it did. -/
def vfsResolvesSpec : ChangeSpec := { name := "vfsResolves", fn := fun _ => fun
  | [d1, d2] => { results := [.lit (.bool true)], args := [d1, d2] }
  | _ => none }
def vfsResolvesRow : OpenClaim := { program := "ytnjpodbefcfdhaadoor", sum := "97216fc77b56cc2ba005d3d3a51462321f78143b3be53dd61f7108831aab27e0", func := "fairlead/fairleadlaw23.VfsResolves", spec := "vfsResolves", inPlace := ["internal/bytealg.IndexByteString", "internal/abi.NoEscape", "internal/bytealg.MakeNoZero", "internal/bytealg.CountString", "internal/bytealg.IndexString"], unfollowed := true, recurses := true, named := ["unicode/utf8.first", "unicode/utf8.acceptRanges", "internal/bytealg.MaxLen"], apart := false, laid := [("unicode/utf8.acceptRanges", laid_unicode_utf8_acceptRanges), ("unicode/utf8.first", laid_unicode_utf8_first)] }
def VfsResolvesSaid : Prop := vfsResolvesRow.holds Tryd.pinned (OpenSpec.ofChange vfsResolvesSpec)

/-- ITS FALSE NEIGHBOUR: 'it returns false'. Refute it at one input. -/
def vfsResolvesWrong : ChangeSpec := { name := "vfsResolves", fn := fun _ => fun
  | [d1, d2] => { results := [.lit (.bool false)], args := [d1, d2] }
  | _ => none }
def VfsResolvesWrongFalsely : Prop := vfsResolvesRow.holds Tryd.pinned (OpenSpec.ofChange vfsResolvesWrong)

/-- 'fairleadlaw23.VfsLeads': WHATEVER THE INPUT: true; the input reads as it did. -/
def vfsLeadsSpec : ChangeSpec := { name := "vfsLeads", fn := fun _ => fun
  | [d1, d2] => { results := [.lit (.bool true)], args := [d1, d2] }
  | _ => none }
def vfsLeadsRow : OpenClaim := { program := "ytnjpodbefcfdhaadoor", sum := "97216fc77b56cc2ba005d3d3a51462321f78143b3be53dd61f7108831aab27e0", func := "fairlead/fairleadlaw23.VfsLeads", spec := "vfsLeads", inPlace := ["internal/bytealg.IndexByteString", "internal/abi.NoEscape", "internal/bytealg.MakeNoZero", "internal/bytealg.CountString", "internal/bytealg.IndexString"], unfollowed := true, recurses := true, named := ["unicode/utf8.first", "unicode/utf8.acceptRanges", "internal/bytealg.MaxLen"], apart := false, laid := [("unicode/utf8.acceptRanges", laid_unicode_utf8_acceptRanges), ("unicode/utf8.first", laid_unicode_utf8_first)] }
def VfsLeadsSaid : Prop := vfsLeadsRow.holds Tryd.pinned (OpenSpec.ofChange vfsLeadsSpec)

/-- ITS FALSE NEIGHBOUR: 'it returns false'. Refute it at one input. -/
def vfsLeadsWrong : ChangeSpec := { name := "vfsLeads", fn := fun _ => fun
  | [d1, d2] => { results := [.lit (.bool false)], args := [d1, d2] }
  | _ => none }
def VfsLeadsWrongFalsely : Prop := vfsLeadsRow.holds Tryd.pinned (OpenSpec.ofChange vfsLeadsWrong)

/-- 'fairleadlaw23.VfsPlain': WHATEVER THE INPUT: true; the input reads as it did. -/
def vfsPlainSpec : ChangeSpec := { name := "vfsPlain", fn := fun _ => fun
  | [d1, d2] => { results := [.lit (.bool true)], args := [d1, d2] }
  | _ => none }
def vfsPlainRow : OpenClaim := { program := "ytnjpodbefcfdhaadoor", sum := "97216fc77b56cc2ba005d3d3a51462321f78143b3be53dd61f7108831aab27e0", func := "fairlead/fairleadlaw23.VfsPlain", spec := "vfsPlain", inPlace := ["internal/bytealg.IndexByteString", "internal/abi.NoEscape", "internal/bytealg.MakeNoZero", "internal/bytealg.CountString", "internal/bytealg.IndexString"], unfollowed := true, recurses := true, named := ["unicode/utf8.first", "unicode/utf8.acceptRanges", "internal/bytealg.MaxLen"], apart := false, laid := [("unicode/utf8.acceptRanges", laid_unicode_utf8_acceptRanges), ("unicode/utf8.first", laid_unicode_utf8_first)] }
def VfsPlainSaid : Prop := vfsPlainRow.holds Tryd.pinned (OpenSpec.ofChange vfsPlainSpec)

/-- ITS FALSE NEIGHBOUR: 'it returns false'. Refute it at one input. -/
def vfsPlainWrong : ChangeSpec := { name := "vfsPlain", fn := fun _ => fun
  | [d1, d2] => { results := [.lit (.bool false)], args := [d1, d2] }
  | _ => none }
def VfsPlainWrongFalsely : Prop := vfsPlainRow.holds Tryd.pinned (OpenSpec.ofChange vfsPlainWrong)

/-- 'fairleadlaw23.VfsLink': WHATEVER THE INPUT: true; the input reads as it did. -/
def vfsLinkSpec : ChangeSpec := { name := "vfsLink", fn := fun _ => fun
  | [d1, d2] => { results := [.lit (.bool true)], args := [d1, d2] }
  | _ => none }
def vfsLinkRow : OpenClaim := { program := "ytnjpodbefcfdhaadoor", sum := "97216fc77b56cc2ba005d3d3a51462321f78143b3be53dd61f7108831aab27e0", func := "fairlead/fairleadlaw23.VfsLink", spec := "vfsLink", inPlace := ["internal/bytealg.IndexByteString", "internal/abi.NoEscape", "internal/bytealg.MakeNoZero", "internal/bytealg.CountString", "internal/bytealg.IndexString"], unfollowed := true, recurses := true, named := ["unicode/utf8.first", "unicode/utf8.acceptRanges", "internal/bytealg.MaxLen"], apart := false, laid := [("unicode/utf8.acceptRanges", laid_unicode_utf8_acceptRanges), ("unicode/utf8.first", laid_unicode_utf8_first)] }
def VfsLinkSaid : Prop := vfsLinkRow.holds Tryd.pinned (OpenSpec.ofChange vfsLinkSpec)

/-- ITS FALSE NEIGHBOUR: 'it returns false'. Refute it at one input. -/
def vfsLinkWrong : ChangeSpec := { name := "vfsLink", fn := fun _ => fun
  | [d1, d2] => { results := [.lit (.bool false)], args := [d1, d2] }
  | _ => none }
def VfsLinkWrongFalsely : Prop := vfsLinkRow.holds Tryd.pinned (OpenSpec.ofChange vfsLinkWrong)

/-- 'fairleadlaw23.VfsRing': WHATEVER THE INPUT: true; the input reads as it did. -/
def vfsRingSpec : ChangeSpec := { name := "vfsRing", fn := fun _ => fun
  | [d1, d2] => { results := [.lit (.bool true)], args := [d1, d2] }
  | _ => none }
def vfsRingRow : OpenClaim := { program := "ytnjpodbefcfdhaadoor", sum := "97216fc77b56cc2ba005d3d3a51462321f78143b3be53dd61f7108831aab27e0", func := "fairlead/fairleadlaw23.VfsRing", spec := "vfsRing", inPlace := ["internal/bytealg.IndexByteString", "internal/abi.NoEscape", "internal/bytealg.MakeNoZero", "internal/bytealg.CountString", "internal/bytealg.IndexString"], unfollowed := true, recurses := true, named := ["unicode/utf8.first", "unicode/utf8.acceptRanges", "internal/bytealg.MaxLen"], apart := false, laid := [("unicode/utf8.acceptRanges", laid_unicode_utf8_acceptRanges), ("unicode/utf8.first", laid_unicode_utf8_first)] }
def VfsRingSaid : Prop := vfsRingRow.holds Tryd.pinned (OpenSpec.ofChange vfsRingSpec)

/-- ITS FALSE NEIGHBOUR: 'it returns false'. Refute it at one input. -/
def vfsRingWrong : ChangeSpec := { name := "vfsRing", fn := fun _ => fun
  | [d1, d2] => { results := [.lit (.bool false)], args := [d1, d2] }
  | _ => none }
def VfsRingWrongFalsely : Prop := vfsRingRow.holds Tryd.pinned (OpenSpec.ofChange vfsRingWrong)

/- THE SECOND FORM. 'bulk': how many values and letters a reading holds, each counted each time it is reached (what is shared counts as often as it is met; a slice's spare places count too). A statement '..UptoSaid' is the law's where the arguments, and the package variables that the reading takes, are together of bulk at most 1048576: NARROWER than '..Said'. Prove '..Said' where nothing that the law and all that it calls make is longer than what came in: it says more and counts as full. Else prove '..UptoSaid'. A law counts once. -/
mutual
def uptoBulk {H : Type} : DataW H → Nat
  | .lit (.string bytes) => bytes.length + 1
  | .lit _ => 1
  | .nil => 1
  | .ptr d => uptoBulk d + 1
  | .slice elems spare => uptoBulkAll elems + uptoBulkAll spare + 1
  | .agg parts => uptoBulkAll parts + 1
  | .iface _ d => uptoBulk d + 1
  | .map entries => uptoBulkEntries entries + 1
  | .held _ => 1
def uptoBulkAll {H : Type} : List (DataW H) → Nat
  | [] => 0
  | d :: r => uptoBulk d + uptoBulkAll r
def uptoBulkEntries {H : Type} : List (Lit × DataW H) → Nat
  | [] => 0
  | x :: r => uptoBulkEntry x + uptoBulkEntries r
def uptoBulkEntry {H : Type} : Lit × DataW H → Nat
  | (.string bytes, d) => bytes.length + uptoBulk d + 1
  | (_, d) => uptoBulk d + 1
 end
def uptoSmall : (H : Type) → List (DataW H) → Bool := fun _ ds => decide (uptoBulkAll ds ≤ 1048576)
def OpenSpec.upto (s : _root_.Go.ChangeSpec) : _root_.Go.OpenSpec := { _root_.Go.OpenSpec.ofChange s with cond := some uptoSmall }

/-- 'fairleadlaw23.VfsResolves', WHERE WHAT IT READS IS OF BULK AT MOST 1048576: true; the input reads as it did. -/
def vfsResolvesUptoRow : OpenClaim := { program := "ytnjpodbefcfdhaadoor", sum := "97216fc77b56cc2ba005d3d3a51462321f78143b3be53dd61f7108831aab27e0", func := "fairlead/fairleadlaw23.VfsResolves", spec := "vfsResolves", inPlace := ["internal/bytealg.IndexByteString", "internal/abi.NoEscape", "internal/bytealg.MakeNoZero", "internal/bytealg.CountString", "internal/bytealg.IndexString"], unfollowed := true, recurses := true, named := ["unicode/utf8.first", "unicode/utf8.acceptRanges", "internal/bytealg.MaxLen"], apart := false, laid := [("unicode/utf8.acceptRanges", laid_unicode_utf8_acceptRanges), ("unicode/utf8.first", laid_unicode_utf8_first)], narrowed := true }
def VfsResolvesUptoSaid : Prop := vfsResolvesUptoRow.holds Tryd.pinned (OpenSpec.upto vfsResolvesSpec)

/-- 'fairleadlaw23.VfsLeads', WHERE WHAT IT READS IS OF BULK AT MOST 1048576: true; the input reads as it did. -/
def vfsLeadsUptoRow : OpenClaim := { program := "ytnjpodbefcfdhaadoor", sum := "97216fc77b56cc2ba005d3d3a51462321f78143b3be53dd61f7108831aab27e0", func := "fairlead/fairleadlaw23.VfsLeads", spec := "vfsLeads", inPlace := ["internal/bytealg.IndexByteString", "internal/abi.NoEscape", "internal/bytealg.MakeNoZero", "internal/bytealg.CountString", "internal/bytealg.IndexString"], unfollowed := true, recurses := true, named := ["unicode/utf8.first", "unicode/utf8.acceptRanges", "internal/bytealg.MaxLen"], apart := false, laid := [("unicode/utf8.acceptRanges", laid_unicode_utf8_acceptRanges), ("unicode/utf8.first", laid_unicode_utf8_first)], narrowed := true }
def VfsLeadsUptoSaid : Prop := vfsLeadsUptoRow.holds Tryd.pinned (OpenSpec.upto vfsLeadsSpec)

/-- 'fairleadlaw23.VfsPlain', WHERE WHAT IT READS IS OF BULK AT MOST 1048576: true; the input reads as it did. -/
def vfsPlainUptoRow : OpenClaim := { program := "ytnjpodbefcfdhaadoor", sum := "97216fc77b56cc2ba005d3d3a51462321f78143b3be53dd61f7108831aab27e0", func := "fairlead/fairleadlaw23.VfsPlain", spec := "vfsPlain", inPlace := ["internal/bytealg.IndexByteString", "internal/abi.NoEscape", "internal/bytealg.MakeNoZero", "internal/bytealg.CountString", "internal/bytealg.IndexString"], unfollowed := true, recurses := true, named := ["unicode/utf8.first", "unicode/utf8.acceptRanges", "internal/bytealg.MaxLen"], apart := false, laid := [("unicode/utf8.acceptRanges", laid_unicode_utf8_acceptRanges), ("unicode/utf8.first", laid_unicode_utf8_first)], narrowed := true }
def VfsPlainUptoSaid : Prop := vfsPlainUptoRow.holds Tryd.pinned (OpenSpec.upto vfsPlainSpec)

/-- 'fairleadlaw23.VfsLink', WHERE WHAT IT READS IS OF BULK AT MOST 1048576: true; the input reads as it did. -/
def vfsLinkUptoRow : OpenClaim := { program := "ytnjpodbefcfdhaadoor", sum := "97216fc77b56cc2ba005d3d3a51462321f78143b3be53dd61f7108831aab27e0", func := "fairlead/fairleadlaw23.VfsLink", spec := "vfsLink", inPlace := ["internal/bytealg.IndexByteString", "internal/abi.NoEscape", "internal/bytealg.MakeNoZero", "internal/bytealg.CountString", "internal/bytealg.IndexString"], unfollowed := true, recurses := true, named := ["unicode/utf8.first", "unicode/utf8.acceptRanges", "internal/bytealg.MaxLen"], apart := false, laid := [("unicode/utf8.acceptRanges", laid_unicode_utf8_acceptRanges), ("unicode/utf8.first", laid_unicode_utf8_first)], narrowed := true }
def VfsLinkUptoSaid : Prop := vfsLinkUptoRow.holds Tryd.pinned (OpenSpec.upto vfsLinkSpec)

/-- 'fairleadlaw23.VfsRing', WHERE WHAT IT READS IS OF BULK AT MOST 1048576: true; the input reads as it did. -/
def vfsRingUptoRow : OpenClaim := { program := "ytnjpodbefcfdhaadoor", sum := "97216fc77b56cc2ba005d3d3a51462321f78143b3be53dd61f7108831aab27e0", func := "fairlead/fairleadlaw23.VfsRing", spec := "vfsRing", inPlace := ["internal/bytealg.IndexByteString", "internal/abi.NoEscape", "internal/bytealg.MakeNoZero", "internal/bytealg.CountString", "internal/bytealg.IndexString"], unfollowed := true, recurses := true, named := ["unicode/utf8.first", "unicode/utf8.acceptRanges", "internal/bytealg.MaxLen"], apart := false, laid := [("unicode/utf8.acceptRanges", laid_unicode_utf8_acceptRanges), ("unicode/utf8.first", laid_unicode_utf8_first)], narrowed := true }
def VfsRingUptoSaid : Prop := vfsRingUptoRow.holds Tryd.pinned (OpenSpec.upto vfsRingSpec)

end Rows
end Go.Proofs.YtnjpodbefcfdhaaDoor
