/-
  No cell of these rows narrows 'for every input' (looked for: loops, veiled, ifaces, maps, wideKeys, modest, calm, conditions, laid).
  DERIVED. THE GIVEN ROWS OF THIS SEAT. 6 by the template 'for every input the law returns true; each argument reads behind the call as it read before'; 0 by the template 'total and deterministic' (their statements: YtipapejgemkoaaaTotals.lean).
  GIVEN WITH THE SEED: the statements are not yours to turn. If you find one false, say at which input.
  Laid BY PROGRAM, IN A SANDBOX (cutbox-rows.mjs): the forced cells as the released guide's own fill.sh prints them over the translation 2f01c0b7ff7473a9… (all of the seat's roots in one cut). By AI agents, Wed Nov 11 2026. No macro, syntax, notation, axiom, sorry.
-/
import Derived.Test.YtipapejgemkoaaaChecked
import GoSem.Claim
import GoSem.ClaimJoined
import GoSem.ClaimMapViews
import Derived.JoinedTies
import Derived.KernelRfl
namespace Go.Proofs.Ytipapejgemkoaaa
/- THE CELL 'sum', in the pinned program and in every row, IS THE sha256 OF THE DUMP (.gsa) THAT YtipapejgemkoaaaProg.lean LOADS. Nothing in Lean hashes anything: it is a label: what it is worth is what the hold of that sum in a sandbox is worth. -/
noncomputable def Try.pinned : Pinned := { name := "ytipapejgemkoaaa", sum := "2f01c0b7ff7473a9a49716c7f14b75d4ab9bcf9b8ead7fba63aa2d5d90d2bab4", checked := Try.checked }
namespace Rows
def none {H : Type} : Left H := { results := [], args := [] }

/-- 'fairleadlaw08.CondHolds': WHATEVER THE INPUT: true; the input reads as it did. -/
def condHoldsSpec : ChangeSpec := { name := "condHolds", fn := fun _ => fun
  | [d1, d2] => { results := [.lit (.bool true)], args := [d1, d2] }
  | _ => none }
def condHoldsRow : OpenClaim := { program := "ytipapejgemkoaaa", sum := "2f01c0b7ff7473a9a49716c7f14b75d4ab9bcf9b8ead7fba63aa2d5d90d2bab4", func := "fairlead/fairleadlaw08.CondHolds", spec := "condHolds", unfollowed := true, recurses := true, apart := false }
def CondHoldsSaid : Prop := condHoldsRow.holds Try.pinned (OpenSpec.ofChange condHoldsSpec)

/-- ITS FALSE NEIGHBOUR: 'it returns false'. Refute it at one input. -/
def condHoldsWrong : ChangeSpec := { name := "condHolds", fn := fun _ => fun
  | [d1, d2] => { results := [.lit (.bool false)], args := [d1, d2] }
  | _ => none }
def CondHoldsWrongFalsely : Prop := condHoldsRow.holds Try.pinned (OpenSpec.ofChange condHoldsWrong)

/-- 'fairleadlaw08.CondBits': WHATEVER THE INPUT: true; the input reads as it did. -/
def condBitsSpec : ChangeSpec := { name := "condBits", fn := fun _ => fun
  | [d1, d2, d3] => { results := [.lit (.bool true)], args := [d1, d2, d3] }
  | _ => none }
def condBitsRow : OpenClaim := { program := "ytipapejgemkoaaa", sum := "2f01c0b7ff7473a9a49716c7f14b75d4ab9bcf9b8ead7fba63aa2d5d90d2bab4", func := "fairlead/fairleadlaw08.CondBits", spec := "condBits", unfollowed := true, recurses := true, apart := false }
def CondBitsSaid : Prop := condBitsRow.holds Try.pinned (OpenSpec.ofChange condBitsSpec)

/-- ITS FALSE NEIGHBOUR: 'it returns false'. Refute it at one input. -/
def condBitsWrong : ChangeSpec := { name := "condBits", fn := fun _ => fun
  | [d1, d2, d3] => { results := [.lit (.bool false)], args := [d1, d2, d3] }
  | _ => none }
def CondBitsWrongFalsely : Prop := condBitsRow.holds Try.pinned (OpenSpec.ofChange condBitsWrong)

/-- 'fairleadlaw08.CondIs': WHATEVER THE INPUT: true; the input reads as it did. -/
def condIsSpec : ChangeSpec := { name := "condIs", fn := fun _ => fun
  | [d1, d2] => { results := [.lit (.bool true)], args := [d1, d2] }
  | _ => none }
def condIsRow : OpenClaim := { program := "ytipapejgemkoaaa", sum := "2f01c0b7ff7473a9a49716c7f14b75d4ab9bcf9b8ead7fba63aa2d5d90d2bab4", func := "fairlead/fairleadlaw08.CondIs", spec := "condIs", unfollowed := true, recurses := true, apart := false }
def CondIsSaid : Prop := condIsRow.holds Try.pinned (OpenSpec.ofChange condIsSpec)

/-- ITS FALSE NEIGHBOUR: 'it returns false'. Refute it at one input. -/
def condIsWrong : ChangeSpec := { name := "condIs", fn := fun _ => fun
  | [d1, d2] => { results := [.lit (.bool false)], args := [d1, d2] }
  | _ => none }
def CondIsWrongFalsely : Prop := condIsRow.holds Try.pinned (OpenSpec.ofChange condIsWrong)

/-- 'fairleadlaw08.CondSame': WHATEVER THE INPUT: true; the input reads as it did. -/
def condSameSpec : ChangeSpec := { name := "condSame", fn := fun _ => fun
  | [d1, d2] => { results := [.lit (.bool true)], args := [d1, d2] }
  | _ => none }
def condSameRow : OpenClaim := { program := "ytipapejgemkoaaa", sum := "2f01c0b7ff7473a9a49716c7f14b75d4ab9bcf9b8ead7fba63aa2d5d90d2bab4", func := "fairlead/fairleadlaw08.CondSame", spec := "condSame", unfollowed := true, recurses := true, apart := false }
def CondSameSaid : Prop := condSameRow.holds Try.pinned (OpenSpec.ofChange condSameSpec)

/-- ITS FALSE NEIGHBOUR: 'it returns false'. Refute it at one input. -/
def condSameWrong : ChangeSpec := { name := "condSame", fn := fun _ => fun
  | [d1, d2] => { results := [.lit (.bool false)], args := [d1, d2] }
  | _ => none }
def CondSameWrongFalsely : Prop := condSameRow.holds Try.pinned (OpenSpec.ofChange condSameWrong)

/-- 'fairleadlaw08.CondNorms': WHATEVER THE INPUT: true; the input reads as it did. -/
def condNormsSpec : ChangeSpec := { name := "condNorms", fn := fun _ => fun
  | [d] => { results := [.lit (.bool true)], args := [d] }
  | _ => none }
def condNormsRow : OpenClaim := { program := "ytipapejgemkoaaa", sum := "2f01c0b7ff7473a9a49716c7f14b75d4ab9bcf9b8ead7fba63aa2d5d90d2bab4", func := "fairlead/fairleadlaw08.CondNorms", spec := "condNorms", unfollowed := true, recurses := true, apart := false }
def CondNormsSaid : Prop := condNormsRow.holds Try.pinned (OpenSpec.ofChange condNormsSpec)

/-- ITS FALSE NEIGHBOUR: 'it returns false'. Refute it at one input. -/
def condNormsWrong : ChangeSpec := { name := "condNorms", fn := fun _ => fun
  | [d] => { results := [.lit (.bool false)], args := [d] }
  | _ => none }
def CondNormsWrongFalsely : Prop := condNormsRow.holds Try.pinned (OpenSpec.ofChange condNormsWrong)

/-- 'fairleadlaw08.CondNot': WHATEVER THE INPUT: true; the input reads as it did. -/
def condNotSpec : ChangeSpec := { name := "condNot", fn := fun _ => fun
  | [d1, d2] => { results := [.lit (.bool true)], args := [d1, d2] }
  | _ => none }
def condNotRow : OpenClaim := { program := "ytipapejgemkoaaa", sum := "2f01c0b7ff7473a9a49716c7f14b75d4ab9bcf9b8ead7fba63aa2d5d90d2bab4", func := "fairlead/fairleadlaw08.CondNot", spec := "condNot", unfollowed := true, recurses := true, apart := false }
def CondNotSaid : Prop := condNotRow.holds Try.pinned (OpenSpec.ofChange condNotSpec)

/-- ITS FALSE NEIGHBOUR: 'it returns false'. Refute it at one input. -/
def condNotWrong : ChangeSpec := { name := "condNot", fn := fun _ => fun
  | [d1, d2] => { results := [.lit (.bool false)], args := [d1, d2] }
  | _ => none }
def CondNotWrongFalsely : Prop := condNotRow.holds Try.pinned (OpenSpec.ofChange condNotWrong)

/- THE SECOND FORM. 'bulk': how many values and letters a reading holds, each counted each time it is reached (what is shared counts as often as it is met; a slice's spare places count too). A statement '..UptoSaid' is the law's where the arguments, and the package variables that the reading takes, are together of bulk at most 1048576: NARROWER than '..Said'. Prove '..Said' where nothing that the law and all that it calls make is longer than what came in: it says more and counts as full. Else prove '..UptoSaid'. A law counts once. -/
mutual
def uptoBulk {H : Type} : DataW H → Nat
  | .lit (.string bytes) => bytes.length + 1
  | .lit _ => 1
  | .nil => 1
  | .ptr d => uptoBulk d + 1
  | .slice elems spare => uptoBulkAll elems + uptoBulkAll spare + 1
  | .agg parts => uptoBulkAll parts + 1
  | .iface _ d => uptoBulk d + 1
  | .map entries => uptoBulkEntries entries + 1
  | .held _ => 1
def uptoBulkAll {H : Type} : List (DataW H) → Nat
  | [] => 0
  | d :: r => uptoBulk d + uptoBulkAll r
def uptoBulkEntries {H : Type} : List (Lit × DataW H) → Nat
  | [] => 0
  | x :: r => uptoBulkEntry x + uptoBulkEntries r
def uptoBulkEntry {H : Type} : Lit × DataW H → Nat
  | (.string bytes, d) => bytes.length + uptoBulk d + 1
  | (_, d) => uptoBulk d + 1
 end
def uptoSmall : (H : Type) → List (DataW H) → Bool := fun _ ds => decide (uptoBulkAll ds ≤ 1048576)
def OpenSpec.upto (s : _root_.Go.ChangeSpec) : _root_.Go.OpenSpec := { _root_.Go.OpenSpec.ofChange s with cond := some uptoSmall }

/-- 'fairleadlaw08.CondHolds', WHERE WHAT IT READS IS OF BULK AT MOST 1048576: true; the input reads as it did. -/
def condHoldsUptoRow : OpenClaim := { program := "ytipapejgemkoaaa", sum := "2f01c0b7ff7473a9a49716c7f14b75d4ab9bcf9b8ead7fba63aa2d5d90d2bab4", func := "fairlead/fairleadlaw08.CondHolds", spec := "condHolds", unfollowed := true, recurses := true, apart := false, narrowed := true }
def CondHoldsUptoSaid : Prop := condHoldsUptoRow.holds Try.pinned (OpenSpec.upto condHoldsSpec)

/-- 'fairleadlaw08.CondBits', WHERE WHAT IT READS IS OF BULK AT MOST 1048576: true; the input reads as it did. -/
def condBitsUptoRow : OpenClaim := { program := "ytipapejgemkoaaa", sum := "2f01c0b7ff7473a9a49716c7f14b75d4ab9bcf9b8ead7fba63aa2d5d90d2bab4", func := "fairlead/fairleadlaw08.CondBits", spec := "condBits", unfollowed := true, recurses := true, apart := false, narrowed := true }
def CondBitsUptoSaid : Prop := condBitsUptoRow.holds Try.pinned (OpenSpec.upto condBitsSpec)

/-- 'fairleadlaw08.CondIs', WHERE WHAT IT READS IS OF BULK AT MOST 1048576: true; the input reads as it did. -/
def condIsUptoRow : OpenClaim := { program := "ytipapejgemkoaaa", sum := "2f01c0b7ff7473a9a49716c7f14b75d4ab9bcf9b8ead7fba63aa2d5d90d2bab4", func := "fairlead/fairleadlaw08.CondIs", spec := "condIs", unfollowed := true, recurses := true, apart := false, narrowed := true }
def CondIsUptoSaid : Prop := condIsUptoRow.holds Try.pinned (OpenSpec.upto condIsSpec)

/-- 'fairleadlaw08.CondSame', WHERE WHAT IT READS IS OF BULK AT MOST 1048576: true; the input reads as it did. -/
def condSameUptoRow : OpenClaim := { program := "ytipapejgemkoaaa", sum := "2f01c0b7ff7473a9a49716c7f14b75d4ab9bcf9b8ead7fba63aa2d5d90d2bab4", func := "fairlead/fairleadlaw08.CondSame", spec := "condSame", unfollowed := true, recurses := true, apart := false, narrowed := true }
def CondSameUptoSaid : Prop := condSameUptoRow.holds Try.pinned (OpenSpec.upto condSameSpec)

/-- 'fairleadlaw08.CondNorms', WHERE WHAT IT READS IS OF BULK AT MOST 1048576: true; the input reads as it did. -/
def condNormsUptoRow : OpenClaim := { program := "ytipapejgemkoaaa", sum := "2f01c0b7ff7473a9a49716c7f14b75d4ab9bcf9b8ead7fba63aa2d5d90d2bab4", func := "fairlead/fairleadlaw08.CondNorms", spec := "condNorms", unfollowed := true, recurses := true, apart := false, narrowed := true }
def CondNormsUptoSaid : Prop := condNormsUptoRow.holds Try.pinned (OpenSpec.upto condNormsSpec)

/-- 'fairleadlaw08.CondNot', WHERE WHAT IT READS IS OF BULK AT MOST 1048576: true; the input reads as it did. -/
def condNotUptoRow : OpenClaim := { program := "ytipapejgemkoaaa", sum := "2f01c0b7ff7473a9a49716c7f14b75d4ab9bcf9b8ead7fba63aa2d5d90d2bab4", func := "fairlead/fairleadlaw08.CondNot", spec := "condNot", unfollowed := true, recurses := true, apart := false, narrowed := true }
def CondNotUptoSaid : Prop := condNotUptoRow.holds Try.pinned (OpenSpec.upto condNotSpec)

end Rows
end Go.Proofs.Ytipapejgemkoaaa
