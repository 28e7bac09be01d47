/-
  No cell of these rows narrows 'for every input' (looked for: loops, veiled, ifaces, maps, wideKeys, modest, calm, conditions, laid).
  DERIVED. THE GIVEN ROWS OF THIS SEAT. 5 by the template 'for every input the law returns true; each argument reads behind the call as it read before'; 0 by the template 'total and deterministic' (their statements: YtjmmbadpknlmcaaTotals.lean).
  GIVEN WITH THE SEED: the statements are not yours to turn. If you find one false, say at which input.
  Laid BY PROGRAM, IN A SANDBOX (cutbox-rows.mjs): the forced cells as the released guide's own fill.sh prints them over the translation ac41058fdeac1e89… (all of the seat's roots in one cut). By AI agents, Wed Nov 11 2026. No macro, syntax, notation, axiom, sorry.
-/
import Derived.Test.YtjmmbadpknlmcaaChecked
import GoSem.Claim
import GoSem.ClaimJoined
import GoSem.ClaimMapViews
import Derived.JoinedTies
import Derived.KernelRfl
namespace Go.Proofs.Ytjmmbadpknlmcaa
/- THE CELL 'sum', in the pinned program and in every row, IS THE sha256 OF THE DUMP (.gsa) THAT YtjmmbadpknlmcaaProg.lean LOADS. Nothing in Lean hashes anything: it is a label: what it is worth is what the hold of that sum in a sandbox is worth. -/
noncomputable def Try.pinned : Pinned := { name := "ytjmmbadpknlmcaa", sum := "ac41058fdeac1e89624c2d047afafc9c5bb3f8581042224e702f81308d9994de", checked := Try.checked }
namespace Rows
def none {H : Type} : Left H := { results := [], args := [] }

/-- 'fairleadlaw14.CompileErrs': WHATEVER THE INPUT: true; the input reads as it did. -/
def compileErrsSpec : ChangeSpec := { name := "compileErrs", fn := fun _ => fun
  | [d] => { results := [.lit (.bool true)], args := [d] }
  | _ => none }
def compileErrsRow : OpenClaim := { program := "ytjmmbadpknlmcaa", sum := "ac41058fdeac1e89624c2d047afafc9c5bb3f8581042224e702f81308d9994de", func := "fairlead/fairleadlaw14.CompileErrs", spec := "compileErrs", unfollowed := true, recurses := true, apart := false }
def CompileErrsSaid : Prop := compileErrsRow.holds Try.pinned (OpenSpec.ofChange compileErrsSpec)

/-- ITS FALSE NEIGHBOUR: 'it returns false'. Refute it at one input. -/
def compileErrsWrong : ChangeSpec := { name := "compileErrs", fn := fun _ => fun
  | [d] => { results := [.lit (.bool false)], args := [d] }
  | _ => none }
def CompileErrsWrongFalsely : Prop := compileErrsRow.holds Try.pinned (OpenSpec.ofChange compileErrsWrong)

/-- 'fairleadlaw14.CompileRight': WHATEVER THE INPUT: true; the input reads as it did. -/
def compileRightSpec : ChangeSpec := { name := "compileRight", fn := fun _ => fun
  | [d] => { results := [.lit (.bool true)], args := [d] }
  | _ => none }
def compileRightRow : OpenClaim := { program := "ytjmmbadpknlmcaa", sum := "ac41058fdeac1e89624c2d047afafc9c5bb3f8581042224e702f81308d9994de", func := "fairlead/fairleadlaw14.CompileRight", spec := "compileRight", unfollowed := true, recurses := true, apart := false }
def CompileRightSaid : Prop := compileRightRow.holds Try.pinned (OpenSpec.ofChange compileRightSpec)

/-- ITS FALSE NEIGHBOUR: 'it returns false'. Refute it at one input. -/
def compileRightWrong : ChangeSpec := { name := "compileRight", fn := fun _ => fun
  | [d] => { results := [.lit (.bool false)], args := [d] }
  | _ => none }
def CompileRightWrongFalsely : Prop := compileRightRow.holds Try.pinned (OpenSpec.ofChange compileRightWrong)

/-- 'fairleadlaw14.CompileSame': WHATEVER THE INPUT: true; the input reads as it did. -/
def compileSameSpec : ChangeSpec := { name := "compileSame", fn := fun _ => fun
  | [d] => { results := [.lit (.bool true)], args := [d] }
  | _ => none }
def compileSameRow : OpenClaim := { program := "ytjmmbadpknlmcaa", sum := "ac41058fdeac1e89624c2d047afafc9c5bb3f8581042224e702f81308d9994de", func := "fairlead/fairleadlaw14.CompileSame", spec := "compileSame", unfollowed := true, recurses := true, apart := false }
def CompileSameSaid : Prop := compileSameRow.holds Try.pinned (OpenSpec.ofChange compileSameSpec)

/-- ITS FALSE NEIGHBOUR: 'it returns false'. Refute it at one input. -/
def compileSameWrong : ChangeSpec := { name := "compileSame", fn := fun _ => fun
  | [d] => { results := [.lit (.bool false)], args := [d] }
  | _ => none }
def CompileSameWrongFalsely : Prop := compileSameRow.holds Try.pinned (OpenSpec.ofChange compileSameWrong)

/-- 'fairleadlaw14.CompileOne': WHATEVER THE INPUT: true; the input reads as it did. -/
def compileOneSpec : ChangeSpec := { name := "compileOne", fn := fun _ => fun
  | [d1, d2] => { results := [.lit (.bool true)], args := [d1, d2] }
  | _ => none }
def compileOneRow : OpenClaim := { program := "ytjmmbadpknlmcaa", sum := "ac41058fdeac1e89624c2d047afafc9c5bb3f8581042224e702f81308d9994de", func := "fairlead/fairleadlaw14.CompileOne", spec := "compileOne", unfollowed := true, recurses := true, apart := false }
def CompileOneSaid : Prop := compileOneRow.holds Try.pinned (OpenSpec.ofChange compileOneSpec)

/-- ITS FALSE NEIGHBOUR: 'it returns false'. Refute it at one input. -/
def compileOneWrong : ChangeSpec := { name := "compileOne", fn := fun _ => fun
  | [d1, d2] => { results := [.lit (.bool false)], args := [d1, d2] }
  | _ => none }
def CompileOneWrongFalsely : Prop := compileOneRow.holds Try.pinned (OpenSpec.ofChange compileOneWrong)

/-- 'fairleadlaw14.CompileRuns': WHATEVER THE INPUT: true; the input reads as it did. -/
def compileRunsSpec : ChangeSpec := { name := "compileRuns", fn := fun _ => fun
  | [d1, d2] => { results := [.lit (.bool true)], args := [d1, d2] }
  | _ => none }
def compileRunsRow : OpenClaim := { program := "ytjmmbadpknlmcaa", sum := "ac41058fdeac1e89624c2d047afafc9c5bb3f8581042224e702f81308d9994de", func := "fairlead/fairleadlaw14.CompileRuns", spec := "compileRuns", unfollowed := true, recurses := true, apart := false }
def CompileRunsSaid : Prop := compileRunsRow.holds Try.pinned (OpenSpec.ofChange compileRunsSpec)

/-- ITS FALSE NEIGHBOUR: 'it returns false'. Refute it at one input. -/
def compileRunsWrong : ChangeSpec := { name := "compileRuns", fn := fun _ => fun
  | [d1, d2] => { results := [.lit (.bool false)], args := [d1, d2] }
  | _ => none }
def CompileRunsWrongFalsely : Prop := compileRunsRow.holds Try.pinned (OpenSpec.ofChange compileRunsWrong)

/- THE SECOND FORM. 'bulk': how many values and letters a reading holds, each counted each time it is reached (what is shared counts as often as it is met; a slice's spare places count too). A statement '..UptoSaid' is the law's where the arguments, and the package variables that the reading takes, are together of bulk at most 1048576: NARROWER than '..Said'. Prove '..Said' where nothing that the law and all that it calls make is longer than what came in: it says more and counts as full. Else prove '..UptoSaid'. A law counts once. -/
mutual
def uptoBulk {H : Type} : DataW H → Nat
  | .lit (.string bytes) => bytes.length + 1
  | .lit _ => 1
  | .nil => 1
  | .ptr d => uptoBulk d + 1
  | .slice elems spare => uptoBulkAll elems + uptoBulkAll spare + 1
  | .agg parts => uptoBulkAll parts + 1
  | .iface _ d => uptoBulk d + 1
  | .map entries => uptoBulkEntries entries + 1
  | .held _ => 1
def uptoBulkAll {H : Type} : List (DataW H) → Nat
  | [] => 0
  | d :: r => uptoBulk d + uptoBulkAll r
def uptoBulkEntries {H : Type} : List (Lit × DataW H) → Nat
  | [] => 0
  | x :: r => uptoBulkEntry x + uptoBulkEntries r
def uptoBulkEntry {H : Type} : Lit × DataW H → Nat
  | (.string bytes, d) => bytes.length + uptoBulk d + 1
  | (_, d) => uptoBulk d + 1
 end
def uptoSmall : (H : Type) → List (DataW H) → Bool := fun _ ds => decide (uptoBulkAll ds ≤ 1048576)
def OpenSpec.upto (s : _root_.Go.ChangeSpec) : _root_.Go.OpenSpec := { _root_.Go.OpenSpec.ofChange s with cond := some uptoSmall }

/-- 'fairleadlaw14.CompileErrs', WHERE WHAT IT READS IS OF BULK AT MOST 1048576: true; the input reads as it did. -/
def compileErrsUptoRow : OpenClaim := { program := "ytjmmbadpknlmcaa", sum := "ac41058fdeac1e89624c2d047afafc9c5bb3f8581042224e702f81308d9994de", func := "fairlead/fairleadlaw14.CompileErrs", spec := "compileErrs", unfollowed := true, recurses := true, apart := false, narrowed := true }
def CompileErrsUptoSaid : Prop := compileErrsUptoRow.holds Try.pinned (OpenSpec.upto compileErrsSpec)

/-- 'fairleadlaw14.CompileRight', WHERE WHAT IT READS IS OF BULK AT MOST 1048576: true; the input reads as it did. -/
def compileRightUptoRow : OpenClaim := { program := "ytjmmbadpknlmcaa", sum := "ac41058fdeac1e89624c2d047afafc9c5bb3f8581042224e702f81308d9994de", func := "fairlead/fairleadlaw14.CompileRight", spec := "compileRight", unfollowed := true, recurses := true, apart := false, narrowed := true }
def CompileRightUptoSaid : Prop := compileRightUptoRow.holds Try.pinned (OpenSpec.upto compileRightSpec)

/-- 'fairleadlaw14.CompileSame', WHERE WHAT IT READS IS OF BULK AT MOST 1048576: true; the input reads as it did. -/
def compileSameUptoRow : OpenClaim := { program := "ytjmmbadpknlmcaa", sum := "ac41058fdeac1e89624c2d047afafc9c5bb3f8581042224e702f81308d9994de", func := "fairlead/fairleadlaw14.CompileSame", spec := "compileSame", unfollowed := true, recurses := true, apart := false, narrowed := true }
def CompileSameUptoSaid : Prop := compileSameUptoRow.holds Try.pinned (OpenSpec.upto compileSameSpec)

/-- 'fairleadlaw14.CompileOne', WHERE WHAT IT READS IS OF BULK AT MOST 1048576: true; the input reads as it did. -/
def compileOneUptoRow : OpenClaim := { program := "ytjmmbadpknlmcaa", sum := "ac41058fdeac1e89624c2d047afafc9c5bb3f8581042224e702f81308d9994de", func := "fairlead/fairleadlaw14.CompileOne", spec := "compileOne", unfollowed := true, recurses := true, apart := false, narrowed := true }
def CompileOneUptoSaid : Prop := compileOneUptoRow.holds Try.pinned (OpenSpec.upto compileOneSpec)

/-- 'fairleadlaw14.CompileRuns', WHERE WHAT IT READS IS OF BULK AT MOST 1048576: true; the input reads as it did. -/
def compileRunsUptoRow : OpenClaim := { program := "ytjmmbadpknlmcaa", sum := "ac41058fdeac1e89624c2d047afafc9c5bb3f8581042224e702f81308d9994de", func := "fairlead/fairleadlaw14.CompileRuns", spec := "compileRuns", unfollowed := true, recurses := true, apart := false, narrowed := true }
def CompileRunsUptoSaid : Prop := compileRunsUptoRow.holds Try.pinned (OpenSpec.upto compileRunsSpec)

end Rows
end Go.Proofs.Ytjmmbadpknlmcaa
