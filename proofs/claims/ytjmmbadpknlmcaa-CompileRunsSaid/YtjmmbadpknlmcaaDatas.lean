/- A list of calls, as it comes in. No conditions. -/
import Derived.Test.YtjmmbadpknlmcaaOpen
namespace Go.Proofs.Ytjmmbadpknlmcaa
open Go.ChangeShapes Go.WideShapes Go.RowKit Go.ChangeMaps
set_option linter.unusedVariables false
set_option maxRecDepth 100000
theorem open_dataL {H : Type} {enc : TypeId × Value → H} {w : World} {base : Nat} {held : Bool} {r : Reach} {b0 : Nat} {v : Value} {d : DataW H} {p : List MemPlace} (hv : Value.okWide Try.prog w r b0 53 v) (h : DataW.Trod enc Try.prog w base (fun _ => true) held 53 v d p) : ∃ L : List Dat, ListAt 9 DatQ w v L ∧ ∀ x ∈ L, WfD x := by
  obtain ⟨a, len, cap, rfl⟩ := okWide_slice Try.underlying53 hv
  obtain ⟨f, hf⟩ := h
  have hf' : DataW.trod enc Try.prog w base (fun _ => true) held f 53 [.slice a len cap] = some (d, p) := by simpa [Value.cells] using hf
  exact open_datas ⟨_, _, hf'⟩
end Go.Proofs.Ytjmmbadpknlmcaa
