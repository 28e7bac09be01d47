/- Two lists of names that come in side by side. No conditions. -/
import Derived.Test.YtomcobmpojpdcaaMem
namespace Go.Proofs.Ytomcobmpojpdcaa
open Go.ChangeShapes Go.WideShapes Go.RowKit Go.ChangeMaps
set_option maxRecDepth 100000
theorem cells53 : Try.prog.cellsOf 53 = 2 := by kernel_rfl
section
variable {H : Type} {enc : TypeId × Value → H} {w : World} {base : Nat} {held : Bool} {r : Reach} {b0 : Nat}
theorem open_pair {v : Value} {d : DataW H} {p : List MemPlace} (hv : Value.okWide Try.prog w r b0 53 v) (h : DataW.Trod enc Try.prog w base (fun _ => true) held 53 v d p) :
    ∃ nv0 nv1 ns0 ns1, v = .agg #[nv0, nv1] ∧ StrsAt w nv0 ns0 ∧ StrsAt w nv1 ns1 := by
  obtain ⟨cs, rfl, hsz⟩ := okWide_arr_val Try.underlying53 hv
  obtain ⟨l⟩ := cs
  rw [cells53] at hsz
  obtain ⟨a, b, rfl⟩ := list2 (l := l) hsz
  obtain ⟨f, hf⟩ := h
  have E := open_array Try.underlying53 (cs := [a, b]) (by simpa [Value.cells] using hf)
  obtain ⟨n0, y0, e0⟩ := E 0 (by omega)
  obtain ⟨n1, y1, e1⟩ := E 1 (by omega)
  have c45 : Try.prog.cellsOf 45 = 1 := cells45
  simp [c45] at e0 e1
  obtain ⟨ns0, h0⟩ := open_strsAt ⟨_, _, e0⟩
  obtain ⟨ns1, h1⟩ := open_strsAt ⟨_, _, e1⟩
  exact ⟨a, b, ns0, ns1, rfl, h0, h1⟩
end
end Go.Proofs.Ytomcobmpojpdcaa
