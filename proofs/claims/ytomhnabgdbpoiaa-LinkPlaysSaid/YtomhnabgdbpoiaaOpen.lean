/- What the arguments of this chapter's laws are: bytes, rows of bytes, bools. No conditions. -/
import Derived.Test.YtomhnabgdbpoiaaSpoils
import Derived.Test.YtomhnabgdbpoiaaBase
import Derived.ChangeSlices
import Derived.Deep.Matrix
import Derived.Deep.Grids
namespace Go.Proofs.Ytomhnabgdbpoiaa
open Go.ChangeShapes Go.WideShapes Go.RowKit

theorem cells5 : Try.prog.cellsOf 5 = 1 := by kernel_rfl
theorem byte_wf {x : Int} (h : (Lit.int .u8 x).wf = true) : 0 ≤ x ∧ x < 256 := by
  simp [Lit.wf, IntKind.min, IntKind.max, IntKind.signed, IntKind.bits] at h
  exact ⟨by omega, by omega⟩

section
variable {H : Type} {enc : TypeId × Value → H} {w : World} {base : Nat} {held : Bool} {r : Reach} {b0 : Nat}
/-- Bytes that came in. -/
def BytesArg (w : World) (v : Value) (bs : List Int) : Prop :=
  ∃ A n c, v = .slice A n c ∧ bs.length = n ∧ n ≤ 9223372036854775807 ∧ Bytes8 bs ∧ (0 < n → ∃ gb o, A = some ⟨gb, o, none⟩ ∧ Lies w gb o n bs)
theorem bytes_of {c : Value} (h : ∃ n x, DataW.trod enc Try.prog w base (fun _ => true) held n 30 [c] = some x) : ∃ bs, BytesArg w c bs := by
  obtain ⟨n, x, h⟩ := h
  rcases open_ints Try.underlying30 Try.underlying5 cells5 h with ⟨hc, _⟩ | ⟨a, len, cap, zs, hc, _, hl, hm, hz, _, hcell, hw⟩
  · simp at hc
    exact ⟨[], none, 0, 0, hc, rfl, by omega, fun x hx => by simp at hx, fun h => by omega⟩
  · simp at hc
    simp only [if_true] at hz
    refine ⟨zs.take len, some a, len, cap, hc, by simp; omega, by unfold maxLen at hm; omega, fun x hx => byte_wf (hw x (List.mem_of_mem_take hx)), fun h0 => ?_⟩
    obtain ⟨b, off, rfl, hcl⟩ := ints_at hcell (by omega)
    refine ⟨b, off, rfl, fun i hi => ?_⟩
    rw [hcl i (by omega), List.getD_eq_getElem?_getD, List.getD_eq_getElem?_getD, List.getElem?_take_of_lt hi]
theorem open_bytes {v : Value} {d : DataW H} {p : List MemPlace} (hv : Value.okWide Try.prog w r b0 30 v) (h : DataW.Trod enc Try.prog w base (fun _ => true) held 30 v d p) : ∃ bs, BytesArg w v bs := by
  obtain ⟨a, len, cap, rfl⟩ := okWide_slice Try.underlying30 hv
  obtain ⟨f, hf⟩ := h
  exact bytes_of ⟨f, _, hf⟩
end

theorem spoils_any (v : Value) (bs : List Int) (bit : Int) (w : World) (h : BytesArg w v bs) : Calls Try.prog 5 #[v, .int .i64 bit] w (Ret (.bool true) w) := by
  obtain ⟨A, n, c, rfl, hl, hm, hb, hc⟩ := h
  by_cases h0 : n = 0 ∨ 1024 < n
  · exact spoils_no A n c bit w h0 hm
  · obtain ⟨gb, o, rfl, hL⟩ := hc (by omega)
    exact spoils_yes gb o n c bs bit w hl (by omega) (by omega) hb hL
end Go.Proofs.Ytomhnabgdbpoiaa
