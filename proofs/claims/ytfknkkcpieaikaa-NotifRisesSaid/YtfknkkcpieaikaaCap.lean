/- A row of calls is no longer than its room. No conditions. -/
import Derived.Test.YtfknkkcpieaikaaOpen
namespace Go.Proofs.Ytfknkkcpieaikaa
open Go.ChangeShapes Go.WideShapes Go.RowKit Go.ChangeMaps
set_option maxRecDepth 100000

theorem open_cap {H : Type} {enc : TypeId × Value → H} {w : World} {base : Nat} {held : Bool} {r : Reach} {b0 : Nat} {v : Value} {d : DataW H} {p : List MemPlace} (hv : Value.okWide Try.prog w r b0 24 v) (h : DataW.Trod enc Try.prog w base (fun _ => true) held 24 v d p) :
    ∀ A n c, v = .slice A n c → n ≤ c ∧ c ≤ 9223372036854775807 := by
  rintro A n c rfl
  obtain ⟨f, hf⟩ := h
  have hf' : DataW.trod enc Try.prog w base (fun _ => true) held f 24 [.slice A n c] = some (d, p) := hf
  rcases Deep.open_slice under24 hf' with ⟨hcs, _⟩ | ⟨a, len, cap, m, n', D, Pl, hcs, _, hl, hm, hmm, _, hr⟩
  · simp at hcs
    obtain ⟨_, rfl, rfl⟩ := hcs
    exact ⟨Nat.le_refl _, by omega⟩
  · simp at hcs
    obtain ⟨_, rfl, rfl⟩ := hcs
    unfold maxLen at hm
    omega
end Go.Proofs.Ytfknkkcpieaikaa
