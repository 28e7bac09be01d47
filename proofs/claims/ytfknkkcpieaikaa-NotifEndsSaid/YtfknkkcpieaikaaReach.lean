/- A row of calls takes no more than the form's reach. No conditions. -/
import Derived.Test.YtfknkkcpieaikaaOpen
import Derived.SizedLaws
namespace Go.Proofs.Ytfknkkcpieaikaa
open Go.ChangeShapes Go.WideShapes Go.RowKit Go.ChangeMaps
set_option maxRecDepth 100000

theorem bytes41 : Try.prog.bytesOf 41 = 40 := by kernel_rfl
theorem open_reach {H : Type} {enc : TypeId × Value → H} {w : World} {base : Nat} {held : Bool} {v : Value} {d : DataW H} {p : List MemPlace} {ts : List TypeId} {ds : List (DataW H)} (hsz : (DataW.weightsEach Try.prog ts ds).all (· ≤ reachBytes) = true) {j : Nat} (ht : ts[j]? = some 24) (hd : ds[j]? = some d) (h : DataW.Trod enc Try.prog w base (fun _ => true) held 24 v d p) :
    ∀ A n c, v = .slice A n c → n ≤ c ∧ c * 40 ≤ 140737488351232 := by
  rintro A n c rfl
  obtain ⟨f, hf⟩ := h
  have hf' : DataW.trod enc Try.prog w base (fun _ => true) held f 24 [.slice A n c] = some (d, p) := hf
  rcases Deep.open_slice under24 hf' with ⟨hcs, _⟩ | ⟨a, len, cap, m, n', D, Pl, hcs, _, hl, hm, hmm, hx, hr⟩
  · simp at hcs
    obtain ⟨_, rfl, rfl⟩ := hcs
    exact ⟨Nat.le_refl _, by omega⟩
  · simp at hcs
    obtain ⟨_, rfl, rfl⟩ := hcs
    simp only [if_true] at hmm
    subst hmm
    injection hx with hx _
    subst hx
    have := sized_slice hsz ht hd under24
    rw [bytes41] at this
    simp only [List.length_map, List.length_range, reachBytes] at this
    omega
end Go.Proofs.Ytfknkkcpieaikaa
