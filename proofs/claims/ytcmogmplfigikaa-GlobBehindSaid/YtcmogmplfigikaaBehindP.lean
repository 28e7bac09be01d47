/- Lines behind lines: what the row holds, and which one is the first. No conditions. -/
import Derived.Test.YtcmogmplfigikaaFirst
namespace Go.Proofs.Ytcmogmplfigikaa
open Go.RowKit
set_option linter.unusedVariables false
set_option linter.unusedSimpArgs false

def rowLines (L : List (ByteArray × Bool)) : List Value := L.flatMap fun x => [.string x.1, .bool x.2]
theorem rowLines_cons (x : ByteArray × Bool) (L : List (ByteArray × Bool)) : rowLines (x :: L) = .string x.1 :: .bool x.2 :: rowLines L := rfl
theorem rowLines_len : ∀ (L : List (ByteArray × Bool)), (rowLines L).length = L.length * 2
  | [] => rfl
  | x :: L => by rw [rowLines_cons]; simp [rowLines_len L]; omega
theorem rowLines_append (L M : List (ByteArray × Bool)) : rowLines (L ++ M) = rowLines L ++ rowLines M := by simp [rowLines]
theorem rowLines_one : ∀ {L : List (ByteArray × Bool)}, ∀ u ∈ rowLines L, u.oneCell' = true
  | [], u, h => by cases h
  | x :: L, u, h => by
    rw [rowLines_cons] at h
    rcases List.mem_cons.1 h with rfl | h
    · rfl
    · rcases List.mem_cons.1 h with rfl | h
      · rfl
      · exact rowLines_one u h
theorem rowLines_get : ∀ {L : List (ByteArray × Bool)} {i : Nat} {x : ByteArray × Bool}, L[i]? = some x → (rowLines L)[i * 2]? = some (.string x.1) ∧ (rowLines L)[i * 2 + 1]? = some (.bool x.2)
  | [], i, x, h => by simp at h
  | y :: L, 0, x, h => by
    simp at h; subst h
    exact ⟨rfl, rfl⟩
  | y :: L, i + 1, x, h => by
    simp only [List.getElem?_cons_succ] at h
    have := rowLines_get h
    rw [rowLines_cons, show (i + 1) * 2 = i * 2 + 1 + 1 by omega]
    exact this
theorem rowLines_cell {w : World} {gl o : Nat} : ∀ {L : List (ByteArray × Bool)}, (∀ (i : Nat) x, L[i]? = some x → w.cell? ⟨gl, o + i * 2, none⟩ = some (.string x.1) ∧ w.cell? ⟨gl, o + i * 2 + 1, none⟩ = some (.bool x.2)) →
    ∀ (j : Nat) u, (rowLines L)[j]? = some u → w.cell? ((⟨gl, o, none⟩ : Addr).add j) = some u := fun {L} h j u hu => by
  rw [addr_add']
  have hj : j < L.length * 2 := by rw [← rowLines_len]; exact (List.getElem?_eq_some_iff.1 hu).1
  have hi : j / 2 < L.length := by omega
  obtain ⟨x, hx⟩ : ∃ x, L[j / 2]? = some x := ⟨_, List.getElem?_eq_getElem hi⟩
  have hc := h _ x hx
  have hg := rowLines_get hx
  rcases Nat.mod_two_eq_zero_or_one j with h2 | h2
  · have e : j = j / 2 * 2 := by omega
    rw [e] at hu ⊢
    rw [hg.1] at hu
    rw [← Option.some.inj hu]
    exact hc.1
  · have e : j = j / 2 * 2 + 1 := by omega
    rw [e] at hu ⊢
    rw [hg.2] at hu
    rw [← Option.some.inj hu]
    exact hc.2
theorem lines_of_row {w : World} {base : Nat} {v : Value} {L : List (ByteArray × Bool)} (h : w.ownsRow base 32 2 v L.length (rowLines L)) (hs : ∀ x ∈ L, x.1.size ≤ 9223372036854775807) : LinesAt w v L := by
  obtain ⟨hl, ⟨rfl, h0⟩ | ⟨g, cap, cur, rfl, hg, hh, hn, hcap, hsz, htake⟩⟩ := h
  · exact ⟨none, 0, by rw [h0], by omega, fun h => by omega, hs⟩
  · refine ⟨_, cap, rfl, by unfold maxLen at hcap; omega, fun _ => ⟨g, 0, rfl, fun i x hx => ?_⟩, hs⟩
    have hi : i < L.length := (List.getElem?_eq_some_iff.1 hx).1
    obtain ⟨h1, h2⟩ := rowLines_get hx
    rw [← htake, List.getElem?_take, if_pos (by omega)] at h1 h2
    constructor
    · simp [World.cell?, hh]; simpa using h1
    · simp [World.cell?, hh]; simpa using h2
theorem own_some {w : World} {base : Nat} {e : TypeId} {size n : Nat} {v : Value} {xs : List Value} (h : w.ownsRow base e size v n xs) (hn : 0 < n) : ∃ g cap, v = .slice (some ⟨g, 0, none⟩) n cap := by
  rcases h.2 with ⟨_, h0⟩ | ⟨g, cap, _, rfl, _⟩
  · omega
  · exact ⟨g, cap, rfl⟩
theorem own_some' {w : World} {base : Nat} {e : TypeId} {size n : Nat} {v : Value} {xs : List Value} (h : w.ownsRow base e size v n xs) (hn : ¬ v = .slice none 0 0) : ∃ g cap, v = .slice (some ⟨g, 0, none⟩) n cap := by
  rcases h.2 with ⟨h0, _⟩ | ⟨g, cap, _, rfl, _⟩
  · exact absurd h0 hn
  · exact ⟨g, cap, rfl⟩
/-- nil, or written out. -/
def Nilly (v : Value) : Prop := v = .slice none 0 0 ∨ ∃ a n c, v = .slice (some a) n c
section
open Go.ChangeShapes Go.WideShapes Go.ChangeMaps
variable {H : Type} {enc : TypeId × Value → H} {w : World} {base : Nat} {held : Bool} {r : Reach} {b0 : Nat}
theorem open_lines2 {v : Value} {d : DataW H} {p : List MemPlace} (hv : Value.okWide Try.prog w r b0 30 v) (h : DataW.Trod enc Try.prog w base (fun _ => true) held 30 v d p) : ∃ L, LinesAt w v L ∧ Nilly v := by
  obtain ⟨L, hL⟩ := open_lines hv h
  refine ⟨L, hL, ?_⟩
  obtain ⟨a, len, cap, rfl⟩ := okWide_slice Try.underlying30 hv
  obtain ⟨f, hf⟩ := h
  have hf' : DataW.trod enc Try.prog w base (fun _ => true) held f 30 [.slice a len cap] = some (d, p) := hf
  rcases Deep.open_slice Try.underlying30 hf' with ⟨hc, _⟩ | ⟨a, len, cap, m, n, D, Pl, hc, _⟩
  · exact .inl (by simpa using hc)
  · exact .inr ⟨_, _, _, by simpa using hc⟩
end
/-- What the row's cells hold, wherever it lies. -/
theorem lines_cells {w : World} {ad : Addr} {L : List (ByteArray × Bool)} (h : 0 < L.length → ∃ gl o, some ad = some ⟨gl, o, none⟩ ∧ ∀ (i : Nat) x, L[i]? = some x → w.cell? ⟨gl, o + i * 2, none⟩ = some (.string x.1) ∧ w.cell? ⟨gl, o + i * 2 + 1, none⟩ = some (.bool x.2)) :
    ∀ W, Below w.heap.size w W → ∀ (j : Nat) u, (rowLines L)[j]? = some u → W.cell? (ad.add j) = some u := by
  intro W hb j u hu
  have hl : 0 < L.length := by
    have := (List.getElem?_eq_some_iff.1 hu).1
    rw [rowLines_len] at this
    omega
  obtain ⟨gl, o, he, hc⟩ := h hl
  cases he
  exact rowLines_cell (fun i x hx => ⟨keep_cell hb (hc i x hx).1, keep_cell hb (hc i x hx).2⟩) j u hu
theorem info32 : (Try.prog.info? 32).map (fun i => (i.zero, i.size, i.bytes)) = some (some (.agg #[.string ⟨#[]⟩, .bool false]), 2, 24) := by kernel_rfl

theorem firstL_yes {x : ByteArray × Bool} {p : List UInt8} (h : globB x.1.data.toList p = true) (L : List (ByteArray × Bool)) (j : Nat) : firstL (x :: L) p j = ((j : Int), x.2) := by
  show (if globB x.1.data.toList p then ((j : Int), x.2) else firstL L p (j + 1)) = _
  rw [if_pos h]
theorem firstL_no {x : ByteArray × Bool} {p : List UInt8} (h : ¬ globB x.1.data.toList p = true) (L : List (ByteArray × Bool)) (j : Nat) : firstL (x :: L) p j = firstL L p (j + 1) := by
  show (if globB x.1.data.toList p then ((j : Int), x.2) else firstL L p (j + 1)) = _
  rw [if_neg h]
theorem firstL_shift : ∀ (M : List (ByteArray × Bool)) (p : List UInt8) (k j : Nat), firstL M p (k + j) = if (firstL M p j).1 < 0 then (-1, false) else ((k : Int) + (firstL M p j).1, (firstL M p j).2)
  | [], p, k, j => rfl
  | x :: M, p, k, j => by
    by_cases hg : globB x.1.data.toList p = true
    · rw [firstL_yes hg, firstL_yes hg, if_neg (by simp only; omega)]
      rw [show ((k + j : Nat) : Int) = (k : Int) + (j : Int) by omega]
    · rw [firstL_no hg, firstL_no hg, show k + j + 1 = k + (j + 1) by omega, firstL_shift M p k (j + 1)]
theorem firstL_none : ∀ (L : List (ByteArray × Bool)) (p : List UInt8) (j : Nat), (firstL L p j).1 < 0 → firstL L p j = (-1, false) ∧ ∀ M, firstL (L ++ M) p j = firstL M p (L.length + j)
  | [], p, j, h => ⟨rfl, fun M => by simp⟩
  | x :: L, p, j, h => by
    by_cases hg : globB x.1.data.toList p = true
    · rw [firstL_yes hg] at h; simp only at h; omega
    · rw [firstL_no hg] at h ⊢
      obtain ⟨h1, h2⟩ := firstL_none L p (j + 1) h
      refine ⟨h1, fun M => ?_⟩
      rw [List.cons_append, firstL_no hg, h2 M, List.length_cons, show L.length + (j + 1) = L.length + 1 + j by omega]
theorem firstL_some : ∀ (L : List (ByteArray × Bool)) (p : List UInt8) (j : Nat), ¬ (firstL L p j).1 < 0 → (∀ M, firstL (L ++ M) p j = firstL L p j) ∧ ∃ (i : Nat) (x : ByteArray × Bool), (firstL L p j).1 = ((i + j : Nat) : Int) ∧ L[i]? = some x ∧ globB x.1.data.toList p = true
  | [], p, j, h => by exfalso; apply h; show (-1 : Int) < 0; decide
  | x :: L, p, j, h => by
    by_cases hg : globB x.1.data.toList p = true
    · refine ⟨fun M => ?_, 0, x, ?_, rfl, hg⟩
      · rw [List.cons_append, firstL_yes hg, firstL_yes hg]
      · rw [firstL_yes hg]; simp
    · rw [firstL_no hg] at h
      obtain ⟨h1, i, y, h2, h3, h4⟩ := firstL_some L p (j + 1) h
      refine ⟨fun M => ?_, i + 1, y, ?_, h3, h4⟩
      · rw [List.cons_append, firstL_no hg, firstL_no hg]; exact h1 M
      · rw [firstL_no hg, h2]; congr 1; omega
end Go.Proofs.Ytcmogmplfigikaa
