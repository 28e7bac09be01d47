/- Lines: what they are; which one is the first. No conditions. -/
import Derived.Test.YtcmogmplfigikaaLaw2
import Derived.Deep.Grids
import Derived.ChangeSame
import Derived.ChangeMaps5
namespace Go.Proofs.Ytcmogmplfigikaa
open Go.ChangeShapes Go.WideShapes Go.RowKit Go.ChangeMaps
attribute [local go_sem ↓] Go.wp_at_zero Go.wp_at_succ
set_option linter.unusedVariables false
set_option linter.unusedSimpArgs false

theorem addr_add' (b o j : Nat) : (⟨b, o, none⟩ : Addr).add j = ⟨b, o + j, none⟩ := by
  unfold Addr.add
  split
  · rename_i h
    have h : j = 0 := by simpa using h
    subst h
    rfl
  · rfl
theorem plain_of' {w : World} {a : Addr} {u : Value} (h : w.cell? a = some u) : ∃ b o, a = ⟨b, o, none⟩ := by
  obtain ⟨b, off, spot⟩ := a
  have hspot : spot = none := by simpa using World.cell?_spot h
  subst hspot
  exact ⟨b, off, rfl⟩
theorem plain_add' {w : World} {a : Addr} {u : Value} (h : w.cell? (a.add 0) = some u) : ∃ b o, a = ⟨b, o, none⟩ := plain_of' (by simpa [Addr.add] using h)
theorem cells32 : Try.prog.cellsOf 32 = 2 := by kernel_rfl
theorem cells9 : Try.prog.cellsOf 9 = 1 := by kernel_rfl
theorem cells4 : Try.prog.cellsOf 4 = 1 := by kernel_rfl

/-- Lines, as the world holds them. -/
def LinesAt (w : World) (v : Value) (L : List (ByteArray × Bool)) : Prop :=
  ∃ A c, v = .slice A L.length c ∧ L.length ≤ 9223372036854775807 ∧ (0 < L.length → ∃ gl o, A = some ⟨gl, o, none⟩ ∧ ∀ (i : Nat) x, L[i]? = some x → w.cell? ⟨gl, o + i * 2, none⟩ = some (.string x.1) ∧ w.cell? ⟨gl, o + i * 2 + 1, none⟩ = some (.bool x.2)) ∧
    ∀ x ∈ L, x.1.size ≤ 9223372036854775807
theorem LinesAt.below {w w1 : World} {v : Value} {L : List (ByteArray × Bool)} (h : LinesAt w v L) (hb : Below w.heap.size w w1) : LinesAt w1 v L := by
  obtain ⟨A, c, h1, h2, h3, h4⟩ := h
  refine ⟨A, c, h1, h2, fun h0 => ?_, h4⟩
  obtain ⟨gl, o, h5, h6⟩ := h3 h0
  exact ⟨gl, o, h5, fun i x hx => ⟨keep_cell hb (h6 i x hx).1, keep_cell hb (h6 i x hx).2⟩⟩

section
variable {H : Type} {enc : TypeId × Value → H} {w : World} {base : Nat} {held : Bool} {r : Reach} {b0 : Nat}
theorem open_line {a : Addr} {n : Nat} {d : DataW H × List MemPlace} (h : ∃ cs', w.cells? base a 2 = some cs' ∧ DataW.trod enc Try.prog w base (fun _ => true) held n 32 cs' = some d) :
    ∃ gl o, ∃ x : ByteArray × Bool, a = ⟨gl, o, none⟩ ∧ w.cell? ⟨gl, o, none⟩ = some (.string x.1) ∧ w.cell? ⟨gl, o + 1, none⟩ = some (.bool x.2) ∧ x.1.size ≤ 9223372036854775807 := by
  obtain ⟨cs, hcs, hd⟩ := h
  obtain ⟨_, hlen, hcell⟩ := World.cells?_some hcs
  obtain ⟨xs, k, hk, hxy, _, hxl, hf⟩ := DataW.trod_struct Try.underlying32 hd
  match xs, hxl, cs, hlen with
  | [y0, y1], _, [v0, v1], _ =>
    have g0 := hf 0 _ rfl
    have g1 := hf 1 _ rfl
    simp [cells9, cells4] at g0 g1
    obtain ⟨x0, e0, _, w0⟩ := DataW.trod_string Try.underlying9 g0
    obtain ⟨x1, e1, _⟩ := DataW.trod_bool Try.underlying4 g1
    simp at e0 e1
    subst e0 e1
    have c0 := hcell 0 (by omega)
    have c1 := hcell 1 (by omega)
    obtain ⟨b, o, rfl⟩ := plain_add' c0
    rw [addr_add'] at c0 c1
    exact ⟨b, o, (x0, x1), rfl, c0, c1, by unfold maxLen at w0; omega⟩
theorem open_lines {v : Value} {d : DataW H} {p : List MemPlace} (hv : Value.okWide Try.prog w r b0 30 v) (h : DataW.Trod enc Try.prog w base (fun _ => true) held 30 v d p) : ∃ L, LinesAt w v L := by
  obtain ⟨a, len, cap, rfl⟩ := okWide_slice Try.underlying30 hv
  obtain ⟨f, hf⟩ := h
  have hf' : DataW.trod enc Try.prog w base (fun _ => true) held f 30 [.slice a len cap] = some (d, p) := hf
  rcases Deep.open_slice Try.underlying30 hf' with ⟨hc, _⟩ | ⟨a, len, cap, m, n, D, Pl, hc, _, hl, hm, hmm, _, hr⟩
  · simp at hc
    obtain ⟨rfl, rfl, rfl⟩ := hc
    exact ⟨[], none, 0, rfl, by simp, fun h => absurd h (by simp), fun x hx => by cases hx⟩
  · simp at hc
    obtain ⟨rfl, rfl, rfl⟩ := hc
    simp only [if_true] at hmm
    subst hmm
    rw [cells32] at hr
    have each : ∀ i, i < m → ∃ x : ByteArray × Bool, ∃ gl o, a.add (i * 2) = ⟨gl, o, none⟩ ∧ w.cell? ⟨gl, o, none⟩ = some (.string x.1) ∧ w.cell? ⟨gl, o + 1, none⟩ = some (.bool x.2) ∧ x.1.size ≤ 9223372036854775807 := fun i hi => by
      obtain ⟨gl, o, x, h⟩ := open_line (hr i hi)
      exact ⟨x, gl, o, h⟩
    obtain ⟨op, hop⟩ := Deep.choose_lt each
    have hlen : ((List.range len).map op).length = len := by simp
    refine ⟨(List.range len).map op, some a, m, by rw [hlen], by rw [hlen]; unfold maxLen at hm; omega, fun h0 => ?_, fun x hx => ?_⟩
    · rw [hlen] at h0
      obtain ⟨gl, o, h1, h2, _⟩ := hop 0 (by omega)
      have : ∃ b o, a = ⟨b, o, none⟩ := plain_add' (w := w) (u := .string (op 0).1) (by rw [← h1] at h2; simpa using h2)
      obtain ⟨b, o', rfl⟩ := this
      refine ⟨b, o', rfl, fun i x hi => ?_⟩
      rw [List.getElem?_map, Option.map_eq_some_iff] at hi
      obtain ⟨j, hj, rfl⟩ := hi
      have hil : i < len := by
        have := (List.getElem?_eq_some_iff.1 hj).1
        simpa using this
      obtain rfl : j = i := by
        rw [List.getElem?_range hil] at hj
        exact (Option.some.inj hj).symm
      obtain ⟨gl', o2, h3, h4, h5, _⟩ := hop j (by omega)
      rw [addr_add'] at h3
      injection h3 with e1 e2 _
      subst e1 e2
      exact ⟨h4, h5⟩
    · obtain ⟨j, hj, rfl⟩ := List.mem_map.1 hx
      obtain ⟨_, _, _, _, _, h⟩ := hop j (by have := List.mem_range.1 hj; omega)
      exact h
end

/-- The first line that a path is like. -/
def firstL : List (ByteArray × Bool) → List UInt8 → Nat → Int × Bool
  | [], p, k => (-1, false)
  | x :: L, p, k => if globB x.1.data.toList p then ((k : Int), x.2) else firstL L p (k + 1)
theorem firstL_at {L : List (ByteArray × Bool)} {p : List UInt8} {k : Nat} {x : ByteArray × Bool} (h : L[k]? = some x) (j : Nat) : firstL (L.drop k) p j = if globB x.1.data.toList p then ((j : Int), x.2) else firstL (L.drop (k + 1)) p (j + 1) := by
  have hl := (List.getElem?_eq_some_iff.1 h).1
  rw [List.drop_eq_getElem_cons hl, (List.getElem?_eq_some_iff.1 h).2]
  rfl
end Go.Proofs.Ytcmogmplfigikaa
