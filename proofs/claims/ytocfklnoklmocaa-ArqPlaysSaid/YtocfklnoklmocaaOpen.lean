/- How rows of numbers and of calls come in. No conditions. -/
import Derived.Test.YtocfklnoklmocaaSrc
import Derived.Test.YtocfklnoklmocaaTop
import Derived.Deep.Grids
import Derived.ChangeSame
import Derived.ChangeMaps5
namespace Go.Proofs.Ytocfklnoklmocaa
open Go.ChangeShapes Go.WideShapes Go.RowKit Go.ChangeMaps
set_option linter.unusedVariables false
set_option linter.unusedSimpArgs false
set_option maxRecDepth 100000

theorem plain_of' {w : World} {a : Addr} {u : Value} (h : w.cell? a = some u) : ∃ b o, a = ⟨b, o, none⟩ := by
  obtain ⟨b, off, spot⟩ := a
  have hspot : spot = none := by simpa using World.cell?_spot h
  subst hspot
  exact ⟨b, off, rfl⟩
theorem plain_add' {w : World} {a : Addr} {u : Value} (h : w.cell? (a.add 0) = some u) : ∃ b o, a = ⟨b, o, none⟩ := plain_of' (by simpa [Addr.add] using h)
theorem cells3 : Try.prog.cellsOf 3 = 1 := by kernel_rfl
theorem cells27 : Try.prog.cellsOf 27 = 1 := by kernel_rfl
theorem cells41 : Try.prog.cellsOf 41 = 2 := by kernel_rfl
/-- A slice of things, each sz cells wide; Q says what lies at a place. -/
def ListAt {α : Type} (sz : Nat) (Q : World → Nat → Nat → α → Prop) (w : World) (v : Value) (L : List α) : Prop :=
  ∃ A c, v = .slice A L.length c ∧ L.length ≤ 9223372036854775807 ∧ (0 < L.length → ∃ g o, A = some ⟨g, o, none⟩ ∧ ∀ (i : Nat) x, L[i]? = some x → Q w g (o + i * sz) x)
def NumQ (w : World) (g o : Nat) (x : Int) : Prop := w.cell? ⟨g, o, none⟩ = some (.int .u64 x) ∧ U64 x
structure Opn where
  d : Int
  x : Int
  deriving Inhabited
def OpQ (w : World) (g o : Nat) (p : Opn) : Prop := w.cell? ⟨g, o, none⟩ = some (.int .i64 p.d) ∧ w.cell? ⟨g, o + 1, none⟩ = some (.int .u64 p.x) ∧ U64 p.x
abbrev OpsAt := ListAt 2 OpQ
theorem ops_below {w w1 : World} {v : Value} {L : List Opn} (hb : Below w.heap.size w w1) (h : OpsAt w v L) : OpsAt w1 v L := by
  obtain ⟨A, c, h1, h2, h3⟩ := h
  refine ⟨A, c, h1, h2, fun h0 => ?_⟩
  obtain ⟨g, o, h5, h6⟩ := h3 h0
  exact ⟨g, o, h5, fun i x hx => ⟨keep_cell hb (h6 i x hx).1, keep_cell hb (h6 i x hx).2.1, (h6 i x hx).2.2⟩⟩
section
variable {H : Type} {enc : TypeId × Value → H} {w : World} {base : Nat} {held : Bool} {r : Reach} {b0 : Nat}
theorem open_list {α : Type} [Inhabited α] {t e : TypeId} {sz : Nat} (Q : World → Nat → Nat → α → Prop) (ht : Try.prog.underlying t = some (.slice e)) (hc : Try.prog.cellsOf e = sz)
    (each : ∀ (a : Addr) n d, (∃ cs', w.cells? base a sz = some cs' ∧ DataW.trod enc Try.prog w base (fun _ => true) held n e cs' = some d) → ∃ g o, a = ⟨g, o, none⟩ ∧ ∃ x : α, Q w g o x)
    {c : Value} (h : ∃ n x, DataW.trod enc Try.prog w base (fun _ => true) held n t [c] = some x) : ∃ L, ListAt sz Q w c L := by
  obtain ⟨n, x, h⟩ := h
  rcases Deep.open_slice ht h with ⟨hcs, _⟩ | ⟨a, len, cap, m, n, D, Pl, hcs, _, hl, hm, hmm, _, hr⟩
  · simp at hcs
    subst hcs
    exact ⟨[], none, 0, rfl, by simp, fun h => absurd h (by simp)⟩
  · simp at hcs
    subst hcs
    simp only [if_true] at hmm
    subst hmm
    rw [hc] at hr
    have each' : ∀ i, i < m → ∃ x : α, ∃ gl o, a.add (i * sz) = ⟨gl, o, none⟩ ∧ Q w gl o x := fun i hi => by
      obtain ⟨gl, o, h1, x, h2⟩ := each _ _ _ (hr i hi)
      exact ⟨x, gl, o, h1, h2⟩
    obtain ⟨op, hop⟩ := Deep.choose_lt each'
    have hlen : ((List.range len).map op).length = len := by simp
    refine ⟨(List.range len).map op, some a, m, by rw [hlen], by rw [hlen]; unfold maxLen at hm; omega, fun h0 => ?_⟩
    rw [hlen] at h0
    obtain ⟨gl, o, h1, h2⟩ := hop 0 (by omega)
    have : ∃ b o, a = ⟨b, o, none⟩ := by
      rw [Nat.zero_mul] at h1
      exact ⟨gl, o, by simpa [Addr.add] using h1⟩
    obtain ⟨b, o', rfl⟩ := this
    refine ⟨b, o', rfl, fun i x hi => ?_⟩
    rw [List.getElem?_map, Option.map_eq_some_iff] at hi
    obtain ⟨j, hj, rfl⟩ := hi
    have hil : i < len := by
      have := (List.getElem?_eq_some_iff.1 hj).1
      simpa using this
    obtain rfl : j = i := by
      rw [List.getElem?_range hil] at hj
      exact (Option.some.inj hj).symm
    obtain ⟨gl', o2, h3, h4⟩ := hop j (by omega)
    rw [addr_add'] at h3
    injection h3 with e1 e2 _
    subst e1 e2
    exact h4
theorem open_nums {v : Value} {d : DataW H} {p : List MemPlace} (hv : Value.okWide Try.prog w r b0 22 v) (h : DataW.Trod enc Try.prog w base (fun _ => true) held 22 v d p) : ∃ L, NumsAt w v L ∧ ∀ x ∈ L, U64 x := by
  obtain ⟨a, len, cap, rfl⟩ := okWide_slice under22 hv
  obtain ⟨f, hf⟩ := h
  have hf' : DataW.trod enc Try.prog w base (fun _ => true) held f 22 [.slice a len cap] = some (d, p) := hf
  obtain ⟨L, A, c, h1, h2, h3⟩ := open_list (α := Int) NumQ under22 cells27 (fun a n d h => by
    obtain ⟨cs, hcs, hd⟩ := h
    obtain ⟨_, hlen, hcell⟩ := World.cells?_some hcs
    match cs, hlen with
    | [v0], _ =>
      obtain ⟨x0, rfl, w0⟩ := int_of under27 ⟨_, _, hd⟩
      have c0 := hcell 0 (by omega)
      obtain ⟨b, o, rfl⟩ := plain_add' c0
      rw [addr_add'] at c0
      exact ⟨b, o, rfl, x0, c0, w0⟩) ⟨f, _, hf'⟩
  refine ⟨L, ⟨A, c, h1, fun h0 => ?_⟩, fun x hx => ?_⟩
  · obtain ⟨g, o, rfl, hc⟩ := h3 h0
    exact ⟨g, o, rfl, fun j x hx => by have := (hc j x hx).1; rwa [Nat.mul_one] at this⟩
  · obtain ⟨j, hj⟩ := List.getElem?_of_mem hx
    obtain ⟨g, o, rfl, hc⟩ := h3 (by have := (List.getElem?_eq_some_iff.1 hj).1; omega)
    exact (hc j x hj).2
theorem under32 : Try.prog.underlying 32 = some (.slice 41) := by kernel_rfl
theorem open_ops {v : Value} {d : DataW H} {p : List MemPlace} (hv : Value.okWide Try.prog w r b0 32 v) (h : DataW.Trod enc Try.prog w base (fun _ => true) held 32 v d p) : ∃ L, OpsAt w v L := by
  obtain ⟨a, len, cap, rfl⟩ := okWide_slice under32 hv
  obtain ⟨f, hf⟩ := h
  have hf' : DataW.trod enc Try.prog w base (fun _ => true) held f 32 [.slice a len cap] = some (d, p) := hf
  refine open_list (α := Opn) OpQ under32 cells41 (fun a n d h => ?_) ⟨f, _, hf'⟩
  obtain ⟨cs, hcs, hd⟩ := h
  obtain ⟨_, hlen, hcell⟩ := World.cells?_some hcs
  obtain ⟨xs, k, hk, hxy, _, hxl, hf⟩ := DataW.trod_struct Try.underlying41 hd
  match xs, hxl, cs, hlen with
  | [y0, y1], _, [v0, v1], _ =>
    have g0 := hf 0 _ rfl
    have g1 := hf 1 _ rfl
    simp [cells3, cells27] at g0 g1
    obtain ⟨x0, rfl, _⟩ := int_of under3 ⟨_, _, g0⟩
    obtain ⟨x1, rfl, w1⟩ := int_of under27 ⟨_, _, g1⟩
    have c0 := hcell 0 (by omega)
    have c1 := hcell 1 (by omega)
    obtain ⟨b, o, rfl⟩ := plain_add' c0
    rw [addr_add'] at c0 c1
    exact ⟨b, o, rfl, ⟨x0, x1⟩, c0, c1, w1⟩
end
end Go.Proofs.Ytocfklnoklmocaa
