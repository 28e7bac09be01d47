/- How rows of calls, and two numbers, come in. No conditions. -/
import Derived.Test.YtfknkkcpieaikaaPlay
import Derived.Test.YtfknkkcpieaikaaTop
import Derived.Deep.Grids
import Derived.ChangeSame
import Derived.ChangeMaps5
namespace Go.Proofs.Ytfknkkcpieaikaa
open Go.ChangeShapes Go.WideShapes Go.RowKit Go.ChangeMaps
set_option linter.unusedVariables false
set_option linter.unusedSimpArgs false
set_option maxRecDepth 100000

theorem plain_of' {w : World} {a : Addr} {u : Value} (h : w.cell? a = some u) : ∃ b o, a = ⟨b, o, none⟩ := by
  obtain ⟨b, off, spot⟩ := a
  have hspot : spot = none := by simpa using World.cell?_spot h
  subst hspot
  exact ⟨b, off, rfl⟩
theorem plain_add' {w : World} {a : Addr} {u : Value} (h : w.cell? (a.add 0) = some u) : ∃ b o, a = ⟨b, o, none⟩ := plain_of' (by simpa [Addr.add] using h)
theorem cells3 : Try.prog.cellsOf 3 = 1 := by kernel_rfl
theorem cells23 : Try.prog.cellsOf 23 = 1 := by kernel_rfl
theorem cells35 : Try.prog.cellsOf 35 = 2 := by kernel_rfl
theorem cells41 : Try.prog.cellsOf 41 = 5 := by kernel_rfl
theorem cells22 : Try.prog.cellsOf 22 = 2 := by kernel_rfl
/-- A slice of things, each sz cells wide; Q says what lies at a place. -/
def ListAt {α : Type} (sz : Nat) (Q : World → Nat → Nat → α → Prop) (w : World) (v : Value) (L : List α) : Prop :=
  ∃ A c, v = .slice A L.length c ∧ L.length ≤ 9223372036854775807 ∧ (0 < L.length → ∃ g o, A = some ⟨g, o, none⟩ ∧ ∀ (i : Nat) x, L[i]? = some x → Q w g (o + i * sz) x)
def OpQ (w : World) (g o : Nat) (p : Opn) : Prop := w.cell? ⟨g, o, none⟩ = some (.int .i64 p.d) ∧ w.cell? ⟨g, o + 1, none⟩ = some (.int .i64 p.n) ∧ w.cell? ⟨g, o + 2, none⟩ = some (.int .u64 p.id) ∧ w.cell? ⟨g, o + 3, none⟩ = some (.int .i64 p.k) ∧ w.cell? ⟨g, o + 4, none⟩ = some (.int .i64 p.v) ∧ 0 ≤ p.id ∧ p.id < 18446744073709551616
section
variable {H : Type} {enc : TypeId × Value → H} {w : World} {base : Nat} {held : Bool} {r : Reach} {b0 : Nat}
theorem open_list {α : Type} [Inhabited α] {t e : TypeId} {sz : Nat} (Q : World → Nat → Nat → α → Prop) (ht : Try.prog.underlying t = some (.slice e)) (hc : Try.prog.cellsOf e = sz)
    (each : ∀ (a : Addr) n d, (∃ cs', w.cells? base a sz = some cs' ∧ DataW.trod enc Try.prog w base (fun _ => true) held n e cs' = some d) → ∃ g o, a = ⟨g, o, none⟩ ∧ ∃ x : α, Q w g o x)
    {c : Value} (h : ∃ n x, DataW.trod enc Try.prog w base (fun _ => true) held n t [c] = some x) : ∃ L, ListAt sz Q w c L := by
  obtain ⟨n, x, h⟩ := h
  rcases Deep.open_slice ht h with ⟨hcs, _⟩ | ⟨a, len, cap, m, n, D, Pl, hcs, _, hl, hm, hmm, _, hr⟩
  · simp at hcs
    subst hcs
    exact ⟨[], none, 0, rfl, by simp, fun h => absurd h (by simp)⟩
  · simp at hcs
    subst hcs
    simp only [if_true] at hmm
    subst hmm
    rw [hc] at hr
    have each' : ∀ i, i < m → ∃ x : α, ∃ gl o, a.add (i * sz) = ⟨gl, o, none⟩ ∧ Q w gl o x := fun i hi => by
      obtain ⟨gl, o, h1, x, h2⟩ := each _ _ _ (hr i hi)
      exact ⟨x, gl, o, h1, h2⟩
    obtain ⟨op, hop⟩ := Deep.choose_lt each'
    have hlen : ((List.range len).map op).length = len := by simp
    refine ⟨(List.range len).map op, some a, m, by rw [hlen], by rw [hlen]; unfold maxLen at hm; omega, fun h0 => ?_⟩
    rw [hlen] at h0
    obtain ⟨gl, o, h1, h2⟩ := hop 0 (by omega)
    have : ∃ b o, a = ⟨b, o, none⟩ := by
      rw [Nat.zero_mul] at h1
      exact ⟨gl, o, by simpa [Addr.add] using h1⟩
    obtain ⟨b, o', rfl⟩ := this
    refine ⟨b, o', rfl, fun i x hi => ?_⟩
    rw [List.getElem?_map, Option.map_eq_some_iff] at hi
    obtain ⟨j, hj, rfl⟩ := hi
    have hil : i < len := by
      have := (List.getElem?_eq_some_iff.1 hj).1
      simpa using this
    obtain rfl : j = i := by
      rw [List.getElem?_range hil] at hj
      exact (Option.some.inj hj).symm
    obtain ⟨gl', o2, h3, h4⟩ := hop j (by omega)
    rw [addr_add'] at h3
    injection h3 with e1 e2 _
    subst e1 e2
    exact h4
theorem under24 : Try.prog.underlying 24 = some (.slice 41) := by kernel_rfl
theorem open_ops {v : Value} {d : DataW H} {p : List MemPlace} (hv : Value.okWide Try.prog w r b0 24 v) (h : DataW.Trod enc Try.prog w base (fun _ => true) held 24 v d p) : ∃ L, OpsAt w v L := by
  obtain ⟨a, len, cap, rfl⟩ := okWide_slice under24 hv
  obtain ⟨f, hf⟩ := h
  have hf' : DataW.trod enc Try.prog w base (fun _ => true) held f 24 [.slice a len cap] = some (d, p) := hf
  refine open_list (α := Opn) OpQ under24 cells41 (fun a n d h => ?_) ⟨f, _, hf'⟩
  obtain ⟨cs, hcs, hd⟩ := h
  obtain ⟨_, hlen, hcell⟩ := World.cells?_some hcs
  obtain ⟨xs, k, hk, hxy, _, hxl, hf⟩ := DataW.trod_struct Try.underlying41 hd
  match xs, hxl, cs, hlen with
  | [y0, y1, y2, y3], _, [v0, v1, v2, v3, v4], _ =>
    have g0 := hf 0 _ rfl
    have g1 := hf 1 _ rfl
    have g2 := hf 2 _ rfl
    have g3 := hf 3 _ rfl
    simp [cells3, cells23, cells35] at g0 g1 g2 g3
    obtain ⟨x0, rfl, _⟩ := int_of under3 ⟨_, _, g0⟩
    obtain ⟨x1, rfl, _⟩ := int_of under3 ⟨_, _, g1⟩
    obtain ⟨x2, rfl, w2⟩ := int_of under23 ⟨_, _, g2⟩
    obtain ⟨zs, k2, hk2, _, _, hzl, hz⟩ := DataW.trod_struct Try.underlying35 g3
    match zs, hzl with
    | [z0, z1], _ =>
      have e0 := hz 0 _ rfl
      have e1 := hz 1 _ rfl
      simp [cells3] at e0 e1
      obtain ⟨x3, rfl, _⟩ := int_of under3 ⟨_, _, e0⟩
      obtain ⟨x4, rfl, _⟩ := int_of under3 ⟨_, _, e1⟩
      have c0 := hcell 0 (by omega)
      have c1 := hcell 1 (by omega)
      have c2 := hcell 2 (by omega)
      have c3 := hcell 3 (by omega)
      have c4 := hcell 4 (by omega)
      obtain ⟨b, o, rfl⟩ := plain_add' c0
      rw [addr_add'] at c0 c1 c2 c3 c4
      have hb := bounds_u64 w2
      exact ⟨b, o, rfl, ⟨x0, x1, x2, x3, x4⟩, c0, c1, c2, c3, c4, hb.1, (by have h9 := hb.2; show x2 < 18446744073709551616; omega)⟩
theorem open_two {v : Value} {d : DataW H} {p : List MemPlace} (hv : Value.okWide Try.prog w r b0 22 v) (h : DataW.Trod enc Try.prog w base (fun _ => true) held 22 v d p) : ∃ s t, v = .agg #[.int .i64 s, .int .i64 t] := by
  obtain ⟨cs, rfl, hsz⟩ := okWide_arr_val Try.underlying22 hv
  rw [cells22] at hsz
  obtain ⟨f, hf⟩ := h
  have hf' : DataW.trod enc Try.prog w base (fun _ => true) held f 22 cs.toList = some (d, p) := by simpa [Value.cells] using hf
  obtain ⟨a, b, hab⟩ := list2 (l := cs.toList) (by simpa using hsz)
  rw [hab] at hf'
  have g0 := open_array Try.underlying22 hf' 0 (by omega)
  have g1 := open_array Try.underlying22 hf' 1 (by omega)
  simp [cells3] at g0 g1
  obtain ⟨n0, y0, z0, g0⟩ := g0
  obtain ⟨n1, y1, z1, g1⟩ := g1
  obtain ⟨s, rfl, _⟩ := int_of under3 ⟨n0, (y0, z0), g0⟩
  obtain ⟨t, rfl, _⟩ := int_of under3 ⟨n1, (y1, z1), g1⟩
  refine ⟨s, t, ?_⟩
  congr 1
  apply Array.toList_inj.1
  rw [hab]
end
end Go.Proofs.Ytfknkkcpieaikaa
