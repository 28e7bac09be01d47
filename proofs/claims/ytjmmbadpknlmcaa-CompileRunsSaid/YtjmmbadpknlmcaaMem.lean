/- Rules, as the world holds them; how they come in. No conditions. -/
import Derived.Test.YtjmmbadpknlmcaaNames
import Derived.Test.YtjmmbadpknlmcaaTop
import Derived.Deep.Grids
import Derived.ChangeSame
import Derived.ChangeMaps5
namespace Go.Proofs.Ytjmmbadpknlmcaa
open Go.ChangeShapes Go.WideShapes Go.RowKit Go.ChangeMaps
set_option linter.unusedVariables false
set_option linter.unusedSimpArgs false
set_option maxRecDepth 100000

theorem addr_add' (b o j : Nat) : (⟨b, o, none⟩ : Addr).add j = ⟨b, o + j, none⟩ := by
  unfold Addr.add
  split
  · rename_i h
    have h : j = 0 := by simpa using h
    subst h
    rfl
  · rfl
theorem plain_of' {w : World} {a : Addr} {u : Value} (h : w.cell? a = some u) : ∃ b o, a = ⟨b, o, none⟩ := by
  obtain ⟨b, off, spot⟩ := a
  have hspot : spot = none := by simpa using World.cell?_spot h
  subst hspot
  exact ⟨b, off, rfl⟩
theorem plain_add' {w : World} {a : Addr} {u : Value} (h : w.cell? (a.add 0) = some u) : ∃ b o, a = ⟨b, o, none⟩ := plain_of' (by simpa [Addr.add] using h)
theorem cells3 : Try.prog.cellsOf 3 = 1 := by kernel_rfl
theorem cells38 : Try.prog.cellsOf 38 = 1 := by kernel_rfl
theorem cells45 : Try.prog.cellsOf 45 = 1 := by kernel_rfl
theorem cells9 : Try.prog.cellsOf 9 = 1 := by kernel_rfl
theorem cells41 : Try.prog.cellsOf 41 = 1 := by kernel_rfl
theorem cells42 : Try.prog.cellsOf 42 = 1 := by kernel_rfl
theorem cells24 : Try.prog.cellsOf 24 = 1 := by kernel_rfl
theorem cells23 : Try.prog.cellsOf 23 = 2 := by kernel_rfl
theorem cells46 : Try.prog.cellsOf 46 = 6 := by kernel_rfl
theorem cells48 : Try.prog.cellsOf 48 = 9 := by kernel_rfl
theorem cells44 : Try.prog.cellsOf 44 = 4 := by kernel_rfl
theorem cells40 : Try.prog.cellsOf 40 = 4 := by kernel_rfl
theorem cells26 : Try.prog.cellsOf 26 = 3 := by kernel_rfl

/-- A slice of things, each sz cells wide; Q says what lies at a place. -/
def ListAt {α : Type} (sz : Nat) (Q : World → Nat → Nat → α → Prop) (w : World) (v : Value) (L : List α) : Prop :=
  ∃ A c, v = .slice A L.length c ∧ L.length ≤ 9223372036854775807 ∧ (0 < L.length → ∃ g o, A = some ⟨g, o, none⟩ ∧ ∀ (i : Nat) x, L[i]? = some x → Q w g (o + i * sz) x)

def StrQ (w : World) (g o : Nat) (s : ByteArray) : Prop := w.cell? ⟨g, o, none⟩ = some (.string s) ∧ s.size ≤ 9223372036854775807
structure Cnd where
  a : Int
  o : Int
  m : Int
  v : Int
  deriving Inhabited
def Cnd.val (c : Cnd) : Value := .agg #[.int .i64 c.a, .int .i64 c.o, .int .u64 c.m, .int .u64 c.v]
def CndQ (w : World) (g o : Nat) (c : Cnd) : Prop :=
  w.cell? ⟨g, o, none⟩ = some (.int .i64 c.a) ∧ w.cell? ⟨g, o + 1, none⟩ = some (.int .i64 c.o) ∧ w.cell? ⟨g, o + 2, none⟩ = some (.int .u64 c.m) ∧ w.cell? ⟨g, o + 3, none⟩ = some (.int .u64 c.v)
abbrev StrsAt := ListAt 1 StrQ
abbrev CndsAt := ListAt 4 CndQ
structure Rul where
  k : Int
  a : Int
  ns : List ByteArray
  cs : List Cnd
  deriving Inhabited
def RulQ (w : World) (g o : Nat) (r : Rul) : Prop :=
  ∃ nv cv, w.cell? ⟨g, o, none⟩ = some (.int .i64 r.k) ∧ w.cell? ⟨g, o + 1, none⟩ = some (.int .i64 r.a) ∧ w.cell? ⟨g, o + 2, none⟩ = some nv ∧ w.cell? ⟨g, o + 3, none⟩ = some cv ∧ StrsAt w nv r.ns ∧ CndsAt w cv r.cs
abbrev RulsAt := ListAt 4 RulQ

theorem ListAt.below {α : Type} {sz : Nat} {Q : World → Nat → Nat → α → Prop} {w w1 : World} {v : Value} {L : List α} (hQ : ∀ g o x, Q w g o x → Q w1 g o x) (h : ListAt sz Q w v L) : ListAt sz Q w1 v L := by
  obtain ⟨A, c, h1, h2, h3⟩ := h
  refine ⟨A, c, h1, h2, fun h0 => ?_⟩
  obtain ⟨g, o, h5, h6⟩ := h3 h0
  exact ⟨g, o, h5, fun i x hx => hQ _ _ _ (h6 i x hx)⟩
theorem StrQ.below {w w1 : World} {g o : Nat} {s : ByteArray} (hb : Below w.heap.size w w1) (h : StrQ w g o s) : StrQ w1 g o s := ⟨keep_cell hb h.1, h.2⟩
theorem CndQ.below {w w1 : World} {g o : Nat} {c : Cnd} (hb : Below w.heap.size w w1) (h : CndQ w g o c) : CndQ w1 g o c := ⟨keep_cell hb h.1, keep_cell hb h.2.1, keep_cell hb h.2.2.1, keep_cell hb h.2.2.2⟩
theorem strs_below {w w1 : World} {v : Value} {L : List ByteArray} (hb : Below w.heap.size w w1) (h : StrsAt w v L) : StrsAt w1 v L := h.below fun _ _ _ => StrQ.below hb
theorem cnds_below {w w1 : World} {v : Value} {L : List Cnd} (hb : Below w.heap.size w w1) (h : CndsAt w v L) : CndsAt w1 v L := h.below fun _ _ _ => CndQ.below hb
theorem RulQ.below {w w1 : World} {g o : Nat} {r : Rul} (hb : Below w.heap.size w w1) (h : RulQ w g o r) : RulQ w1 g o r := by
  obtain ⟨nv, cv, h0, h1, h2, h3, h4, h5⟩ := h
  exact ⟨nv, cv, keep_cell hb h0, keep_cell hb h1, keep_cell hb h2, keep_cell hb h3, strs_below hb h4, cnds_below hb h5⟩
theorem ruls_below {w w1 : World} {v : Value} {L : List Rul} (hb : Below w.heap.size w w1) (h : RulsAt w v L) : RulsAt w1 v L := h.below fun _ _ _ => RulQ.below hb
theorem below_alloc (w : World) (o : Obj) : Below w.heap.size w (w.alloc o) := (Below.refl _ _).alloc (Nat.le_refl _) o

section
variable {H : Type} {enc : TypeId × Value → H} {w : World} {base : Nat} {held : Bool} {r : Reach} {b0 : Nat}
theorem open_list {α : Type} [Inhabited α] {t e : TypeId} {sz : Nat} (Q : World → Nat → Nat → α → Prop) (ht : Try.prog.underlying t = some (.slice e)) (hc : Try.prog.cellsOf e = sz)
    (each : ∀ (a : Addr) n d, (∃ cs', w.cells? base a sz = some cs' ∧ DataW.trod enc Try.prog w base (fun _ => true) held n e cs' = some d) → ∃ g o, a = ⟨g, o, none⟩ ∧ ∃ x : α, Q w g o x)
    {c : Value} (h : ∃ n x, DataW.trod enc Try.prog w base (fun _ => true) held n t [c] = some x) : ∃ L, ListAt sz Q w c L := by
  obtain ⟨n, x, h⟩ := h
  rcases Deep.open_slice ht h with ⟨hcs, _⟩ | ⟨a, len, cap, m, n, D, Pl, hcs, _, hl, hm, hmm, _, hr⟩
  · simp at hcs
    subst hcs
    exact ⟨[], none, 0, rfl, by simp, fun h => absurd h (by simp)⟩
  · simp at hcs
    subst hcs
    simp only [if_true] at hmm
    subst hmm
    rw [hc] at hr
    have each' : ∀ i, i < m → ∃ x : α, ∃ gl o, a.add (i * sz) = ⟨gl, o, none⟩ ∧ Q w gl o x := fun i hi => by
      obtain ⟨gl, o, h1, x, h2⟩ := each _ _ _ (hr i hi)
      exact ⟨x, gl, o, h1, h2⟩
    obtain ⟨op, hop⟩ := Deep.choose_lt each'
    have hlen : ((List.range len).map op).length = len := by simp
    refine ⟨(List.range len).map op, some a, m, by rw [hlen], by rw [hlen]; unfold maxLen at hm; omega, fun h0 => ?_⟩
    rw [hlen] at h0
    obtain ⟨gl, o, h1, h2⟩ := hop 0 (by omega)
    have : ∃ b o, a = ⟨b, o, none⟩ := by
      rw [Nat.zero_mul] at h1
      exact ⟨gl, o, by simpa [Addr.add] using h1⟩
    obtain ⟨b, o', rfl⟩ := this
    refine ⟨b, o', rfl, fun i x hi => ?_⟩
    rw [List.getElem?_map, Option.map_eq_some_iff] at hi
    obtain ⟨j, hj, rfl⟩ := hi
    have hil : i < len := by
      have := (List.getElem?_eq_some_iff.1 hj).1
      simpa using this
    obtain rfl : j = i := by
      rw [List.getElem?_range hil] at hj
      exact (Option.some.inj hj).symm
    obtain ⟨gl', o2, h3, h4⟩ := hop j (by omega)
    rw [addr_add'] at h3
    injection h3 with e1 e2 _
    subst e1 e2
    exact h4
theorem open_strsAt {c : Value} (h : ∃ n x, DataW.trod enc Try.prog w base (fun _ => true) held n 41 [c] = some x) : ∃ L, StrsAt w c L := by
  refine open_list StrQ Try.underlying41 cells9 (fun a n d h => ?_) h
  obtain ⟨cs, hcs, hd⟩ := h
  obtain ⟨_, hlen, hcell⟩ := World.cells?_some hcs
  match cs, hlen with
  | [v0], _ =>
    obtain ⟨x0, e0, _, w0⟩ := DataW.trod_string Try.underlying9 hd
    simp at e0
    subst e0
    have c0 := hcell 0 (by omega)
    obtain ⟨b, o, rfl⟩ := plain_add' c0
    rw [addr_add'] at c0
    exact ⟨b, o, rfl, x0, c0, by unfold maxLen at w0; omega⟩
theorem open_cndsAt {c : Value} (h : ∃ n x, DataW.trod enc Try.prog w base (fun _ => true) held n 42 [c] = some x) : ∃ L, CndsAt w c L := by
  refine open_list CndQ Try.underlying42 cells40 (fun a n d h => ?_) h
  obtain ⟨cs, hcs, hd⟩ := h
  obtain ⟨_, hlen, hcell⟩ := World.cells?_some hcs
  obtain ⟨xs, k, hk, hxy, _, hxl, hf⟩ := DataW.trod_struct Try.underlying40 hd
  match xs, hxl, cs, hlen with
  | [y0, y1, y2, y3], _, [v0, v1, v2, v3], _ =>
    have g0 := hf 0 _ rfl
    have g1 := hf 1 _ rfl
    have g2 := hf 2 _ rfl
    have g3 := hf 3 _ rfl
    simp [cells3, cells38] at g0 g1 g2 g3
    obtain ⟨x0, rfl, _⟩ := int_of Try.underlying3 ⟨_, _, g0⟩
    obtain ⟨x1, rfl, _⟩ := int_of Try.underlying3 ⟨_, _, g1⟩
    obtain ⟨x2, rfl, _⟩ := int_of Try.underlying38 ⟨_, _, g2⟩
    obtain ⟨x3, rfl, _⟩ := int_of Try.underlying38 ⟨_, _, g3⟩
    have c0 := hcell 0 (by omega)
    have c1 := hcell 1 (by omega)
    have c2 := hcell 2 (by omega)
    have c3 := hcell 3 (by omega)
    obtain ⟨b, o, rfl⟩ := plain_add' c0
    rw [addr_add'] at c0 c1 c2 c3
    exact ⟨b, o, rfl, ⟨x0, x1, x2, x3⟩, c0, c1, c2, c3⟩
theorem open_rul_cells {cs : List Value} {n : Nat} {d : DataW H × List MemPlace} (hlen : cs.length = 4) (hd : DataW.trod enc Try.prog w base (fun _ => true) held n 44 cs = some d) :
    ∃ k a nv cv ns cn, cs = [.int .i64 k, .int .i64 a, nv, cv] ∧ StrsAt w nv ns ∧ CndsAt w cv cn := by
  obtain ⟨xs, k, hk, hxy, _, hxl, hf⟩ := DataW.trod_struct Try.underlying44 hd
  match xs, hxl, cs, hlen with
  | [y0, y1, y2], _, [v0, v1, v2, v3], _ =>
    have g0 := hf 0 _ rfl
    have g1 := hf 1 _ rfl
    have g2 := hf 2 _ rfl
    simp [cells23, cells41, cells42] at g0 g1 g2
    obtain ⟨zs, k', _, _, _, hzl, hz⟩ := DataW.trod_struct Try.underlying23 g0
    match zs, hzl with
    | [z0, z1], _ =>
      have q0 := hz 0 _ rfl
      have q1 := hz 1 _ rfl
      simp [cells3] at q0 q1
      obtain ⟨x0, rfl, _⟩ := int_of Try.underlying3 ⟨_, _, q0⟩
      obtain ⟨x1, rfl, _⟩ := int_of Try.underlying3 ⟨_, _, q1⟩
      obtain ⟨ns, hns⟩ := open_strsAt ⟨_, _, g1⟩
      obtain ⟨cn, hcn⟩ := open_cndsAt ⟨_, _, g2⟩
      exact ⟨x0, x1, v2, v3, ns, cn, rfl, hns, hcn⟩
theorem open_rulsAt {c : Value} (h : ∃ n x, DataW.trod enc Try.prog w base (fun _ => true) held n 24 [c] = some x) : ∃ L, RulsAt w c L := by
  refine open_list RulQ Try.underlying24 cells44 (fun a n d h => ?_) h
  obtain ⟨cs, hcs, hd⟩ := h
  obtain ⟨_, hlen, hcell⟩ := World.cells?_some hcs
  obtain ⟨k, a', nv, cv, ns, cn, rfl, h1, h2⟩ := open_rul_cells hlen hd
  have c0 := hcell 0 (by omega)
  have c1 := hcell 1 (by omega)
  have c2 := hcell 2 (by omega)
  have c3 := hcell 3 (by omega)
  obtain ⟨b, o, rfl⟩ := plain_add' c0
  rw [addr_add'] at c0 c1 c2 c3
  exact ⟨b, o, rfl, ⟨k, a', ns, cn⟩, nv, cv, c0, c1, c2, c3, h1, h2⟩

/-- Rules that came in. -/
theorem open_rules {v : Value} {d : DataW H} {p : List MemPlace} (hv : Value.okWide Try.prog w r b0 26 v) (h : DataW.Trod enc Try.prog w base (fun _ => true) held 26 v d p) :
    ∃ k a lv L, v = .agg #[.int .i64 k, .int .i64 a, lv] ∧ RulsAt w lv L := by
  obtain ⟨cs, rfl, hl, hf⟩ := open_struct Try.underlying26 hv h
  rw [cells26] at hl
  match cs, hl with
  | [v0, v1, v2], _ =>
    obtain ⟨n, x, g0⟩ := hf 0 23 0 2 rfl cells23
    obtain ⟨n2, x2, g1⟩ := hf 1 24 2 1 rfl cells24
    simp at g0 g1
    obtain ⟨zs, k', _, _, _, hzl, hz⟩ := DataW.trod_struct Try.underlying23 g0
    match zs, hzl with
    | [z0, z1], _ =>
      have q0 := hz 0 _ rfl
      have q1 := hz 1 _ rfl
      simp [cells3] at q0 q1
      obtain ⟨x0, rfl, _⟩ := int_of Try.underlying3 ⟨_, _, q0⟩
      obtain ⟨x1, rfl, _⟩ := int_of Try.underlying3 ⟨_, _, q1⟩
      obtain ⟨L, hL⟩ := open_rulsAt ⟨_, _, g1⟩
      exact ⟨x0, x1, v2, L, rfl, hL⟩
/-- A rule that came in. -/
theorem open_rule {v : Value} {d : DataW H} {p : List MemPlace} (hv : Value.okWide Try.prog w r b0 44 v) (h : DataW.Trod enc Try.prog w base (fun _ => true) held 44 v d p) :
    ∃ k a nv cv ns cn, v = .agg #[.int .i64 k, .int .i64 a, nv, cv] ∧ StrsAt w nv ns ∧ CndsAt w cv cn := by
  obtain ⟨cs, rfl, hl, _⟩ := open_struct Try.underlying44 hv h
  rw [cells44] at hl
  obtain ⟨f, hf⟩ := h
  have hf' : DataW.trod enc Try.prog w base (fun _ => true) held f 44 cs = some (d, p) := by simpa [Value.cells] using hf
  obtain ⟨k, a, nv, cv, ns, cn, rfl, h1, h2⟩ := open_rul_cells hl hf'
  exact ⟨k, a, nv, cv, ns, cn, rfl, h1, h2⟩
/-- A call that came in. -/
theorem open_data {v : Value} {d : DataW H} {p : List MemPlace} (hv : Value.okWide Try.prog w r b0 48 v) (h : DataW.Trod enc Try.prog w base (fun _ => true) held 48 v d p) :
    ∃ nr ar ip x0 x1 x2 x3 x4 x5, v = .agg #[.int .u32 nr, .int .u32 ar, .int .u64 ip, .int .u64 x0, .int .u64 x1, .int .u64 x2, .int .u64 x3, .int .u64 x4, .int .u64 x5] := by
  obtain ⟨cs, rfl, hl, hf⟩ := open_struct Try.underlying48 hv h
  rw [cells48] at hl
  match cs, hl with
  | [v0, v1, v2, v3, v4, v5, v6, v7, v8], _ =>
    obtain ⟨n0, y0, g0⟩ := hf 0 45 0 1 rfl cells45
    obtain ⟨n1, y1, g1⟩ := hf 1 45 1 1 rfl cells45
    obtain ⟨n2, y2, g2⟩ := hf 2 38 2 1 rfl cells38
    obtain ⟨n, x, g3⟩ := hf 3 46 3 6 rfl cells46
    simp at g0 g1 g2 g3
    obtain ⟨a0, rfl, _⟩ := int_of Try.underlying45 ⟨_, _, g0⟩
    obtain ⟨a1, rfl, _⟩ := int_of Try.underlying45 ⟨_, _, g1⟩
    obtain ⟨a2, rfl, _⟩ := int_of Try.underlying38 ⟨_, _, g2⟩
    have E := open_array Try.underlying46 g3
    obtain ⟨m0, z0, e0⟩ := E 0 (by omega)
    obtain ⟨m1, z1, e1⟩ := E 1 (by omega)
    obtain ⟨m2, z2, e2⟩ := E 2 (by omega)
    obtain ⟨m3, z3, e3⟩ := E 3 (by omega)
    obtain ⟨m4, z4, e4⟩ := E 4 (by omega)
    obtain ⟨m5, z5, e5⟩ := E 5 (by omega)
    simp [cells38] at e0 e1 e2 e3 e4 e5
    obtain ⟨b0, rfl, _⟩ := int_of Try.underlying38 ⟨_, _, e0⟩
    obtain ⟨b1, rfl, _⟩ := int_of Try.underlying38 ⟨_, _, e1⟩
    obtain ⟨b2, rfl, _⟩ := int_of Try.underlying38 ⟨_, _, e2⟩
    obtain ⟨b3, rfl, _⟩ := int_of Try.underlying38 ⟨_, _, e3⟩
    obtain ⟨b4, rfl, _⟩ := int_of Try.underlying38 ⟨_, _, e4⟩
    obtain ⟨b5, rfl, _⟩ := int_of Try.underlying38 ⟨_, _, e5⟩
    exact ⟨a0, a1, a2, b0, b1, b2, b3, b4, b5, rfl⟩
end
end Go.Proofs.Ytjmmbadpknlmcaa
