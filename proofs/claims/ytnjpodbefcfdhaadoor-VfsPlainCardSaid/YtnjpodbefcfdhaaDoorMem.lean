/- Nodes, as the world holds them; how they come in. No conditions. -/
import Derived.Test.YtnjpodbefcfdhaaDoorNodes
import Derived.Deep.Grids
import Derived.ChangeSame
import Derived.ChangeMaps5
import Derived.WalkLawsBesides
namespace Go.Proofs.YtnjpodbefcfdhaaDoor
open Go.ChangeShapes Go.WideShapes Go.RowKit Go.ChangeMaps
set_option linter.unusedVariables false
set_option linter.unusedSimpArgs false
set_option maxRecDepth 100000

theorem addr_add' (b o j : Nat) : (⟨b, o, none⟩ : Addr).add j = ⟨b, o + j, none⟩ := by
  unfold Addr.add
  split
  · rename_i h
    have h : j = 0 := by simpa using h
    subst h
    rfl
  · rfl
theorem plain_of' {w : World} {a : Addr} {u : Value} (h : w.cell? a = some u) : ∃ b o, a = ⟨b, o, none⟩ := by
  obtain ⟨b, off, spot⟩ := a
  have hspot : spot = none := by simpa using World.cell?_spot h
  subst hspot
  exact ⟨b, off, rfl⟩
theorem plain_add' {w : World} {a : Addr} {u : Value} (h : w.cell? (a.add 0) = some u) : ∃ b o, a = ⟨b, o, none⟩ := plain_of' (by simpa [Addr.add] using h)
theorem cells32 : Tryd.prog.cellsOf 32 = 3 := by kernel_rfl
theorem cells9 : Tryd.prog.cellsOf 9 = 1 := by kernel_rfl
theorem cells3 : Tryd.prog.cellsOf 3 = 1 := by kernel_rfl

theorem below_alloc (w : World) (o : Obj) : Below w.heap.size w (w.alloc o) := (Below.refl _ _).alloc (Nat.le_refl _) o
theorem keep_cell {w w1 : World} (hb : Below w.heap.size w w1) {a : Addr} {v : Value} (h : w.cell? a = some v) : w1.cell? a = some v :=
  (hb.cell (World.block_lt_of_cell? _ _ h)).trans h
theorem bchain {B : Nat} {w wa wb : World} (h : Below B w wa) (hB : B ≤ wa.heap.size) (h2 : Below wa.heap.size wa wb) : Below B w wb := h.trans (h2.mono hB)
theorem new_cell (w : World) (cs : Array Value) (t : TypeId) (j : Nat) {v : Value} (h : cs[j]? = some v) : (w.alloc (.cells cs t)).cell? ⟨w.heap.size, j, none⟩ = some v := by
  unfold World.cell?
  simp only [World.alloc_heap_new]
  exact h

/-- A block of three cells that holds a node's value. -/
def Trio (w : World) (b : Nat) (v0 v1 v2 : Value) : Prop := w.heap[b]? = some (.cells #[v0, v1, v2] 32)
theorem Trio.new (w : World) (v0 v1 v2 : Value) : Trio (w.alloc (.cells #[v0, v1, v2] 32)) w.heap.size v0 v1 v2 := World.alloc_heap_new w _
theorem Trio.lt {w : World} {b : Nat} {v0 v1 v2 : Value} (h : Trio w b v0 v1 v2) : b < w.heap.size := (Array.getElem?_eq_some_iff.1 h).1
theorem Trio.below {w w1 : World} {b : Nat} {v0 v1 v2 : Value} (h : Trio w b v0 v1 v2) (hb : Below w.heap.size w w1) : Trio w1 b v0 v1 v2 := (hb.block b h.lt).trans h
theorem Trio.c0 {w : World} {b : Nat} {v0 v1 v2 : Value} (h : Trio w b v0 v1 v2) : w.cell? ⟨b, 0, none⟩ = some v0 := by simp [World.cell?, show w.heap[b]? = _ from h]
theorem Trio.c1 {w : World} {b : Nat} {v0 v1 v2 : Value} (h : Trio w b v0 v1 v2) : w.cell? ⟨b, 1, none⟩ = some v1 := by simp [World.cell?, show w.heap[b]? = _ from h]
theorem Trio.c2 {w : World} {b : Nat} {v0 v1 v2 : Value} (h : Trio w b v0 v1 v2) : w.cell? ⟨b, 2, none⟩ = some v2 := by simp [World.cell?, show w.heap[b]? = _ from h]
theorem Trio.frozen {w : World} {b : Nat} {v0 v1 v2 : Value} (h : Trio w b v0 v1 v2) (j : Nat) : w.frozen? ⟨b, j, none⟩ = false := by simp [World.frozen?, show w.heap[b]? = _ from h]
/-- A node that is there: three cells. -/
def NodQ (w : World) (g o : Nat) (x : Nod) : Prop :=
  w.cell? ⟨g, o, none⟩ = some (.string (strL x.p)) ∧ w.cell? ⟨g, o + 1, none⟩ = some (.int .i64 x.k) ∧ w.cell? ⟨g, o + 2, none⟩ = some (.string (strL x.t))
def SizedN (x : Nod) : Prop := x.p.length ≤ 9223372036854775807 ∧ x.t.length ≤ 9223372036854775807
def NodesAt (w : World) (v : Value) (L : List Nod) : Prop :=
  ∃ A c, v = .slice A L.length c ∧ L.length ≤ c ∧ c ≤ 9223372036854775807 ∧ (0 < L.length → ∃ gl o, A = some ⟨gl, o, none⟩ ∧ ∀ (i : Nat) x, L[i]? = some x → NodQ w gl (o + i * 3) x)
def nodV (x : Nod) : Value := .agg #[.string (strL x.p), .int .i64 x.k, .string (strL x.t)]
theorem NodQ.below {w w1 : World} {g o : Nat} {x : Nod} (hb : Below w.heap.size w w1) (h : NodQ w g o x) : NodQ w1 g o x := ⟨keep_cell hb h.1, keep_cell hb h.2.1, keep_cell hb h.2.2⟩
theorem NodesAt.below {w w1 : World} {v : Value} {L : List Nod} (h : NodesAt w v L) (hb : Below w.heap.size w w1) : NodesAt w1 v L := by
  obtain ⟨A, c, h1, h2, h2', h3⟩ := h
  refine ⟨A, c, h1, h2, h2', fun h0 => ?_⟩
  obtain ⟨gl, o, h5, h6⟩ := h3 h0
  exact ⟨gl, o, h5, fun i x hx => (h6 i x hx).below hb⟩
theorem NodesAt.form {w : World} {v : Value} {L : List Nod} (h : NodesAt w v L) : ∃ A c, v = .slice A L.length c := by
  obtain ⟨A, c, h1, _⟩ := h
  exact ⟨A, c, h1⟩
theorem NodesAt.take {w : World} {A : Option Addr} {c n : Nat} {L : List Nod} (h : NodesAt w (.slice A n c) L) (k : Nat) (hk : k ≤ L.length) : NodesAt w (.slice A k c) (L.take k) := by
  obtain ⟨A', c', h1, h2, h2', h3⟩ := h
  cases h1
  refine ⟨A, c, by simp [hk, Nat.min_eq_left], by simp; omega, h2', fun h0 => ?_⟩
  obtain ⟨gl, o, h5, h6⟩ := h3 (by simp at h0; omega)
  exact ⟨gl, o, h5, fun i x hx => h6 i x (by
    have h1 : i < (L.take k).length := (List.getElem?_eq_some_iff.1 hx).1
    rw [List.getElem?_take, if_pos (by simp at h1; omega)] at hx; exact hx)⟩

section
variable {H : Type} {enc : TypeId × Value → H} {w : World} {base : Nat} {held : Bool} {r : Reach} {b0 : Nat}
theorem open_node {a : Addr} {n : Nat} {d : DataW H × List MemPlace} (h : ∃ cs', w.cells? base a 3 = some cs' ∧ DataW.trod enc Tryd.prog w base (fun _ => true) held n 32 cs' = some d) :
    ∃ gl o, ∃ x : Nod, a = ⟨gl, o, none⟩ ∧ NodQ w gl o x ∧ SizedN x := by
  obtain ⟨cs, hcs, hd⟩ := h
  obtain ⟨_, hlen, hcell⟩ := World.cells?_some hcs
  obtain ⟨xs, k, hk, hxy, _, hxl, hf⟩ := DataW.trod_struct Tryd.underlying32 hd
  match xs, hxl, cs, hlen with
  | [y0, y1, y2], _, [v0, v1, v2], _ =>
    have g0 := hf 0 _ rfl
    have g1 := hf 1 _ rfl
    have g2 := hf 2 _ rfl
    simp [cells9, cells3] at g0 g1 g2
    obtain ⟨x0, e0, _, w0⟩ := DataW.trod_string Tryd.underlying9 g0
    obtain ⟨x1, e1, _⟩ := DataW.trod_int Tryd.underlying3 g1
    obtain ⟨x2, e2, _, w2⟩ := DataW.trod_string Tryd.underlying9 g2
    simp at e0 e1 e2
    subst e0 e1 e2
    have c0 := hcell 0 (by omega)
    have c1 := hcell 1 (by omega)
    have c2 := hcell 2 (by omega)
    obtain ⟨b, o, rfl⟩ := plain_add' c0
    rw [addr_add'] at c0 c1 c2
    refine ⟨b, o, ⟨x0.data.toList, x1, x2.data.toList⟩, rfl, ⟨?_, c1, ?_⟩, ?_⟩
    · show _ = some (Value.string (strL x0.data.toList)); rw [strL_of]; exact c0
    · show _ = some (Value.string (strL x2.data.toList)); rw [strL_of]; exact c2
    · unfold SizedN
      rw [len_data, len_data]
      unfold maxLen at w0 w2
      exact ⟨by omega, by omega⟩
theorem open_nodes {v : Value} {d : DataW H} {p : List MemPlace} (hv : Value.okWide Tryd.prog w r b0 22 v) (h : DataW.Trod enc Tryd.prog w base (fun _ => true) held 22 v d p) : ∃ L, NodesAt w v L ∧ (∀ x ∈ L, SizedN x) ∧ (∀ n c, v = .slice none n c → c = 0) := by
  obtain ⟨a, len, cap, rfl⟩ := okWide_slice Tryd.underlying22 hv
  obtain ⟨f, hf⟩ := h
  have hf' : DataW.trod enc Tryd.prog w base (fun _ => true) held f 22 [.slice a len cap] = some (d, p) := hf
  rcases Deep.open_slice Tryd.underlying22 hf' with ⟨hc, _⟩ | ⟨a, len, cap, m, n, D, Pl, hc, _, hl, hm, hmm, _, hr⟩
  · simp at hc
    obtain ⟨rfl, rfl, rfl⟩ := hc
    exact ⟨[], ⟨none, 0, rfl, by simp, by omega, fun h => absurd h (by simp)⟩, (fun x hx => nomatch hx), (fun n c h => by cases h; rfl)⟩
  · simp at hc
    obtain ⟨rfl, rfl, rfl⟩ := hc
    simp only [if_true] at hmm
    subst hmm
    rw [cells32] at hr
    have each : ∀ i, i < m → ∃ x : Nod, ∃ gl o, a.add (i * 3) = ⟨gl, o, none⟩ ∧ NodQ w gl o x ∧ SizedN x := fun i hi => by
      obtain ⟨gl, o, x, h⟩ := open_node (hr i hi)
      exact ⟨x, gl, o, h⟩
    obtain ⟨op, hop⟩ := Deep.choose_lt each
    have hlen : ((List.range len).map op).length = len := by simp
    refine ⟨(List.range len).map op, ⟨some a, m, by rw [hlen], by rw [hlen]; exact hl, by unfold maxLen at hm; omega, fun h0 => ?_⟩, fun x hx => ?_, fun n c h => by cases h⟩
    · rw [hlen] at h0
      obtain ⟨gl, o, h1, h2, _⟩ := hop 0 (by omega)
      have : ∃ b o, a = ⟨b, o, none⟩ := plain_add' (w := w) (u := .string (strL (op 0).p)) (by have h5 := h2.1; rw [← h1, Nat.zero_mul] at h5; exact h5)
      obtain ⟨b, o', rfl⟩ := this
      refine ⟨b, o', rfl, fun i x hi => ?_⟩
      rw [List.getElem?_map, Option.map_eq_some_iff] at hi
      obtain ⟨j, hj, rfl⟩ := hi
      have hil : i < len := by
        have := (List.getElem?_eq_some_iff.1 hj).1
        simpa using this
      obtain rfl : j = i := by
        rw [List.getElem?_range hil] at hj
        exact (Option.some.inj hj).symm
      obtain ⟨gl', o2, h3, h4, _⟩ := hop j (by omega)
      rw [addr_add'] at h3
      injection h3 with e1 e2 _
      subst e1 e2
      exact h4
    · obtain ⟨j, hj, rfl⟩ := List.mem_map.1 hx
      obtain ⟨_, _, _, _, h⟩ := hop j (by have := List.mem_range.1 hj; omega)
      exact h
end
end Go.Proofs.YtnjpodbefcfdhaaDoor
