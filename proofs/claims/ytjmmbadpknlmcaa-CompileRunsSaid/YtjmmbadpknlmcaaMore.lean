/- Lists that are appended to: the cells of rules and of names, and an append from whatever source. No conditions. -/
import Derived.Test.YtjmmbadpknlmcaaLight
import Derived.Maps.AppendAt
import Derived.Deep.AppendLies
import Derived.Deep.RegionHeld3
import Derived.Deep.RegionLaw
namespace Go.Proofs.Ytjmmbadpknlmcaa
open Go.RowKit
set_option linter.unusedVariables false
set_option linter.unusedSimpArgs false

/-- The source of an append: nothing, or cells that lie in a row. -/
def SrcAt (w : World) (size : Nat) (A : Option Addr) (m : Nat) (news : List Value) : Prop :=
  news.length = m * size ∧ (0 < m → ∃ g o, A = some ⟨g, o, none⟩ ∧ ∀ (j : Nat) u, news[j]? = some u → w.cell? ⟨g, o + j, none⟩ = some u) ∧ ∀ u ∈ news, u.oneCell' = true

section
variable {P : Program} (w : World)
theorem run_append_src (base : Nat) (t ty e : TypeId) (i : TypeInfo) (z : Value) (size bytes : Nat) (ht : P.underlying t = some (.slice e)) (hi : P.info? e = some i) (hz : i.zero = some z)
    (hsize : i.size = size) (hby : i.bytes = bytes) (hzs : z.cells.size = size) (hsz : 0 < size)
    (v : Value) (n : Nat) (xs : List Value) (hown : w.ownsRow base e size v n xs) (A : Option Addr) (m c : Nat) (news : List Value) (hS : SrcAt w size A m news)
    (h63 : n + m ≤ maxLen) (hbytes : (n + m) * bytes ≤ 140737488355328) (hbase : base ≤ w.heap.size) :
    ∃ v' w', (Builtin.append_ #[t, t] ty #[v, .slice A m c]).run P w = .ok v' w' ∧ w'.ownsRow base e size v' (n + m) (xs ++ news) ∧ w.grownBy w' v.ownBlock ∧ (v'.ownBlock = v.ownBlock ∨ v'.ownBlock = some w.heap.size) := by
  obtain ⟨hl, hs, h1⟩ := hS
  cases A with
  | some ad =>
    have hc : ∀ j u, news[j]? = some u → w.cell? (ad.add j) = some u := by
      intro j u hu
      have hm : 0 < m := by
        rcases Nat.eq_zero_or_pos m with rfl | h
        · have : news = [] := List.eq_nil_of_length_eq_zero (by simpa using hl)
          subst this; simp at hu
        · exact h
      obtain ⟨g, o, e, hc⟩ := hs hm
      injection e with e
      subst e
      rw [addr_add']
      exact hc j u hu
    obtain ⟨v', w', a, b, c', _, d⟩ := run_append_own_at (P := P) w base t ty e i z size bytes ht hi hz hsize hby hzs hsz v n xs hown ad m c news hl hc h1 h63 hbytes hbase
    exact ⟨v', w', a, b, c', d⟩
  | none =>
    have hm : m = 0 := by
      rcases Nat.eq_zero_or_pos m with h | h
      · exact h
      · obtain ⟨g, o, e, _⟩ := hs h
        cases e
    subst hm
    have : news = [] := List.eq_nil_of_length_eq_zero (by simpa using hl)
    subst this
    refine ⟨v, w, ?_, by simpa using hown, World.grownBy.refl w _, .inl rfl⟩
    rcases hown.2 with ⟨rfl, rfl⟩ | ⟨g, cap, cur, rfl, _, _, hnc, _⟩
    · simp [Builtin.append_, run_underlying ht, sizeOf, typeInfo, hi, Builtin.lenOf, Builtin.firstCells]
    · simp [Builtin.append_, run_underlying ht, sizeOf, typeInfo, hi, Builtin.lenOf, Builtin.firstCells, hnc, storeCells]

theorem step_append_src {ops : Array Oper} {o : Oper} {a : Act} {K : Act → World → Prop} {Q : Exit → Act → World → Prop} {E : Prop} (hgd : o.guard = none) (s x : Operand) (t : TypeId)
    (ho : o.op = .call { callee := .builtin .append, args := #[s, x], argTypes := #[t, t] })
    (base : Nat) (e : TypeId) (i : TypeInfo) (z : Value) (size bytes : Nat) (ht : P.underlying t = some (.slice e)) (hi : P.info? e = some i) (hz : i.zero = some z)
    (hsize : i.size = size) (hby : i.bytes = bytes) (hzs : z.cells.size = size) (hsz : 0 < size)
    (v : Value) (n : Nat) (xs : List Value) (hs : a.eval s = v) (hown : w.ownsRow base e size v n xs)
    (A : Option Addr) (m c : Nat) (news : List Value) (hx : a.eval x = .slice A m c) (hS : SrcAt w size A m news)
    (h63 : n + m ≤ maxLen) (hbytes : (n + m) * bytes ≤ 140737488355328) (hbase : base ≤ w.heap.size)
    (h : ∀ v' w', w'.ownsRow base e size v' (n + m) (xs ++ news) → w.grownBy w' v.ownBlock → (v'.ownBlock = v.ownBlock ∨ v'.ownBlock = some w.heap.size) → K (a.put o.dst v') w') :
    if Region.wanted o (yielded ops a.tmps) = true then Oper.wp P o a w K Q else E := by
  have hw : Region.wanted o (yielded ops a.tmps) = true := by simp [Region.wanted, hgd]
  rw [if_pos hw]
  obtain ⟨v', w', hrun, h2, h3, h4⟩ := run_append_src (P := P) w base t o.type e i z size bytes ht hi hz hsize hby hzs hsz v n xs hown A m c news hS h63 hbytes hbase
  unfold Oper.wp execOp
  simp only [ho, resolve, invoke, builtin, Sem.run_bind, Sem.run_pure, Result.andThen_ok, List.map_toArray, List.map_cons, List.map_nil, hs, hx, hrun]
  exact h v' w' h2 h3 h4
theorem wpList_append_src {ops : Array Oper} {rest : List Oper} {o : Oper} {a : Act} {Q : Exit → Act → World → Prop} (hgd : o.guard = none) (s x : Operand) (t : TypeId)
    (ho : o.op = .call { callee := .builtin .append, args := #[s, x], argTypes := #[t, t] })
    (base : Nat) (e : TypeId) (i : TypeInfo) (z : Value) (size bytes : Nat) (ht : P.underlying t = some (.slice e)) (hi : P.info? e = some i) (hz : i.zero = some z)
    (hsize : i.size = size) (hby : i.bytes = bytes) (hzs : z.cells.size = size) (hsz : 0 < size)
    (v : Value) (n : Nat) (xs : List Value) (hs : a.eval s = v) (hown : w.ownsRow base e size v n xs)
    (A : Option Addr) (m c : Nat) (news : List Value) (hx : a.eval x = .slice A m c) (hS : SrcAt w size A m news)
    (h63 : n + m ≤ maxLen) (hbytes : (n + m) * bytes ≤ 140737488355328) (hbase : base ≤ w.heap.size)
    (h : ∀ v' w', w'.ownsRow base e size v' (n + m) (xs ++ news) → w.grownBy w' v.ownBlock → (v'.ownBlock = v.ownBlock ∨ v'.ownBlock = some w.heap.size) → wpList P ops Q rest (a.put o.dst v') w') : wpList P ops Q (o :: rest) a w := by
  refine wpList_plain hgd fun _ hK => ?_
  obtain ⟨v', w', hrun, h2, h3, h4⟩ := run_append_src (P := P) w base t o.type e i z size bytes ht hi hz hsize hby hzs hsz v n xs hown A m c news hS h63 hbytes hbase
  unfold Oper.wp execOp
  simp only [ho, resolve, invoke, builtin, Sem.run_bind, Sem.run_pure, Result.andThen_ok, List.map_toArray, List.map_cons, List.map_nil, hs, hx, hrun]
  exact hK _ _ (h v' w' h2 h3 h4)
end

/-- Cells that are rules. -/
def RulCs (w : World) : List Value → List Rul → Prop
  | [], [] => True
  | a :: b :: nv :: cv :: xs, r :: L => (a = .int .i64 r.k ∧ b = .int .i64 r.a ∧ StrsAt w nv r.ns ∧ CndsAt w cv r.cs) ∧ RulCs w xs L
  | _, _ => False
theorem RulCs.below {w w1 : World} (hb : Below w.heap.size w w1) : ∀ {xs : List Value} {L : List Rul}, RulCs w xs L → RulCs w1 xs L
  | [], [], _ => trivial
  | a :: b :: nv :: cv :: xs, r :: L, ⟨⟨h0, h1, h2, h3⟩, h⟩ => ⟨⟨h0, h1, strs_below hb h2, cnds_below hb h3⟩, RulCs.below hb h⟩
  | [], _ :: _, h => by simp [RulCs] at h
  | [_], _, h => by cases ‹List Rul› <;> simp [RulCs] at h
  | [_, _], _, h => by cases ‹List Rul› <;> simp [RulCs] at h
  | [_, _, _], _, h => by cases ‹List Rul› <;> simp [RulCs] at h
  | _ :: _ :: _ :: _ :: _, [], h => by simp [RulCs] at h
theorem RulCs.append {w : World} : ∀ {xs ys : List Value} {L M : List Rul}, RulCs w xs L → RulCs w ys M → RulCs w (xs ++ ys) (L ++ M)
  | [], _, [], _, _, h => h
  | a :: b :: nv :: cv :: xs, _, r :: L, _, ⟨h0, h⟩, h' => ⟨h0, RulCs.append h h'⟩
  | [], _, _ :: _, _, h, _ => by simp [RulCs] at h
  | [_], _, L, _, h, _ => by cases L <;> simp [RulCs] at h
  | [_, _], _, L, _, h, _ => by cases L <;> simp [RulCs] at h
  | [_, _, _], _, L, _, h, _ => by cases L <;> simp [RulCs] at h
  | _ :: _ :: _ :: _ :: _, _, [], _, h, _ => by simp [RulCs] at h
theorem ListAt.slice {α : Type} {sz : Nat} {Q : World → Nat → Nat → α → Prop} {w : World} {v : Value} {L : List α} (h : ListAt sz Q w v L) : ∃ A m c, v = .slice A m c := by
  obtain ⟨A, c, h, _⟩ := h
  exact ⟨A, _, c, h⟩
theorem RulCs.length {w : World} : ∀ {xs : List Value} {L : List Rul}, RulCs w xs L → xs.length = L.length * 4 ∧ ∀ u ∈ xs, u.oneCell' = true
  | [], [], _ => ⟨rfl, by simp⟩
  | a :: b :: nv :: cv :: xs, r :: L, ⟨⟨h0, h1, h2, h3⟩, h⟩ => by
    obtain ⟨e1, e2⟩ := RulCs.length h
    refine ⟨by simp [e1]; omega, fun u hu => ?_⟩
    obtain ⟨A, m, c, rfl⟩ := h2.slice
    obtain ⟨A', m', c', rfl⟩ := h3.slice
    subst h0 h1
    simp only [List.mem_cons] at hu
    rcases hu with rfl | rfl | rfl | rfl | hu
    · rfl
    · rfl
    · rfl
    · rfl
    · exact e2 u hu
  | [], _ :: _, h => by simp [RulCs] at h
  | [_], L, h => by cases L <;> simp [RulCs] at h
  | [_, _], L, h => by cases L <;> simp [RulCs] at h
  | [_, _, _], L, h => by cases L <;> simp [RulCs] at h
  | _ :: _ :: _ :: _ :: _, [], h => by simp [RulCs] at h
theorem rulCs_at {w : World} {g : Nat} : ∀ {L : List Rul} {o : Nat}, (∀ (i : Nat) x, L[i]? = some x → RulQ w g (o + i * 4) x) → ∃ xs, RulCs w xs L ∧ ∀ (j : Nat) u, xs[j]? = some u → w.cell? ⟨g, o + j, none⟩ = some u
  | [], _, _ => ⟨[], trivial, fun j u h => by simp at h⟩
  | r :: L, o, h => by
    obtain ⟨nv, cv, h0, h1, h2, h3, h4, h5⟩ := h 0 r rfl
    obtain ⟨xs, hx, hc⟩ := rulCs_at (L := L) (o := o + 4) (fun i x hi => by have := h (i + 1) x (by simpa using hi); rw [show o + 4 + i * 4 = o + (i + 1) * 4 by omega]; exact this)
    rw [show o + 0 * 4 = o by omega] at h0 h1 h2 h3
    refine ⟨.int .i64 r.k :: .int .i64 r.a :: nv :: cv :: xs, ⟨⟨rfl, rfl, h4, h5⟩, hx⟩, fun j u hj => ?_⟩
    match j, hj with
    | 0, hj => cases hj; exact h0
    | 1, hj => cases hj; exact h1
    | 2, hj => cases hj; exact h2
    | 3, hj => cases hj; exact h3
    | j + 4, hj =>
      have := hc j u (by simpa using hj)
      rw [show o + (j + 4) = o + 4 + j by omega]
      exact this
theorem rulQ_of {w : World} {g : Nat} : ∀ {xs : List Value} {L : List Rul} {o : Nat}, RulCs w xs L → (∀ (j : Nat) u, xs[j]? = some u → w.cell? ⟨g, o + j, none⟩ = some u) → ∀ (i : Nat) x, L[i]? = some x → RulQ w g (o + i * 4) x
  | [], [], _, _, _, i, x, hi => by simp at hi
  | a :: b :: nv :: cv :: xs, r :: L, o, ⟨⟨h0, h1, h2, h3⟩, h⟩, hc, 0, x, hi => by
    cases hi
    subst h0 h1
    rw [show o + 0 * 4 = o by omega]
    exact ⟨nv, cv, hc 0 _ rfl, hc 1 _ rfl, hc 2 _ rfl, hc 3 _ rfl, h2, h3⟩
  | a :: b :: nv :: cv :: xs, r :: L, o, ⟨_, h⟩, hc, i + 1, x, hi => by
    have := rulQ_of (o := o + 4) h (fun j u hj => by have := hc (j + 4) u (by simpa using hj); rw [show o + 4 + j = o + (j + 4) by omega]; exact this) i x (by simpa using hi)
    rw [show o + (i + 1) * 4 = o + 4 + i * 4 by omega]
    exact this
  | [], _ :: _, _, h, _, _, _, _ => by simp [RulCs] at h
  | [_], L, _, h, _, _, _, _ => by cases L <;> simp [RulCs] at h
  | [_, _], L, _, h, _, _, _, _ => by cases L <;> simp [RulCs] at h
  | [_, _, _], L, _, h, _, _, _, _ => by cases L <;> simp [RulCs] at h
  | _ :: _ :: _ :: _ :: _, [], _, h, _, _, _, _ => by simp [RulCs] at h
theorem ruls_src {w : World} {A : Option Addr} {n c : Nat} {L : List Rul} (h : RulsAt w (.slice A n c) L) : ∃ xs, RulCs w xs L ∧ SrcAt w 4 A n xs := by
  obtain ⟨A', c', e, _, hc⟩ := h
  injection e with e1 e2 e3
  subst e1 e2 e3
  by_cases h0 : 0 < L.length
  · obtain ⟨g, o, rfl, hq⟩ := hc h0
    obtain ⟨xs, hx, hcell⟩ := rulCs_at hq
    exact ⟨xs, hx, hx.length.1, fun _ => ⟨g, o, rfl, hcell⟩, hx.length.2⟩
  · have : L = [] := List.eq_nil_of_length_eq_zero (by omega)
    subst this
    exact ⟨[], trivial, rfl, fun h => absurd h (by simp), by simp⟩
theorem ruls_own {w : World} {base : Nat} {v : Value} {xs : List Value} {L : List Rul} (hx : RulCs w xs L) {n : Nat} (hn : n = L.length) (ho : w.ownsRow base 44 4 v n xs) : RulsAt w v L := by
  subst hn
  rcases ho.2 with ⟨rfl, h0⟩ | ⟨g, cap, cur, rfl, _, hg, hnc, hcm, _⟩
  · exact ⟨none, 0, by rw [h0], by omega, fun h => absurd h (by omega)⟩
  · refine ⟨some ⟨g, 0, none⟩, cap, rfl, by unfold maxLen at hcm; omega, fun _ => ⟨g, 0, rfl, rulQ_of hx (fun j u hj => ?_)⟩⟩
    have := ho.cells (g := g) rfl j u hj
    rwa [addr_add'] at this
theorem strs_src {w : World} {A : Option Addr} {n c : Nat} {ns : List ByteArray} (h : StrsAt w (.slice A n c) ns) : SrcAt w 1 A n (ns.map Value.string) ∧ ∀ s ∈ ns, s.size ≤ 9223372036854775807 := by
  obtain ⟨A', c', e, _, hc⟩ := h
  injection e with e1 e2 e3
  subst e1 e2 e3
  refine ⟨⟨by simp, fun h0 => ?_, fun u hu => ?_⟩, fun s hs => ?_⟩
  · obtain ⟨g, o, rfl, hq⟩ := hc h0
    refine ⟨g, o, rfl, fun j u hj => ?_⟩
    rw [List.getElem?_map, Option.map_eq_some_iff] at hj
    obtain ⟨x, hx, rfl⟩ := hj
    have := (hq j x hx).1
    rwa [Nat.mul_one] at this
  · obtain ⟨s, _, rfl⟩ := List.mem_map.1 hu
    rfl
  · obtain ⟨i, hi, rfl⟩ := List.mem_iff_getElem.1 hs
    obtain ⟨g, o, rfl, hq⟩ := hc (by omega)
    exact (hq i _ (List.getElem?_eq_getElem hi)).2
theorem strs_own {w : World} {base : Nat} {v : Value} {ns : List ByteArray} {n : Nat} (hn : n = ns.length) (hs : ∀ s ∈ ns, s.size ≤ 9223372036854775807) (ho : w.ownsRow base 9 1 v n (ns.map Value.string)) : StrsAt w v ns := by
  subst hn
  rcases ho.2 with ⟨rfl, h0⟩ | ⟨g, cap, cur, rfl, _, hg, hnc, hcm, _⟩
  · exact ⟨none, 0, by rw [h0], by omega, fun h => absurd h (by omega)⟩
  · refine ⟨some ⟨g, 0, none⟩, cap, rfl, by unfold maxLen at hcm; omega, fun _ => ⟨g, 0, rfl, fun i x hi => ⟨?_, hs x (List.mem_of_getElem? hi)⟩⟩⟩
    have := ho.cells (g := g) rfl i (.string x) (by rw [List.getElem?_map, hi]; rfl)
    rwa [addr_add', ← Nat.mul_one i] at this
theorem SrcAt.below {w w1 : World} {size : Nat} {A : Option Addr} {m : Nat} {news : List Value} (h : SrcAt w size A m news) (hb : Below w.heap.size w w1) : SrcAt w1 size A m news :=
  ⟨h.1, fun h0 => by
    obtain ⟨g, o, e, hc⟩ := h.2.1 h0
    exact ⟨g, o, e, fun j u hj => keep_cell hb (hc j u hj)⟩, h.2.2⟩
theorem owns_empty {w : World} {g e size : Nat} (h : w.heap[g]? = some (.cells #[] e (0, 0))) : w.ownsRow 0 e size (.slice (some ⟨g, 0, none⟩) 0 0) 0 [] :=
  ⟨by simp, .inr ⟨g, 0, #[], rfl, Nat.zero_le _, h, Nat.le_refl _, by unfold maxLen; omega, by simp, by simp⟩⟩
theorem grown_below2 {w w' : World} {B : Nat} {row : Option Nat} (h : w.grownBy w' row) (hB : B ≤ w.heap.size) (hr : ∀ b, row = some b → B ≤ b) : Below B w w' :=
  ⟨h.os, h.tape, h.output, h.size, fun k hk => h.block k (by omega) (fun e => by have := hr k e.symm; omega)⟩
theorem info44 : (Try.prog.info? 44).map (fun i => (i.zero, i.size, i.bytes)) = some (some (.agg #[.int .i64 0, .int .i64 0, .slice none 0 0, .slice none 0 0]), 4, 64) := by kernel_rfl
theorem info9 : (Try.prog.info? 9).map (fun i => (i.zero, i.size, i.bytes)) = some (some (.string ⟨#[]⟩), 1, 16) := by kernel_rfl
theorem src_rule {w : World} {g : Nat} {a b nv cv : Value} (h0 : w.cell? ⟨g, 0, none⟩ = some a) (h1 : w.cell? ⟨g, 1, none⟩ = some b) (h2 : w.cell? ⟨g, 2, none⟩ = some nv) (h3 : w.cell? ⟨g, 3, none⟩ = some cv)
    (ho : ∀ u ∈ [a, b, nv, cv], u.oneCell' = true) : SrcAt w 4 (some ⟨g, 0, none⟩) 1 [a, b, nv, cv] :=
  ⟨rfl, fun _ => ⟨g, 0, rfl, fun j u hj => by
    match j, hj with
    | 0, hj => cases hj; exact h0
    | 1, hj => cases hj; exact h1
    | 2, hj => cases hj; exact h2
    | 3, hj => cases hj; exact h3⟩, ho⟩

section
variable (w : World) (c1 : Array Value) (t1 : TypeId) (c2 : Array Value) (t2 : TypeId) (c3 : Array Value) (t3 : TypeId) (i : Nat)
theorem box3_1 (v : Value) (h : c1[i]? = some v) : (((w.alloc (.cells c1 t1)).alloc (.cells c2 t2)).alloc (.cells c3 t3)).cell? ⟨w.heap.size, i, none⟩ = some v :=
  keep_cell (below_alloc _ _) (keep_cell (below_alloc _ _) (new_cell w c1 t1 i h))
theorem box3_2 (v : Value) (h : c2[i]? = some v) : (((w.alloc (.cells c1 t1)).alloc (.cells c2 t2)).alloc (.cells c3 t3)).cell? ⟨w.heap.size + 1, i, none⟩ = some v := by
  have h2 := new_cell (w.alloc (.cells c1 t1)) c2 t2 i h
  have e : (w.alloc (.cells c1 t1)).heap.size = w.heap.size + 1 := by simp
  rw [e] at h2
  exact keep_cell (below_alloc _ _) h2
theorem box3_3 (v : Value) (h : c3[i]? = some v) : (((w.alloc (.cells c1 t1)).alloc (.cells c2 t2)).alloc (.cells c3 t3)).cell? ⟨w.heap.size + 1 + 1, i, none⟩ = some v := by
  have h2 := new_cell ((w.alloc (.cells c1 t1)).alloc (.cells c2 t2)) c3 t3 i h
  have e : ((w.alloc (.cells c1 t1)).alloc (.cells c2 t2)).heap.size = w.heap.size + 1 + 1 := by simp
  rw [e] at h2
  exact h2
end
end Go.Proofs.Ytjmmbadpknlmcaa
