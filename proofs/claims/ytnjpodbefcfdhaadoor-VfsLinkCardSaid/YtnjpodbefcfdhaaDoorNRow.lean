/- Rows of nodes that the call makes. No conditions. -/
import Derived.Test.YtnjpodbefcfdhaaDoorLaw1
namespace Go.Proofs.YtnjpodbefcfdhaaDoor
open Go.RowKit
attribute [local go_sem ↓] Go.wp_at_zero Go.wp_at_succ
set_option linter.unusedVariables false
set_option linter.unusedSimpArgs false

section
variable {P : Program} (w : World)
theorem wpList_append_src {ops : Array Oper} {rest : List Oper} {o : Oper} {a : Act} {Q : Exit → Act → World → Prop} (hgd : o.guard = none) (s x : Operand) (t : TypeId)
    (ho : o.op = .call { callee := .builtin .append, args := #[s, x], argTypes := #[t, t] })
    (base : Nat) (e : TypeId) (i : TypeInfo) (z : Value) (size bytes : Nat) (ht : P.underlying t = some (.slice e)) (hi : P.info? e = some i) (hz : i.zero = some z)
    (hsize : i.size = size) (hby : i.bytes = bytes) (hzs : z.cells.size = size) (hsz : 0 < size)
    (v : Value) (n : Nat) (xs : List Value) (hs : a.eval s = v) (hown : w.ownsRow base e size v n xs)
    (A : Option Addr) (m c : Nat) (news : List Value) (hx : a.eval x = .slice A m c) (hS : SrcAt w size A m news)
    (h63 : n + m ≤ maxLen) (hbytes : (n + m) * bytes ≤ 140737488355328) (hbase : base ≤ w.heap.size)
    (h : ∀ v' w', w'.ownsRow base e size v' (n + m) (xs ++ news) → w.grownBy w' v.ownBlock → (v'.ownBlock = v.ownBlock ∨ v'.ownBlock = some w.heap.size) → wpList P ops Q rest (a.put o.dst v') w') : wpList P ops Q (o :: rest) a w := by
  refine wpList_plain hgd fun _ hK => ?_
  obtain ⟨v', w', hrun, h2, h3, h4⟩ := run_append_src (P := P) w base t o.type e i z size bytes ht hi hz hsize hby hzs hsz v n xs hown A m c news hS h63 hbytes hbase
  unfold Oper.wp execOp
  simp only [ho, resolve, invoke, builtin, Sem.run_bind, Sem.run_pure, Result.andThen_ok, List.map_toArray, List.map_cons, List.map_nil, hs, hx, hrun]
  exact hK _ _ (h v' w' h2 h3 h4)
end
theorem src_block {w : World} {g size m : Nat} {cs : Array Value} {e : TypeId} (h : w.heap[g]? = some (.cells cs e (0, 0))) (hs : cs.size = m * size) (ho : ∀ u ∈ cs.toList, u.oneCell' = true) : SrcAt w size (some ⟨g, 0, none⟩) m cs.toList :=
  ⟨by simpa using hs, fun _ => ⟨g, 0, rfl, fun j u hj => by rw [Nat.zero_add, cell_of_row w g j _ _ _ h]; simpa using hj⟩, ho⟩
def ncells (L : List Nod) : List Value := L.flatMap fun x => [.string (strL x.p), .int .i64 x.k, .string (strL x.t)]
theorem ncells_cons (x : Nod) (L : List Nod) : ncells (x :: L) = .string (strL x.p) :: .int .i64 x.k :: .string (strL x.t) :: ncells L := rfl
theorem ncells_len : ∀ (L : List Nod), (ncells L).length = L.length * 3
  | [] => rfl
  | x :: L => by rw [ncells_cons]; simp [ncells_len L]; omega
theorem ncells_append (L M : List Nod) : ncells (L ++ M) = ncells L ++ ncells M := by simp [ncells]
theorem ncells_one : ∀ {L : List Nod}, ∀ u ∈ ncells L, u.oneCell' = true
  | [], u, h => by cases h
  | x :: L, u, h => by
    rw [ncells_cons] at h
    rcases List.mem_cons.1 h with rfl | h
    · rfl
    · rcases List.mem_cons.1 h with rfl | h
      · rfl
      · rcases List.mem_cons.1 h with rfl | h
        · rfl
        · exact ncells_one u h
theorem ncells_get : ∀ {L : List Nod} {i : Nat} {x : Nod}, L[i]? = some x → (ncells L)[i * 3]? = some (.string (strL x.p)) ∧ (ncells L)[i * 3 + 1]? = some (.int .i64 x.k) ∧ (ncells L)[i * 3 + 2]? = some (.string (strL x.t))
  | [], i, x, h => by simp at h
  | y :: L, 0, x, h => by
    simp at h; subst h
    exact ⟨rfl, rfl, rfl⟩
  | y :: L, i + 1, x, h => by
    simp only [List.getElem?_cons_succ] at h
    have := ncells_get h
    rw [ncells_cons, show (i + 1) * 3 = i * 3 + 1 + 1 + 1 by omega]
    exact this
theorem src_nodes {w : World} {A : Option Addr} {n c : Nat} {L : List Nod} (h : NodesAt w (.slice A n c) L) : SrcAt w 3 A n (ncells L) := by
  obtain ⟨A', c', h1, h2, h2', h3⟩ := h
  cases h1
  refine ⟨ncells_len L, fun h0 => ?_, ncells_one⟩
  obtain ⟨gl, o, h5, h6⟩ := h3 h0
  refine ⟨gl, o, h5, fun j u hu => ?_⟩
  have hj : j < L.length * 3 := by rw [← ncells_len]; exact (List.getElem?_eq_some_iff.1 hu).1
  have hi : j / 3 < L.length := by omega
  obtain ⟨x, hx⟩ : ∃ x, L[j / 3]? = some x := ⟨_, List.getElem?_eq_getElem hi⟩
  obtain ⟨c0, c1, c2⟩ := h6 _ x hx
  obtain ⟨g0, g1, g2⟩ := ncells_get hx
  have h3 : j % 3 = 0 ∨ j % 3 = 1 ∨ j % 3 = 2 := by omega
  rcases h3 with h3 | h3 | h3
  · have e : j = j / 3 * 3 := by omega
    rw [e] at hu ⊢
    rw [g0] at hu
    rw [← Option.some.inj hu]
    exact c0
  · have e : j = j / 3 * 3 + 1 := by omega
    rw [e] at hu ⊢
    rw [g1] at hu
    rw [← Option.some.inj hu]
    exact c1
  · have e : j = j / 3 * 3 + 2 := by omega
    rw [e] at hu ⊢
    rw [g2] at hu
    rw [← Option.some.inj hu]
    exact c2
theorem nodes_of_row {w : World} {base : Nat} {v : Value} {L : List Nod} (h : w.ownsRow base 32 3 v L.length (ncells L)) : NodesAt w v L := by
  obtain ⟨hl, ⟨rfl, h0⟩ | ⟨g, cap, cur, rfl, hg, hh, hn, hcap, hsz, htake⟩⟩ := h
  · exact ⟨none, 0, by rw [h0], by omega, by omega, fun h => by omega⟩
  · refine ⟨_, cap, rfl, hn, by unfold maxLen at hcap; omega, fun _ => ⟨g, 0, rfl, fun i x hx => ?_⟩⟩
    have hi : i < L.length := (List.getElem?_eq_some_iff.1 hx).1
    obtain ⟨h1, h2, h3⟩ := ncells_get hx
    rw [← htake, List.getElem?_take, if_pos (by omega)] at h1 h2 h3
    refine ⟨?_, ?_, ?_⟩
    · simp [World.cell?, hh]; simpa using h1
    · simp [World.cell?, hh]; simpa using h2
    · simp [World.cell?, hh]; simpa using h3
theorem info32 : (Tryd.prog.info? 32).map (fun i => (i.zero, i.size, i.bytes)) = some (some (.agg #[.string ⟨#[]⟩, .int .i64 0, .string ⟨#[]⟩]), 3, 40) := by kernel_rfl
theorem own_ge2 {w1 : World} {base : Nat} {e : TypeId} {size k : Nat} {v : Value} {xs : List Value} (h : w1.ownsRow base e size v k xs) : ∀ j, v.ownBlock = some j → base ≤ j := by
  intro j hj
  rcases h.2 with ⟨rfl, _⟩ | ⟨g, cap, cur, rfl, hg, _, _⟩
  · simp [Value.ownBlock] at hj
  · obtain rfl : g = j := by simpa [Value.ownBlock] using hj
    exact hg
end Go.Proofs.YtnjpodbefcfdhaaDoor
