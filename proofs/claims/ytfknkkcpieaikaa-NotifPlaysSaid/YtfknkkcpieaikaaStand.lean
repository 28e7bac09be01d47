/- One that has ended stands, till it is taken out: the plain law of NotifEnds. No conditions. -/
import Derived.Test.YtfknkkcpieaikaaLaw3
namespace Go.Proofs.Ytfknkkcpieaikaa
open Go.RowKit
set_option linter.unusedVariables false
set_option linter.unusedSimpArgs false

/-- The numbers rise, and the next one is above them. -/
def Ord (T : Tb) : Prop := T.L.Pairwise (fun x y => x.id < y.id) ∧ ∀ x ∈ T.L, x.id < T.next
theorem Ord.map {T : Tb} (h : Ord T) {g : Ent → Ent} (hk : Keeps g) : Ord (mapT T g) := by
  refine ⟨?_, fun y hy => ?_⟩
  · show (T.L.map g).Pairwise _
    rw [List.pairwise_map]
    exact h.1.imp (fun {a b} hab => by rw [(hk a).1, (hk b).1]; exact hab)
  · obtain ⟨x, hx, rfl⟩ : ∃ x ∈ T.L, g x = y := by simpa [mapT] using hy
    show (g x).id < T.next
    rw [(hk x).1]; exact h.2 x hx
theorem keeps_tick : Keeps (fun x => if x.waits then gt x else x) := fun x => by by_cases hh : x.waits = true; simp [hh]; exact gt_keeps x; simp [hh]
theorem keeps_drop : Keeps (fun x : Ent => if x.waits then x.go 7 else x) := fun x => by by_cases h : x.waits = true <;> simp [h, Ent.go]
theorem mem_one {T : Tb} (h : Ord T) {x z : Ent} (hx : x ∈ T.L) (hz : z ∈ T.L) (hne : x ≠ z) (g : Ent → Ent) : x ∈ (mapT T (one z.id g)).L := by
  refine List.mem_map.2 ⟨x, hx, ?_⟩
  unfold one
  rw [if_neg]
  intro e
  exact hne (ids_same h.1 hx hz e)
/-- What one call but Ended lets stand. -/
theorem stand_does {T : Tb} (h : Ord T) (o : Opn) (ho : o.d ≠ 9) : Ord (does1 T o).2 ∧ ∀ x ∈ T.L, x.waits = false → x ∈ (does1 T o).2.L := by
  have hne : ∀ {x z : Ent}, x.waits = false → z.waits = true → x ≠ z := fun h1 h2 e => by rw [e, h2] at h1; cases h1
  unfold does1
  split
  · show Ord (addT T o.n).2.2 ∧ ∀ x ∈ T.L, x.waits = false → x ∈ (addT T o.n).2.2.L
    unfold addT
    split
    · exact ⟨h, fun x hx _ => hx⟩
    · cases ofL T.L o.n with
      | some z => exact ⟨h, fun x hx _ => hx⟩
      | none =>
        simp only
        split
        · exact ⟨h, fun x hx _ => hx⟩
        · refine ⟨⟨?_, fun x hx => ?_⟩, fun x hx _ => List.mem_append_left _ hx⟩
          · show (T.L ++ [fresh T o.n]).Pairwise _
            rw [List.pairwise_append]
            exact ⟨h.1, by simp, fun a ha b hb => by simp at hb; subst hb; exact h.2 a ha⟩
          · have hx' : x ∈ T.L ∨ x = fresh T o.n := by simpa [pushT] using hx
            rcases hx' with hx | rfl
            · have := h.2 x hx; show x.id < T.next + 1; omega
            · show T.next < T.next + 1; omega
  split
  · show Ord (sendT T).2.2 ∧ ∀ x ∈ T.L, x.waits = false → x ∈ (sendT T).2.2.L
    unfold sendT
    cases hf : T.L.find? isInit with
    | none => exact ⟨h, fun x hx _ => hx⟩
    | some z =>
      have hst : z.st = 1 := by have := List.find?_some hf; simpa [isInit] using this
      exact ⟨h.map (one_keeps sent_keeps), fun x hx hw => mem_one h hx (List.mem_of_find?_eq_some hf) (hne hw (by simp [Ent.waits, hst])) _⟩
  split
  · show Ord (replyT T _ _ _ _).2 ∧ ∀ x ∈ T.L, x.waits = false → x ∈ (replyT T _ _ _ _).2.L
    unfold replyT
    split
    · cases hg : getL T.L o.id with
      | none => exact ⟨h, fun x hx _ => hx⟩
      | some z =>
        simp only
        split
        · rename_i hst
          split
          · exact ⟨h.map (one_keeps (rep_keeps _ _)), fun x hx hw => mem_one h hx (getL_mem hg).1 (hne hw (by simp [Ent.waits, hst])) _⟩
          · exact ⟨h, fun x hx _ => hx⟩
        · exact ⟨h, fun x hx _ => hx⟩
    · exact ⟨h, fun x hx _ => hx⟩
  split
  · show Ord (killT T o.n).2 ∧ ∀ x ∈ T.L, x.waits = false → x ∈ (killT T o.n).2.L
    unfold killT
    cases hg : ofL T.L o.n with
    | none => exact ⟨h, fun x hx _ => hx⟩
    | some z =>
      simp only
      split
      · rename_i hwz
        exact ⟨h.map (one_keeps (go_keeps _)), fun x hx hw => mem_one h hx (List.mem_of_find?_eq_some hg) (hne hw hwz) _⟩
      · exact ⟨h, fun x hx _ => hx⟩
  split
  · exact ⟨h.map keeps_tick, fun x hx hw => List.mem_map.2 ⟨x, hx, by simp [hw]⟩⟩
  split
  · show Ord (riseT T o.id).2 ∧ ∀ x ∈ T.L, x.waits = false → x ∈ (riseT T o.id).2.L
    unfold riseT
    split
    · exact ⟨h, fun x hx _ => hx⟩
    · exact ⟨Ord.map (T := { T with epoch := o.id }) h keeps_drop, fun x hx hw => List.mem_map.2 ⟨x, hx, by simp [hw]⟩⟩
  split
  · exact ⟨h.map keeps_drop, fun x hx hw => List.mem_map.2 ⟨x, hx, by simp [hw]⟩⟩
  exact ⟨h, fun x hx _ => hx⟩
theorem stand_play {T : Tb} (h : Ord T) (l : List Opn) (hl : ∀ o ∈ l, o.d ≠ 9) : ∀ i, Ord (playL T (l.take i)).2 ∧ ∀ x ∈ T.L, x.waits = false → x ∈ (playL T (l.take i)).2.L
  | 0 => ⟨h, fun x hx _ => hx⟩
  | i + 1 => by
    obtain ⟨h1, h2⟩ := stand_play h l hl i
    cases e : l[i]? with
    | none =>
      have hle : l.length ≤ i := by simpa using e
      rw [List.take_of_length_le (by omega)]
      rw [List.take_of_length_le hle] at h1 h2
      exact ⟨h1, h2⟩
    | some o =>
      rw [play_succ e]
      obtain ⟨h3, h4⟩ := stand_does h1 o (hl o (List.mem_of_getElem? e))
      exact ⟨h3, fun x hx hw => h4 x (h2 x hx hw) hw⟩
theorem Fine.ord {T : Tb} (h : Fine T) : Ord T := ⟨h.rise, fun x hx => (h.ids x hx).2⟩

/-- Those of the numbers 1 .. j that have ended. -/
def wasOf (T : Tb) (x : Int) : List Ent := match getL T.L x with | none => [] | some y => if y.waits then [] else [y]
def wasL (T : Tb) : Nat → List Ent
  | 0 => []
  | j + 1 => wasL T j ++ wasOf T ((j : Int) + 1)
theorem wasL_ok (T : Tb) : ∀ j, (wasL T j).Pairwise (fun x y => x.id < y.id) ∧ (wasL T j).length ≤ j ∧ ∀ y ∈ wasL T j, getL T.L y.id = some y ∧ y.waits = false ∧ y.id ≤ j
  | 0 => by simp [wasL]
  | j + 1 => by
    obtain ⟨h1, h2, h3⟩ := wasL_ok T j
    have hof : wasOf T ((j : Int) + 1) = [] ∨ ∃ y, wasOf T ((j : Int) + 1) = [y] ∧ getL T.L y.id = some y ∧ y.waits = false ∧ y.id = (j : Int) + 1 := by
      unfold wasOf
      cases hg : getL T.L ((j : Int) + 1) with
      | none => exact .inl rfl
      | some y =>
        simp only
        split
        · exact .inl rfl
        · rename_i hw
          have := (getL_mem hg).2
          exact .inr ⟨y, rfl, by rw [this]; exact hg, by simpa using hw, this⟩
    unfold wasL
    rcases hof with e | ⟨y, e, h4, h5, h6⟩
    · rw [e, List.append_nil]
      exact ⟨h1, by omega, fun y hy => by obtain ⟨a, b, c⟩ := h3 y hy; exact ⟨a, b, by push_cast; omega⟩⟩
    · rw [e]
      refine ⟨?_, by rw [List.length_append]; simp; omega, fun z hz => ?_⟩
      · rw [List.pairwise_append]
        exact ⟨h1, by simp, fun a ha b hb => by simp at hb; subst hb; have := (h3 a ha).2.2; omega⟩
      · rcases List.mem_append.1 hz with hz | hz
        · obtain ⟨a, b, c⟩ := h3 z hz; exact ⟨a, b, by push_cast; omega⟩
        · simp at hz; subst hz; exact ⟨h4, h5, by push_cast; omega⟩
def restL (M : List Opn) (j : Nat) : List Opn := (M.take j).filter (fun o => !(o.d == 9))
theorem restL_len (M : List Opn) (j : Nat) : (restL M j).length ≤ j := by
  unfold restL
  exact Nat.le_trans (List.length_filter_le _ _) (by simp; omega)
theorem restL_yes {M : List Opn} {j : Nat} {p : Opn} (h : M[j]? = some p) (hd : p.d ≠ 9) : restL M (j + 1) = restL M j ++ [p] := by
  unfold restL
  rw [List.take_add_one, h, List.filter_append]
  simp [hd]
theorem restL_no {M : List Opn} {j : Nat} {p : Opn} (h : M[j]? = some p) (hd : p.d = 9) : restL M (j + 1) = restL M j := by
  unfold restL
  rw [List.take_add_one, h, List.filter_append]
  simp [hd]
theorem restL_mem {M : List Opn} {j : Nat} {p : Opn} (h : p ∈ restL M j) : p ∈ M ∧ p.d ≠ 9 := by
  unfold restL at h
  obtain ⟨h1, h2⟩ := List.mem_filter.1 h
  exact ⟨List.mem_of_mem_take h1, by simpa using h2⟩

/-! ### rows of wider things -/
def rowE (ys : List Ent) : List Value := ys.flatMap (fun y => y.cells.toList)
def Opn.cells (p : Opn) : Array Value := #[.int .i64 p.d, .int .i64 p.n, .int .u64 p.id, .int .i64 p.k, .int .i64 p.v]
def rowO (ps : List Opn) : List Value := ps.flatMap (fun p => p.cells.toList)
theorem row_at {α : Type} {sz : Nat} {c : α → List Value} (hc : ∀ a, (c a).length = sz) : ∀ (ys : List α) (i j : Nat) (y : α), ys[i]? = some y → j < sz → (ys.flatMap c)[i * sz + j]? = (c y)[j]?
  | [], i, j, y, h, _ => by simp at h
  | a :: r, 0, j, y, h, hj => by
    simp at h; subst h
    rw [List.flatMap_cons, Nat.zero_mul, Nat.zero_add, List.getElem?_append_left (by rw [hc]; exact hj)]
  | a :: r, i + 1, j, y, h, hj => by
    rw [List.flatMap_cons, List.getElem?_append_right (by rw [hc, Nat.succ_mul]; omega), hc, show (i + 1) * sz + j - sz = i * sz + j by rw [Nat.succ_mul]; omega]
    exact row_at hc r i j y (by simpa using h) hj
theorem row_len {α : Type} {sz : Nat} {c : α → List Value} (hc : ∀ a, (c a).length = sz) (ys : List α) : (ys.flatMap c).length = ys.length * sz := by
  induction ys with
  | nil => simp
  | cons a r ih => rw [List.flatMap_cons, List.length_append, ih, hc, List.length_cons, Nat.succ_mul]; omega
theorem owns_cell {w : World} {b : Nat} {e : TypeId} {size n g : Nat} {A : Addr} {c : Nat} {xs : List Value} (h : w.ownsRow b e size (.slice (some A) n c) n xs) {k : Nat} {u : Value} (hk : xs[k]? = some u) : A.off = 0 ∧ A.spot = none ∧ w.cell? ⟨A.block, k, none⟩ = some u := by
  obtain ⟨hl, h2⟩ := h
  rcases h2 with ⟨h2, _⟩ | ⟨g', cap, cur, h3, h4, h5, h6, h7, h8, h9⟩
  · cases h2
  · injection h3 with h3 _ _
    injection h3 with h3
    subst h3
    refine ⟨rfl, rfl, ?_⟩
    unfold World.cell?
    rw [h5]
    show cur[k]? = some u
    rw [← h9] at hk
    rw [← Array.getElem?_toList]
    rw [List.getElem?_take] at hk
    split at hk
    · exact hk
    · cases hk
theorem ops_of_row {w : World} {b n : Nat} {A : Option Addr} {c : Nat} {L : List Opn} (h : w.ownsRow b 41 5 (.slice A n c) n (rowO L)) (hn : L.length = n) (hb : n ≤ 9223372036854775807) (hid : ∀ p ∈ L, 0 ≤ p.id ∧ p.id < 18446744073709551616) : OpsAt w (.slice A n c) L := by
  refine ⟨A, c, by rw [hn], by omega, fun h0 => ?_⟩
  cases A with
  | none =>
    exfalso
    obtain ⟨_, h2⟩ := h
    rcases h2 with ⟨_, h2⟩ | ⟨g', cap, cur, h3, _⟩
    · omega
    · cases h3
  | some A =>
    have key : ∀ (i : Nat) p, L[i]? = some p → ∀ j, j < 5 → ∀ u, p.cells.toList[j]? = some u → A.off = 0 ∧ A.spot = none ∧ w.cell? ⟨A.block, i * 5 + j, none⟩ = some u := fun i p hp j hj u hu =>
      owns_cell (g := 0) h (by rw [rowO, row_at (sz := 5) (fun a => rfl) L i j p hp hj]; exact hu)
    obtain ⟨p0, hp0⟩ : ∃ p, L[0]? = some p := ⟨_, List.getElem?_eq_getElem h0⟩
    obtain ⟨a1, a2, _⟩ := key 0 p0 hp0 0 (by omega) _ rfl
    obtain ⟨bl, off, sp⟩ := A
    simp only at a1 a2
    subst a1 a2
    refine ⟨bl, 0, rfl, fun i p hp => ?_⟩
    have h5 := hid p (List.mem_of_getElem? hp)
    rw [Nat.zero_add]
    exact ⟨(key i p hp 0 (by omega) _ rfl).2.2, (key i p hp 1 (by omega) _ rfl).2.2, (key i p hp 2 (by omega) _ rfl).2.2, (key i p hp 3 (by omega) _ rfl).2.2, (key i p hp 4 (by omega) _ rfl).2.2, h5⟩
theorem info37 : (Try.prog.info? 37).map (fun i => (i.zero, i.size, i.bytes)) = some (some (.agg #[.int .u64 0, .int .i64 0, .int .i64 0, .int .i64 0, .int .i64 0, .int .i64 0]), 6, 48) := by kernel_rfl
theorem info41 : (Try.prog.info? 41).map (fun i => (i.zero, i.size, i.bytes)) = some (some (.agg #[.int .i64 0, .int .i64 0, .int .u64 0, .int .i64 0, .int .i64 0]), 5, 40) := by kernel_rfl
theorem under24' : Try.prog.underlying 24 = some (.slice 41) := by kernel_rfl
theorem cells_new (w : World) (cs : Array Value) (t : TypeId) : ∀ j u, cs.toList[j]? = some u → (w.alloc (.cells cs t)).cell? ((⟨w.heap.size, 0, none⟩ : Addr).add j) = some u := by
  intro j u hj
  have : cs[j]? = some u := by rw [← Array.getElem?_toList]; exact hj
  have := new_cell w cs t j this
  rw [addr_add', Nat.zero_add]
  exact this
end Go.Proofs.Ytfknkkcpieaikaa
