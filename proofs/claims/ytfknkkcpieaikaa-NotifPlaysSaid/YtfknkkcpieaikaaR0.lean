/- The document's table, as the world holds it; its small functions. Condition: it can be read. -/
import Derived.Test.YtfknkkcpieaikaaSide
namespace Go.Proofs.Ytfknkkcpieaikaa
open Go.RowKit
set_option linter.unusedVariables false
set_option linter.unusedSimpArgs false

/-- The document's table T at block r, v its row. -/
structure RefAt (w : World) (r : Nat) (v : Value) (T : Tb) : Prop where
  q : w.heap[r]? = some (.cells #[v, .int .i64 T.size, .int .i64 T.wait, .int .u64 T.next, .int .u64 T.epoch] 56 (0, 0))
  row : w.ownsRow 0 37 6 v T.L.length (rowE T.L)
  ne : v.ownBlock ≠ some r
def ROwn (r : Nat) (v : Value) (k : Nat) : Prop := k = r ∨ v.ownBlock = some k
section
variable {w w' : World} {r : Nat} {v : Value} {T : Tb} {S : Nat → Prop}
theorem RefAt.lt (h : RefAt w r v T) : r < w.heap.size := (Array.getElem?_eq_some_iff.1 h.q).1
theorem RefAt.own_lt (h : RefAt w r v T) {k : Nat} (hk : ROwn r v k) : k < w.heap.size := by
  rcases hk with rfl | hk
  · exact h.lt
  · exact (Go.Proofs.Ytfknkkcpieaikaa.own_lt h.row hk).1
theorem RefAt.c0 (h : RefAt w r v T) : w.cell? ⟨r, 0, none⟩ = some v := by unfold World.cell?; rw [h.q]; rfl
theorem RefAt.c1 (h : RefAt w r v T) : w.cell? ⟨r, 1, none⟩ = some (.int .i64 T.size) := by unfold World.cell?; rw [h.q]; rfl
theorem RefAt.c2 (h : RefAt w r v T) : w.cell? ⟨r, 2, none⟩ = some (.int .i64 T.wait) := by unfold World.cell?; rw [h.q]; rfl
theorem RefAt.c3 (h : RefAt w r v T) : w.cell? ⟨r, 3, none⟩ = some (.int .u64 T.next) := by unfold World.cell?; rw [h.q]; rfl
theorem RefAt.c4 (h : RefAt w r v T) : w.cell? ⟨r, 4, none⟩ = some (.int .u64 T.epoch) := by unfold World.cell?; rw [h.q]; rfl
theorem RefAt.fz (h : RefAt w r v T) (o : Nat) : w.frozen? ⟨r, o, none⟩ = false := by have := h.q; simp [World.frozen?, this]
theorem RefAt.upto (h : RefAt w r v T) (hu : Upto S w w') (hS : ∀ k, ROwn r v k → ¬ S k) : RefAt w' r v T :=
  ⟨(hu.block r h.lt (hS r (.inl rfl))).trans h.q, own_kept h.row hu (fun k hk ho => hS k (.inr ho) hk), h.ne⟩
theorem RefAt.below (h : RefAt w r v T) (hb : Below w.heap.size w w') : RefAt w' r v T := h.upto (below_upto (S := F0) hb) (fun _ _ h => h)
end
/-- What a call leaves of it. -/
def RPost (r : Nat) (v : Value) (T' : Tb) (res : Value) (w : World) (e : Ending) (w' : World) : Prop :=
  e = .returned res ∧ ∃ v', RefAt w' r v' T' ∧ Upto (ROwn r v) w w' ∧ ∀ k, v'.ownBlock = some k → v.ownBlock = some k ∨ w.heap.size ≤ k

/-! ### one notification of the row turns -/
theorem flat_set {α : Type} {sz : Nat} {c : α → List Value} (hc : ∀ a, (c a).length = sz) {u : Value} : ∀ (ys : List α) (i j : Nat) (y y' : α), ys[i]? = some y → j < sz → c y' = (c y).set j u → (ys.set i y').flatMap c = (ys.flatMap c).set (i * sz + j) u
  | [], i, j, y, y', h, _, _ => by simp at h
  | a :: rr, 0, j, y, y', h, hj, e => by
    simp at h; subst h
    rw [List.set_cons_zero, List.flatMap_cons, List.flatMap_cons, Nat.zero_mul, Nat.zero_add, List.set_append_left _ _ (by rw [hc]; exact hj), e]
  | a :: rr, i + 1, j, y, y', h, hj, e => by
    rw [List.set_cons_succ, List.flatMap_cons, List.flatMap_cons, List.set_append_right _ _ (by rw [hc, Nat.succ_mul]; omega), hc, show (i + 1) * sz + j - sz = i * sz + j by rw [Nat.succ_mul]; omega]
    rw [flat_set hc rr i j y y' (by simpa using h) hj e]
theorem owns_set {w : World} {b : Nat} {e : TypeId} {size n g o c : Nat} {xs : List Value} {u : Value} (h : w.ownsRow b e size (.slice (some ⟨g, o, none⟩) n c) n xs) {k : Nat} (hk : k < n * size) : (w.setCell ⟨g, o + k, none⟩ u).ownsRow b e size (.slice (some ⟨g, o, none⟩) n c) n (xs.set k u) := by
  obtain ⟨hl, h2⟩ := h
  refine ⟨by rw [List.length_set]; exact hl, ?_⟩
  rcases h2 with ⟨h2, _⟩ | ⟨g', cap, cur, h3, h4, h5, h6, h7, h8, h9⟩
  · cases h2
  · injection h3 with h3 e2 e3
    injection h3 with h3
    injection h3 with a1 a2 a3
    subst a1 a2 e3
    rw [Nat.zero_add]
    refine .inr ⟨g, c, cur.setIfInBounds k u, rfl, h4, cells_set h5 u, h6, h7, by simpa using h8, ?_⟩
    rw [← h9, Array.toList_setIfInBounds, List.take_set]
theorem ent_set {w : World} {b n g o c : Nat} {L : List Ent} (h : w.ownsRow b 37 6 (.slice (some ⟨g, o, none⟩) n c) n (rowE L)) {i j : Nat} {y y' : Ent} {u : Value} (hy : L[i]? = some y) (hj : j < 6) (hc : y'.cells.toList = y.cells.toList.set j u) (hn : L.length = n) : (w.setCell ⟨g, o + i * 6 + j, none⟩ u).ownsRow b 37 6 (.slice (some ⟨g, o, none⟩) n c) n (rowE (L.set i y')) := by
  have hi := (List.getElem?_eq_some_iff.1 hy).1
  rw [rowE, flat_set (sz := 6) (fun a => rfl) L i j y y' hy hj hc, Nat.add_assoc]
  exact owns_set h (by omega)
theorem own_fz {w : World} {b n g o c : Nat} {e : TypeId} {sz : Nat} {xs : List Value} (h : w.ownsRow b e sz (.slice (some ⟨g, o, none⟩) n c) n xs) (k : Nat) : w.frozen? ⟨g, k, none⟩ = false := by
  obtain ⟨hl, h2⟩ := h
  rcases h2 with ⟨h2, _⟩ | ⟨g', cap, cur, h3, h4, h5, h6, h7, h8, h9⟩
  · cases h2
  · injection h3 with h3 e2 e3
    injection h3 with h3
    injection h3 with a1 a2 a3
    subst a1
    simp [World.frozen?, h5]
theorem one_set {L : List Ent} (hr : L.Pairwise (fun x y => x.id < y.id)) {i : Nat} {x : Ent} (hi : L[i]? = some x) (g : Ent → Ent) : L.map (one x.id g) = L.set i (g x) := by
  apply List.ext_getElem?
  intro j
  rw [List.getElem?_map, List.getElem?_set]
  by_cases e : i = j
  · subst e
    rw [if_pos rfl, if_pos (List.getElem?_eq_some_iff.1 hi).1, hi]
    simp [one]
  · rw [if_neg e]
    cases hj : L[j]? with
    | none => rfl
    | some y =>
      have : y.id ≠ x.id := fun h => by
        have hi' := List.getElem?_eq_some_iff.1 hi
        have hj' := List.getElem?_eq_some_iff.1 hj
        rcases Nat.lt_or_ge i j with hlt | hge
        · have := List.pairwise_iff_getElem.1 hr i j hi'.1 hj'.1 hlt
          rw [hi'.2, hj'.2] at this; omega
        · have := List.pairwise_iff_getElem.1 hr j i hj'.1 hi'.1 (by omega)
          rw [hi'.2, hj'.2] at this; omega
      simp [one, this]
theorem find_drop {L : List Ent} {i : Nat} {x : Ent} (h : L[i]? = some x) (p : Ent → Bool) : (L.drop i).find? p = if p x then some x else (L.drop (i + 1)).find? p := by
  obtain ⟨h1, h2⟩ := List.getElem?_eq_some_iff.1 h
  rw [List.drop_eq_getElem_cons h1, List.find?_cons, h2]
  cases p x <;> rfl

/-! ### waits, at -/
set_option maxRecDepth 100000 in
theorem rwaits_any (x : Ent) (w : World) : Calls Try.prog 43 #[entV x] w (Ret (.bool x.waits) w) := by
  obtain ⟨id, task, st, left, kind, val⟩ := x
  have r2 := new_cell w #[.int .u64 id, .int .i64 task, .int .i64 st, .int .i64 left, .int .i64 kind, .int .i64 val] 37 2 rfl
  unfold entV Ent.cells Ent.waits
  simp only
  by_cases h1 : st = 1
  · subst h1
    go_enter Try.func43, Try.ntmps43
    go_wp2
    go_ret
    exact ⟨rfl, below_alloc _ _⟩
  · have h1E : (st == 1) = false := by simpa using h1
    rw [h1E]
    clear h1
    by_cases h2 : st = 2
    · subst h2
      go_enter Try.func43, Try.ntmps43
      go_wp2
      go_ret
      exact ⟨rfl, below_alloc _ _⟩
    · have h2E : (st == 2) = false := by simpa using h2
      rw [h2E]
      clear h2
      go_enter Try.func43, Try.ntmps43
      go_wp2
      go_ret
      exact ⟨rfl, below_alloc _ _⟩
def AtPost (T : Tb) (id : Int) (w : World) (e : Ending) (w' : World) : Prop :=
  w = w' ∧ ((getL T.L id = none ∧ e = .returned (.int .i64 (-1))) ∨ ∃ i : Nat, ∃ x, T.L[i]? = some x ∧ getL T.L id = some x ∧ e = .returned (.int .i64 i))
set_option maxRecDepth 100000 in
theorem at_any (r : Nat) (v : Value) (T : Tb) (id : Int) (w : World) (h : RefAt w r v T) (hl : T.L.length ≤ 8) : Calls Try.prog 41 #[.pointer (some ⟨r, 0, none⟩), .int .u64 id] w (AtPost T id w) := by
  have cL := h.c0
  obtain ⟨A, c, rfl⟩ := owns_form h.row
  have hent := fun h0 => ents_at h.row rfl h0
  obtain ⟨n, hn⟩ : ∃ n, T.L.length = n := ⟨_, rfl⟩
  rw [hn] at cL hl hent
  have Hn := Lib.hid hn
  have Hent := Lib.hid hent
  clear h hent hn
  go_enter Try.func41, Try.ntmps41
  go_wp2
  go_loopw [5] (fun iv wr => ∃ i : Nat, i ≤ n ∧ iv = .int .i64 i ∧ wr = w ∧ getL T.L id = (T.L.drop i).find? (fun x => x.id == id)) (fun iv _ => n - (intOf iv).toNat)
  case atStart => exact ⟨0, Nat.zero_le _, rfl, rfl, rfl⟩
  case round =>
    obtain ⟨i, hi, rfl, rfl, hf⟩ := hrel
    by_cases hlt : i < n
    · have hlt' : (i : Int) < n := by omega
      obtain ⟨g, o, rfl, hcl⟩ := Hent.out (by omega)
      obtain ⟨x, hx⟩ : ∃ x, T.L[i]? = some x := ⟨_, List.getElem?_eq_getElem (by rw [Hn.out]; exact hlt)⟩
      obtain ⟨d0, _⟩ := hcl i x hx
      rw [find_drop hx] at hf
      have Hx := Lib.hid hx
      by_cases he : x.id = id
      · rw [he] at d0
        rw [if_pos (by simpa using he)] at hf
        have Hf := Lib.hid hf
        clear hf hcl hx
        have hE : (id == id) = true := by simp
        go_wp2
        go_ret
        exact ⟨rfl, .inr ⟨i, x, Hx.out, Hf.out, rfl⟩⟩
      · have heE : (x.id == id) = false := by simpa using he
        rw [if_neg (by simpa using he)] at hf
        have Hf := Lib.hid hf
        obtain ⟨xi, hxi⟩ : ∃ xi, x.id = xi := ⟨_, rfl⟩
        rw [hxi] at d0 heE
        clear hf hcl hx he
        go_wp2
        go_roundw
        case rel => exact ⟨i + 1, by omega, by go_num, trivial, Hf.out⟩
        case measure => (simp [intOf] <;> omega)
    · obtain rfl : i = n := by omega
      rw [List.drop_of_length_le (by rw [Hn.out]; exact Nat.le_refl _)] at hf
      have Hf := Lib.hid hf
      clear hf
      go_wp2
      go_ret
      exact ⟨rfl, .inl ⟨Hf.out, rfl⟩⟩
/-! ### gone -/
end Go.Proofs.Ytfknkkcpieaikaa
