/- Plain laws of the document's timers: what Stop, Set and Tick make of the two lists, and the map that says the same. No conditions. -/
import Derived.Test.YtocfklnoklmocaaTick
import Derived.Test.YtocfklnoklmocaaRef
namespace Go.Proofs.Ytocfklnoklmocaa
open Go.RowKit
set_option linter.unusedVariables false
set_option linter.unusedSimpArgs false

def rm {α : Type} (l : List α) (i : Nat) : List α := l.take i ++ l.drop (i + 1)
theorem rm_eq {α : Type} (l : List α) (i : Nat) : rm l i = l.eraseIdx i := (List.eraseIdx_eq_take_drop_succ l i).symm
theorem rm_at {α : Type} (l : List α) (i j : Nat) : (rm l i)[j]? = if j < i then l[j]? else l[j + 1]? := by
  rw [rm_eq, List.getElem?_eraseIdx]
theorem rm_len {α : Type} (l : List α) {i : Nat} (h : i < l.length) : (rm l i).length + 1 = l.length := by
  unfold rm
  rw [List.length_append, List.length_take, List.length_drop]
  omega
/-- The two lists say what f says. -/
structure Rel (f : Int → Option Int) (ids lefts : List Int) : Prop where
  nd : ids.Nodup
  len : ids.length = lefts.length
  val : ∀ (i : Nat) (x c : Int), ids[i]? = some x → lefts[i]? = some c → f x = some c
  out : ∀ x, x ∉ ids → f x = none
theorem Rel.nil : Rel (fun _ => none) [] [] := ⟨List.nodup_nil, rfl, fun i x c h => by simp at h, fun _ _ => rfl⟩
theorem nd_inj {ids : List Int} (h : ids.Nodup) {i j : Nat} {x : Int} (hi : ids[i]? = some x) (hj : ids[j]? = some x) : i = j := by
  obtain ⟨h1, e1⟩ := List.getElem?_eq_some_iff.1 hi
  obtain ⟨h2, e2⟩ := List.getElem?_eq_some_iff.1 hj
  rcases Nat.lt_trichotomy i j with hl | hl | hl
  · exact absurd (e1.trans e2.symm) ((List.pairwise_iff_getElem.1 h) i j h1 h2 hl)
  · exact hl
  · exact absurd (e2.trans e1.symm) ((List.pairwise_iff_getElem.1 h) j i h2 h1 hl)
theorem rm_mem {ids : List Int} (h : ids.Nodup) {i : Nat} {x y : Int} (hi : ids[i]? = some x) : y ∈ rm ids i ↔ (y ∈ ids ∧ y ≠ x) := by
  constructor
  · intro hy
    obtain ⟨j, hj⟩ := List.getElem?_of_mem hy
    rw [rm_at] at hj
    split at hj
    · rename_i hl
      exact ⟨List.mem_of_getElem? hj, fun e => by subst e; have := nd_inj h hi hj; omega⟩
    · exact ⟨List.mem_of_getElem? hj, fun e => by subst e; have := nd_inj h hi hj; omega⟩
  · rintro ⟨hy, hne⟩
    obtain ⟨j, hj⟩ := List.getElem?_of_mem hy
    have hji : j ≠ i := fun e => by subst e; rw [hi] at hj; cases hj; exact hne rfl
    rcases Nat.lt_or_gt_of_ne hji with hl | hl
    · exact List.mem_of_getElem? (i := j) (by rw [rm_at, if_pos hl]; exact hj)
    · exact List.mem_of_getElem? (i := j - 1) (by rw [rm_at, if_neg (by omega), show j - 1 + 1 = j by omega]; exact hj)
section
variable {f : Int → Option Int} {ids lefts : List Int}
theorem Rel.rm (h : Rel f ids lefts) {i : Nat} {x : Int} (hi : ids[i]? = some x) : Rel (del f x) (Ytocfklnoklmocaa.rm ids i) (Ytocfklnoklmocaa.rm lefts i) := by
  have hil := (List.getElem?_eq_some_iff.1 hi).1
  refine ⟨?_, ?_, fun j y c h1 h2 => ?_, fun y hy => ?_⟩
  · rw [rm_eq]; exact h.nd.sublist (List.eraseIdx_sublist _ _)
  · have a := rm_len ids hil
    have b := rm_len lefts (by rw [← h.len]; exact hil)
    have := h.len
    omega
  · have hy : y ∈ Ytocfklnoklmocaa.rm ids i := List.mem_of_getElem? h1
    have hne := ((rm_mem h.nd hi).1 hy).2
    unfold del
    rw [if_neg hne]
    rw [rm_at] at h1 h2
    split at h1
    · rename_i hl
      rw [if_pos hl] at h2
      exact h.val _ _ _ h1 h2
    · rename_i hl
      rw [if_neg hl] at h2
      exact h.val _ _ _ h1 h2
  · unfold del
    by_cases e : y = x
    · rw [if_pos e]
    · rw [if_neg e]
      exact h.out y (fun hm => hy ((rm_mem h.nd hi).2 ⟨hm, e⟩))
theorem Rel.rm_none (h : Rel f ids lefts) {x : Int} (hx : x ∉ ids) : Rel (del f x) ids lefts := by
  have e : del f x = f := by
    funext y
    unfold del
    by_cases e : y = x
    · rw [if_pos e, e, h.out x hx]
    · rw [if_neg e]
  rw [e]; exact h
theorem Rel.push (h : Rel f ids lefts) {x : Int} (hx : x ∉ ids) (e : Int) : Rel (upd f x e) (ids ++ [x]) (lefts ++ [e]) := by
  refine ⟨?_, by simp [h.len], fun j y c h1 h2 => ?_, fun y hy => ?_⟩
  · rw [List.nodup_append]
    exact ⟨h.nd, by simp, fun a ha b hb => by
      intro e
      rw [List.mem_singleton] at hb
      exact hx (hb ▸ e ▸ ha)⟩
  · unfold upd
    rcases Nat.lt_or_ge j ids.length with hl | hl
    · rw [List.getElem?_append_left hl] at h1
      rw [List.getElem?_append_left (by rw [← h.len]; exact hl)] at h2
      rw [if_neg (show ¬ y = x from fun e => hx (by rw [← e]; exact List.mem_of_getElem? h1))]
      exact h.val _ _ _ h1 h2
    · have hj : j = ids.length := by
        have := (List.getElem?_eq_some_iff.1 h1).1
        simp at this; omega
      subst hj
      rw [List.getElem?_concat_length] at h1
      rw [h.len, List.getElem?_concat_length] at h2
      cases h1
      cases h2
      rw [if_pos rfl]
  · unfold upd
    have hy' : y ∉ ids ∧ y ≠ x := by simpa using hy
    rw [if_neg hy'.2]
    exact h.out y hy'.1
theorem upd_del (f : Int → Option Int) (x e : Int) : upd (del f x) x e = upd f x e := by
  funext y
  unfold upd del
  split <;> rfl
def tk (e c : Int) : Int := if c = 1 then e else c - 1
theorem Rel.tick (h : Rel f ids lefts) (e : Int) : Rel (tickF e f) ids (lefts.map (tk e)) := by
  refine ⟨h.nd, by simp [h.len], fun j y c h1 h2 => ?_, fun y hy => ?_⟩
  · rw [List.getElem?_map] at h2
    obtain ⟨d, hd, rfl⟩ := Option.map_eq_some_iff.1 h2
    unfold tickF
    rw [h.val j y d h1 hd]
    rfl
  · unfold tickF
    rw [h.out y hy]
    rfl
/-- Which go off. -/
def offs (ids lefts : List Int) : List Int := ((ids.zip lefts).filter (fun p => p.2 == 1)).map (·.1)
theorem offs_mem (h : Rel f ids lefts) (x : Int) : x ∈ offs ids lefts ↔ ∃ c, f x = some c ∧ (c == 1) = true := by
  unfold offs
  constructor
  · intro hx
    obtain ⟨p, hp, rfl⟩ := List.mem_map.1 hx
    obtain ⟨hp, h1⟩ := List.mem_filter.1 hp
    obtain ⟨j, hj⟩ := List.getElem?_of_mem hp
    obtain ⟨a, b⟩ := List.getElem?_zip_eq_some.1 hj
    exact ⟨p.2, h.val j _ _ a b, h1⟩
  · rintro ⟨c, hc, h1⟩
    have hx : x ∈ ids := Classical.byContradiction fun hn => by rw [h.out x hn] at hc; cases hc
    obtain ⟨j, hj⟩ := List.getElem?_of_mem hx
    have hjl := (List.getElem?_eq_some_iff.1 hj).1
    obtain ⟨d, hd⟩ : ∃ d, lefts[j]? = some d := ⟨_, List.getElem?_eq_getElem (by rw [← h.len]; exact hjl)⟩
    have := h.val j x d hj hd
    rw [hc] at this
    cases this
    exact List.mem_map.2 ⟨(x, c), List.mem_filter.2 ⟨List.mem_of_getElem? (List.getElem?_zip_eq_some.2 ⟨hj, hd⟩), h1⟩, rfl⟩
theorem offs_nd (h : Rel f ids lefts) : (offs ids lefts).Nodup := by
  unfold offs
  have h1 : (((ids.zip lefts).filter (fun p => p.2 == 1)).map (·.1)).Sublist ((ids.zip lefts).map (·.1)) := List.Sublist.map _ List.filter_sublist
  rw [List.map_fst_zip (Nat.le_of_eq h.len)] at h1
  exact h.nd.sublist h1
theorem ids_mem (h : Rel f ids lefts) (x : Int) : x ∈ ids ↔ ∃ c, f x = some c ∧ true = true := by
  constructor
  · intro hx
    obtain ⟨j, hj⟩ := List.getElem?_of_mem hx
    have hjl := (List.getElem?_eq_some_iff.1 hj).1
    obtain ⟨d, hd⟩ : ∃ d, lefts[j]? = some d := ⟨_, List.getElem?_eq_getElem (by rw [← h.len]; exact hjl)⟩
    exact ⟨d, h.val j x d hj hd, rfl⟩
  · rintro ⟨c, hc, _⟩
    exact Classical.byContradiction fun hn => by rw [h.out x hn] at hc; cases hc
end
/-! ### rising -/
def atOf (x : Int) (o : List Int) : Nat := (o.takeWhile (fun y => decide (y < x))).length
def ins (x : Int) (o : List Int) : List Int := o.take (atOf x o) ++ [x] ++ o.drop (atOf x o)
def riseL (l : List Int) : List Int := l.foldl (fun o x => ins x o) []
theorem atOf_le (x : Int) (o : List Int) : atOf x o ≤ o.length := List.Sublist.length_le (List.takeWhile_sublist _)
theorem ins_len (x : Int) (o : List Int) : (ins x o).length = o.length + 1 := by
  have := atOf_le x o
  unfold ins
  simp
  omega
theorem ins_mem (x : Int) (o : List Int) (y : Int) : y ∈ ins x o ↔ y = x ∨ y ∈ o := by
  have h : y ∈ o ↔ y ∈ o.take (atOf x o) ∨ y ∈ o.drop (atOf x o) := by rw [← List.mem_append, List.take_append_drop]
  unfold ins
  rw [h]
  simp
  constructor
  · rintro (h | h | h)
    · exact .inr (.inl h)
    · exact .inl h
    · exact .inr (.inr h)
  · rintro (h | h | h)
    · exact .inr (.inl h)
    · exact .inl h
    · exact .inr (.inr h)
theorem atOf_lt {x : Int} {o : List Int} {j : Nat} {y : Int} (h : j < atOf x o) (hj : o[j]? = some y) : y < x := by
  induction o generalizing j with
  | nil => simp at hj
  | cons a r ih =>
    unfold atOf at h ih
    rw [List.takeWhile_cons] at h
    split at h
    · rename_i ha
      cases j with
      | zero => simp at hj; subst hj; simpa using ha
      | succ j => exact ih (by simpa using h) (by simpa using hj)
    · simp at h
theorem atOf_at {x : Int} {o : List Int} {y : Int} (hj : o[atOf x o]? = some y) : x ≤ y := by
  induction o with
  | nil => simp at hj
  | cons a r ih =>
    unfold atOf at hj ih
    rw [List.takeWhile_cons] at hj
    split at hj
    · rename_i ha
      exact ih (by simpa using hj)
    · rename_i ha
      simp at hj ha
      omega
theorem ins_sorted {x : Int} {o : List Int} (h : o.Pairwise (· < ·)) (hx : x ∉ o) : (ins x o).Pairwise (· < ·) := by
  have hd : ∀ y ∈ o.drop (atOf x o), x < y := by
    intro y hy
    obtain ⟨j, hj⟩ := List.getElem?_of_mem hy
    rw [List.getElem?_drop] at hj
    have hl := (List.getElem?_eq_some_iff.1 hj).1
    obtain ⟨z, hz⟩ : ∃ z, o[atOf x o]? = some z := ⟨_, List.getElem?_eq_getElem (by omega)⟩
    have hxz := atOf_at hz
    have hne : y ≠ x := fun e => hx (e ▸ List.mem_of_getElem? hj)
    cases j with
    | zero =>
      rw [Nat.add_zero] at hj
      rw [hz] at hj
      cases hj
      omega
    | succ j =>
      obtain ⟨a1, a2⟩ := List.getElem?_eq_some_iff.1 hz
      obtain ⟨b1, b2⟩ := List.getElem?_eq_some_iff.1 hj
      have := (List.pairwise_iff_getElem.1 h) _ _ a1 b1 (by omega)
      omega
  have ht : ∀ y ∈ o.take (atOf x o), y < x := by
    intro y hy
    obtain ⟨j, hj⟩ := List.getElem?_of_mem hy
    have hl : j < atOf x o := by have := (List.getElem?_eq_some_iff.1 hj).1; simp at this; omega
    rw [List.getElem?_take_of_lt hl] at hj
    exact atOf_lt hl hj
  unfold ins
  rw [List.append_assoc, List.pairwise_append]
  refine ⟨h.sublist (List.take_sublist _ _), ?_, ?_⟩
  · simp
    exact ⟨hd, h.sublist (List.drop_sublist _ _)⟩
  · intro a ha b hb
    have h1 := ht a ha
    rcases List.mem_append.1 hb with hb | hb
    · simp at hb; omega
    · have := hd b hb; omega
theorem riseL_snoc (l : List Int) (x : Int) : riseL (l ++ [x]) = ins x (riseL l) := by simp [riseL]
theorem riseL_take {l : List Int} {i : Nat} {x : Int} (h : l[i]? = some x) : riseL (l.take (i + 1)) = ins x (riseL (l.take i)) := by
  rw [List.take_add_one, h]
  exact riseL_snoc _ _
theorem riseL_take_len {l : List Int} : ∀ {i : Nat}, i ≤ l.length → (riseL (l.take i)).length = i
  | 0, _ => rfl
  | i + 1, h => by
    have hx : l[i]? = some l[i] := List.getElem?_eq_getElem (by omega)
    rw [riseL_take hx, ins_len, riseL_take_len (by omega)]
theorem riseL_take_mem {l : List Int} (y : Int) : ∀ {i : Nat}, i ≤ l.length → (y ∈ riseL (l.take i) ↔ y ∈ l.take i)
  | 0, _ => by simp [riseL]
  | i + 1, h => by
    have hx : l[i]? = some l[i] := List.getElem?_eq_getElem (by omega)
    rw [riseL_take hx, ins_mem, riseL_take_mem y (by omega), List.take_add_one, hx, List.mem_append, or_comm]
    show (_ ∨ _) ↔ (_ ∨ y ∈ [l[i]])
    rw [List.mem_singleton]
theorem riseL_take_sorted {l : List Int} (hn : l.Nodup) : ∀ {i : Nat}, i ≤ l.length → (riseL (l.take i)).Pairwise (· < ·)
  | 0, _ => by simp [riseL]
  | i + 1, h => by
    have hx : l[i]? = some l[i] := List.getElem?_eq_getElem (by omega)
    rw [riseL_take hx]
    refine ins_sorted (riseL_take_sorted hn (by omega)) ?_
    rw [riseL_take_mem _ (by omega)]
    intro hm
    obtain ⟨j, hj⟩ := List.getElem?_of_mem hm
    have hl : j < i := by have := (List.getElem?_eq_some_iff.1 hj).1; simp at this; omega
    rw [List.getElem?_take_of_lt hl] at hj
    have := nd_inj hn hj hx
    omega
theorem riseL_all {l : List Int} (hn : l.Nodup) : (riseL l).Pairwise (· < ·) ∧ ∀ y, y ∈ riseL l ↔ y ∈ l := by
  have e := List.take_of_length_le (Nat.le_refl l.length)
  have h1 := riseL_take_sorted hn (Nat.le_refl _)
  rw [e] at h1
  refine ⟨h1, fun y => ?_⟩
  have h2 := riseL_take_mem (l := l) y (Nat.le_refl _)
  rwa [e] at h2
end Go.Proofs.Ytocfklnoklmocaa
