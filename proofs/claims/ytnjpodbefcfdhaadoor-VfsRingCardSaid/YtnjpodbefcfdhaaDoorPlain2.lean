/- Paths, plainly: a clean path's names are its own; a name more. No conditions. -/
import Derived.Test.YtnjpodbefcfdhaaDoorRefLeft
namespace Go.Proofs.YtnjpodbefcfdhaaDoor
open Go.RowKit
set_option linter.unusedVariables false
set_option linter.unusedSimpArgs false

def GoodN (n : List UInt8) : Prop := n ≠ [] ∧ n ≠ [46] ∧ n ≠ [46, 46] ∧ (∀ b ∈ n, b ≠ 47) ∧ (∀ b ∈ n, b ≠ 0)
def Good (ns : List (List UInt8)) : Prop := ∀ n ∈ ns, GoodN n

theorem split_slash : ∀ (l : List UInt8), (∀ b ∈ l, b ≠ 47) ∨ ∃ p r, l = p ++ 47 :: r ∧ (∀ b ∈ p, b ≠ 47)
  | [] => .inl (by simp)
  | b :: l => by
    by_cases hb : b = 47
    · exact .inr ⟨[], l, by rw [hb]; rfl, by simp⟩
    · rcases split_slash l with h | ⟨p, r, rfl, hp⟩
      · exact .inl (by intro c hc; rcases List.mem_cons.1 hc with rfl | h2; exact hb; exact h c h2)
      · exact .inr ⟨b :: p, r, rfl, by intro c hc; rcases List.mem_cons.1 hc with rfl | h2; exact hb; exact hp c h2⟩
/-- Every piece has no slash and is made of the path's bytes. -/
theorem pieces_mem : ∀ (k : Nat) (l : List UInt8), l.length ≤ k → ∀ n ∈ pieces l, (∀ b ∈ n, b ≠ 47) ∧ (∀ b ∈ n, b ∈ l)
  | k, l, h, n, hn => by
    rcases split_slash l with hs | ⟨p, r, rfl, hp⟩
    · rw [pieces_one l hs] at hn
      obtain rfl : n = l := by simpa using hn
      exact ⟨hs, fun b hb => hb⟩
    · rw [pieces_cut p r hp] at hn
      rcases List.mem_cons.1 hn with rfl | h2
      · exact ⟨hp, fun b hb => List.mem_append_left _ hb⟩
      · match k, h with
        | 0, h => simp at h
        | k + 1, h =>
          have := pieces_mem k r (by simp at h; omega) n h2
          exact ⟨this.1, fun b hb => List.mem_append_right _ (List.mem_cons_of_mem _ (this.2 b hb))⟩
theorem pieces_append (k : Nat) : ∀ (a b : List UInt8), a.length ≤ k → pieces (a ++ 47 :: b) = pieces a ++ pieces b := by
  induction k with
  | zero =>
    intro a b h
    obtain rfl : a = [] := List.length_eq_zero_iff.1 (by omega)
    rw [pieces_cut [] b (by simp), pieces_one [] (by simp)]; rfl
  | succ k ih =>
    intro a b h
    rcases split_slash a with hs | ⟨p, r, rfl, hp⟩
    · rw [pieces_cut a b hs, pieces_one a hs]; rfl
    · rw [List.append_assoc, List.cons_append, pieces_cut p (r ++ 47 :: b) hp, pieces_cut p r hp, ih r b (by simp at h; omega)]; rfl
theorem right_iff (l : List UInt8) : rightB l = true ↔ (∃ l', l = 47 :: l') ∧ l.length ≤ 256 ∧ (∀ b ∈ l, b ≠ 0) := by
  unfold rightB
  simp only [Bool.and_eq_true, decide_eq_true_eq]
  have hz : Lib.indexByte l 0 < 0 ↔ ∀ b ∈ l, b ≠ 0 := by
    constructor
    · intro h b hb hb0
      subst hb0
      obtain ⟨i, hi⟩ := List.getElem?_of_mem hb
      have := idx_yes (l := l) (k := i) hi
      omega
    · intro h
      have := idx_no (l := l) (fun i hi => by
        intro h2
        exact h _ (List.mem_of_getElem? h2) rfl)
      omega
  have hp : Lib.hasPrefix l [47] = true ↔ ∃ l', l = 47 :: l' := by
    rw [pre47]
    cases l with
    | nil => simp
    | cons b l => simp
  rw [hz, hp]
  constructor
  · rintro ⟨h1, h2, h3⟩; exact ⟨h1, by omega, h3⟩
  · rintro ⟨h1, h2, h3⟩; exact ⟨h1, by omega, h3⟩
theorem good_step {o : List (List UInt8)} (ho : Good o) {n : List UInt8} (hn : n ≠ [46, 46] → GoodN n) : Good (stepL o n) := by
  unfold stepL
  by_cases h : n = [46, 46]
  · rw [if_pos h]
    exact fun m hm => ho m (List.mem_of_mem_take hm)
  · rw [if_neg h]
    intro m hm
    rcases List.mem_append.1 hm with h1 | h1
    · exact ho m h1
    · obtain rfl : m = n := by simpa using h1
      exact hn h
theorem good_foldl : ∀ (l o : List (List UInt8)), Good o → (∀ n ∈ l, n ≠ [46, 46] → GoodN n) → Good (l.foldl stepL o)
  | [], o, ho, h => ho
  | n :: l, o, ho, h => good_foldl l (stepL o n) (good_step ho (h n (by simp))) (fun m hm => h m (by simp [hm]))
theorem names_good {l : List UInt8} (hr : rightB l = true) : ∀ n ∈ namesL l, n ≠ [46, 46] → GoodN n := by
  intro n hn hd
  obtain ⟨⟨l', rfl⟩, hlen, hz⟩ := (right_iff l).1 hr
  rw [names_cons hr] at hn
  obtain ⟨h1, h2⟩ := List.mem_filter.1 hn
  have h3 := pieces_mem _ l' (Nat.le_refl _) n h1
  unfold nameB at h2
  simp at h2
  exact ⟨h2.1, h2.2, hd, h3.1, fun b hb => hz b (List.mem_cons_of_mem _ (h3.2 b hb))⟩
theorem left_good (l : List UInt8) : Good (leftL (namesL l)) := by
  by_cases hr : rightB l = true
  · exact good_foldl _ [] (fun n hn => by simp at hn) (names_good hr)
  · unfold namesL; rw [if_neg hr]
    intro n hn
    simp [leftL] at hn
theorem foldl_good : ∀ (l o : List (List UInt8)), Good l → l.foldl stepL o = o ++ l
  | [], o, h => by simp
  | n :: l, o, h => by
    have hn := h n (by simp)
    rw [List.foldl_cons, show stepL o n = o ++ [n] from by unfold stepL; rw [if_neg hn.2.2.1], foldl_good l _ (fun m hm => h m (by simp [hm]))]
    simp
theorem leftL_good {l : List (List UInt8)} (h : Good l) : leftL l = l := by unfold leftL; rw [foldl_good l [] h]; rfl
theorem nameB_good {n : List UInt8} (h : GoodN n) : nameB n = true := by
  have h1 := h.1; have h2 := h.2.1
  simp [nameB, h1, h2]
theorem pieces_flat : ∀ (t : List (List UInt8)) (n : List UInt8), Good (n :: t) → (pieces (n ++ flatL t)).filter nameB = n :: t
  | [], n, h => by
    have hn := h n (by simp)
    rw [show flatL [] = [] from rfl, List.append_nil, pieces_one n hn.2.2.2.1, List.filter_cons, if_pos (nameB_good hn)]; rfl
  | m :: t, n, h => by
    have hn := h n (by simp)
    have ih := pieces_flat t m (fun x hx => h x (by simp at hx ⊢; exact .inr hx))
    rw [show flatL (m :: t) = 47 :: (m ++ flatL t) from by simp [flatL], pieces_cut n _ hn.2.2.2.1, List.filter_cons, if_pos (nameB_good hn), ih]
theorem flat_cons (n : List UInt8) (t : List (List UInt8)) : flatL (n :: t) = 47 :: (n ++ flatL t) := by simp [flatL]
theorem join_cons (n : List UInt8) (t : List (List UInt8)) : joinL (n :: t) = 47 :: (n ++ flatL t) := by
  unfold joinL; rw [if_neg (by simp), flat_cons]
theorem flat_zero : ∀ {ns : List (List UInt8)}, Good ns → ∀ b ∈ flatL ns, b ≠ 0
  | [], h, b, hb => by simp [flatL] at hb
  | n :: t, h, b, hb => by
    rw [flat_cons] at hb
    rcases List.mem_cons.1 hb with rfl | h1
    · decide
    · rcases List.mem_append.1 h1 with h2 | h2
      · exact (h n (by simp)).2.2.2.2 b h2
      · exact flat_zero (fun x hx => h x (by simp [hx])) b h2
theorem join_len (ns : List (List UInt8)) : (joinL ns).length = if ns = [] then 1 else total ns := by
  unfold joinL; split <;> rfl
theorem right_join {ns : List (List UInt8)} (h : Good ns) (ht : total ns ≤ 256) : rightB (joinL ns) = true := by
  rw [right_iff]
  cases ns with
  | nil => exact ⟨⟨[], rfl⟩, by decide, by decide⟩
  | cons n t =>
    refine ⟨⟨_, join_cons n t⟩, by rw [join_len, if_neg (by simp)]; exact ht, ?_⟩
    rw [join_cons, ← flat_cons]
    exact flat_zero h
theorem names_join {ns : List (List UInt8)} (h : Good ns) (ht : total ns ≤ 256) : namesL (joinL ns) = ns := by
  have hr := right_join h ht
  cases ns with
  | nil =>
    rw [show joinL [] = 47 :: [] from rfl] at hr ⊢
    rw [names_cons hr, pieces_one [] (by simp)]; rfl
  | cons n t =>
    rw [join_cons] at hr ⊢
    rw [names_cons hr, pieces_flat t n h]
theorem left_join {ns : List (List UInt8)} (h : Good ns) (ht : total ns ≤ 256) : leftL (namesL (joinL ns)) = ns := by rw [names_join h ht, leftL_good h]
theorem total_left_right {l : List UInt8} (hr : rightB l = true) : total (leftL (namesL l)) ≤ l.length := by
  obtain ⟨⟨l', rfl⟩, hlen, hz⟩ := (right_iff l).1 hr
  have h1 := total_left (namesL (47 :: l')) []
  rw [show total [] = 0 from rfl] at h1
  have h2 : total (namesL (47 :: l')) ≤ l'.length + 1 := by
    rw [names_cons hr]
    exact Nat.le_trans (total_filter _ _) (total_pieces _ l' (Nat.le_refl _))
  unfold leftL
  simp; omega
theorem total_left_256 (l : List UInt8) : total (leftL (namesL l)) ≤ 256 := by
  by_cases hr : rightB l = true
  · have := total_left_right hr
    have := right_len hr
    omega
  · unfold namesL; rw [if_neg hr]; decide
theorem good_take {ns : List (List UInt8)} (h : Good ns) (k : Nat) : Good (ns.take k) := fun n hn => h n (List.mem_of_mem_take hn)
/-- Up's own: it is a path, and its names are all but the last. -/
theorem right_up (l : List UInt8) : rightB (upL l) = true :=
  right_join (good_take (left_good l) _) (Nat.le_trans (total_take _ _) (total_left_256 l))
theorem left_up (l : List UInt8) : leftL (namesL (upL l)) = (leftL (namesL l)).take ((leftL (namesL l)).length - 1) :=
  left_join (good_take (left_good l) _) (Nat.le_trans (total_take _ _) (total_left_256 l))
theorem right_clean (l : List UInt8) : rightB (cleanL l) = true := right_join (left_good l) (total_left_256 l)
theorem left_clean (l : List UInt8) : leftL (namesL (cleanL l)) = leftL (namesL l) := left_join (left_good l) (total_left_256 l)
theorem names_clean (l : List UInt8) : namesL (cleanL l) = leftL (namesL l) := names_join (left_good l) (total_left_256 l)
theorem clean_clean (l : List UInt8) : cleanL (cleanL l) = cleanL l := by
  show joinL (leftL (namesL (cleanL l))) = joinL (leftL (namesL l))
  rw [left_clean]
theorem within_self {l : List UInt8} (hr : rightB l = true) : withinB l l = true := by
  unfold withinB
  rw [hr, List.isPrefixOf_iff_prefix.2 (List.prefix_refl _)]; rfl
theorem within_up {l : List UInt8} (hr : rightB l = true) : withinB l (upL l) = true := by
  unfold withinB
  rw [hr, right_up, left_up, List.isPrefixOf_iff_prefix.2 (List.take_prefix _ _)]; rfl
theorem within_root {l : List UInt8} (hr : rightB l = true) : withinB l [47] = true := by
  unfold withinB
  rw [hr, show rightB [47] = true from by decide, names_cons (l' := []) (by decide), pieces_one [] (by simp)]; rfl
theorem within_trans {t u v : List UInt8} (h : withinB t u = true) (h2 : withinB u v = true) : withinB t v = true := by
  unfold withinB at *
  simp only [Bool.and_eq_true, List.isPrefixOf_iff_prefix] at *
  exact ⟨⟨h.1.1, h2.1.2⟩, h2.2.trans h.2⟩
/-- A name more. -/
theorem right_more {l n : List UInt8} (hr : rightB l = true) (hl : l.length + n.length + 1 ≤ 256) (hn : ∀ b ∈ n, b ≠ 0) : rightB (l ++ 47 :: n) = true := by
  obtain ⟨⟨l', rfl⟩, hlen, hz⟩ := (right_iff l).1 hr
  rw [right_iff]
  refine ⟨⟨_, rfl⟩, by simp at hl ⊢; omega, fun b hb => ?_⟩
  rcases List.mem_append.1 hb with h | h
  · exact hz b h
  · rcases List.mem_cons.1 h with rfl | h
    · decide
    · exact hn b h
theorem names_more {l n : List UInt8} (hr : rightB l = true) (hl : l.length + n.length + 1 ≤ 256) (hn : ∀ b ∈ n, b ≠ 0) (hs : ∀ b ∈ n, b ≠ 47) (hb : nameB n = true) : namesL (l ++ 47 :: n) = namesL l ++ [n] := by
  have hr2 := right_more hr hl hn
  obtain ⟨⟨l', rfl⟩, hlen, hz⟩ := (right_iff l).1 hr
  rw [List.cons_append] at hr2 ⊢
  rw [names_cons hr2, names_cons hr, pieces_append _ l' n (Nat.le_refl _), pieces_one n hs, List.filter_append, List.filter_cons, if_pos hb]; rfl
end Go.Proofs.YtnjpodbefcfdhaaDoor
