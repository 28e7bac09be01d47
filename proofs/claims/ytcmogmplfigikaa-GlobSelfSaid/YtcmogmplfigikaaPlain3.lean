/- Globs, plainly: what two stars, plain names and stars alone do. No conditions. -/
import Derived.Test.YtcmogmplfigikaaLaw1
namespace Go.Proofs.Ytcmogmplfigikaa
set_option linter.unusedVariables false
set_option linter.unusedSimpArgs false

theorem mstar_iff (g : List (List UInt8)) : ∀ (s : List (List UInt8)), matchM ([42, 42] :: g) s = true ↔ ∃ x y, s = x ++ y ∧ matchM g y = true
  | [] => by
    rw [mstar_nil]
    constructor
    · intro h; exact ⟨[], [], rfl, h⟩
    · rintro ⟨x, y, h, hy⟩
      obtain ⟨rfl, rfl⟩ := List.append_eq_nil_iff.1 h.symm
      exact hy
  | b :: t => by
    rw [mstar_cons, Bool.or_eq_true, mstar_iff g t]
    constructor
    · rintro (h | ⟨x, y, rfl, hy⟩)
      · exact ⟨[], _, rfl, h⟩
      · exact ⟨b :: x, y, rfl, hy⟩
    · rintro ⟨x, y, h, hy⟩
      cases x with
      | nil => exact .inl (by rw [h]; exact hy)
      | cons c x =>
        simp only [List.cons_append, List.cons.injEq] at h
        exact .inr ⟨x, y, h.2, hy⟩
theorem match_ahead {a b : List (List UInt8)} (h : matchM a b = true) : matchM ([42, 42] :: a) b = true := (mstar_iff a b).2 ⟨[], b, rfl, h⟩
theorem match_behind : ∀ {a b : List (List UInt8)}, matchM a b = true → matchM (a ++ [[42, 42]]) b = true
  | [], b, h => by
    have : b = [] := by simpa [matchM] using h
    subst this; decide
  | c :: a, b, h => by
    by_cases hc : c = [42, 42]
    · subst hc
      obtain ⟨x, y, rfl, hy⟩ := (mstar_iff a b).1 h
      exact (mstar_iff _ _).2 ⟨x, y, rfl, match_behind hy⟩
    · cases b with
      | nil => rw [mname_nil hc] at h; cases h
      | cons n t =>
        rw [mname_cons hc, Bool.and_eq_true] at h
        rw [List.cons_append, mname_cons hc, h.1, match_behind h.2]; rfl
theorem match_all (b : List (List UInt8)) : matchM [[42, 42]] b = true := (mstar_iff [] b).2 ⟨b, [], by simp, rfl⟩
theorem names_dd : namesL [47, 42, 42] = [[42, 42]] := by
  rw [names_cons (by decide), pieces_one _ (by decide)]; decide
theorem names_dddd : namesL [47, 42, 42, 47, 42, 42] = [[42, 42], [42, 42]] := by
  rw [names_cons (by decide), show ([42, 42, 47, 42, 42] : List UInt8) = [42, 42] ++ 47 :: [42, 42] from rfl, pieces_cut _ _ (by decide), pieces_one _ (by decide)]; decide
theorem glob_dd (p : List UInt8) : globB [47, 42, 42] p = rightB p := by
  unfold globB
  rw [names_dd, match_all, show rightB [47, 42, 42] = true from by decide]; simp
theorem glob_dddd (p : List UInt8) : globB [47, 42, 42, 47, 42, 42] p = rightB p := by
  unfold globB
  rw [names_dddd, match_ahead (match_all _), show rightB [47, 42, 42, 47, 42, 42] = true from by decide]; simp
theorem glob_behind {g p : List UInt8} (hl : g.length ≤ 250) (h : globB g p = true) : globB (g ++ 47 :: [42, 42]) p = true := by
  unfold globB at *
  simp only [Bool.and_eq_true] at h
  rw [h.1, right_more h.2.1 (by simp; omega) (by decide), names_more h.2.1 (by simp; omega) (by decide) (by decide) (by decide), match_behind h.2.2]; rfl
theorem glob_ahead {g p : List UInt8} (hl : g.length ≤ 250) (h : globB g p = true) : globB (47 :: 42 :: 42 :: g) p = true := by
  unfold globB at *
  simp only [Bool.and_eq_true] at h
  obtain ⟨⟨g', rfl⟩, hlen, hz⟩ := (right_iff g).1 h.2.1
  have hr : rightB (47 :: 42 :: 42 :: 47 :: g') = true := by
    rw [right_iff]
    refine ⟨⟨_, rfl⟩, by simp at hl ⊢; omega, fun b hb => ?_⟩
    rcases List.mem_cons.1 hb with rfl | hb
    · decide
    · rcases List.mem_cons.1 hb with rfl | hb
      · decide
      · rcases List.mem_cons.1 hb with rfl | hb
        · decide
        · exact hz b hb
  have hn : namesL (47 :: 42 :: 42 :: 47 :: g') = [42, 42] :: namesL (47 :: g') := by
    rw [names_cons hr, show (42 :: 42 :: 47 :: g' : List UInt8) = [42, 42] ++ 47 :: g' from rfl, pieces_cut _ _ (by decide), names_cons h.2.1]; rfl
  rw [h.1, hr, hn, match_ahead h.2.2]; rfl

/-- No stars, no question marks. -/
def PlainN (n : List UInt8) : Prop := ∀ b ∈ n, b ≠ 42 ∧ b ≠ 63
theorem name_plain : ∀ {n : List UInt8}, PlainN n → ∀ m, nameM n m = (n == m)
  | [], h, m => by cases m <;> rfl
  | c :: n, h, [] => by rw [name_cons_nil (h c (by simp)).1]; rfl
  | c :: n, h, b :: m => by
    rw [name_cons (h c (by simp)).1, name_plain (n := n) (fun x hx => h x (by simp [hx]))]
    have h63 : (c == 63) = false := by simpa using (h c (by simp)).2
    simp [okC, h63]
theorem plain_dd {n : List UInt8} (h : PlainN n) : n ≠ [42, 42] := fun e => (h 42 (by rw [e]; simp)).1 rfl
theorem match_plain : ∀ {a : List (List UInt8)}, (∀ n ∈ a, PlainN n) → ∀ b, matchM a b = (a == b)
  | [], h, b => by cases b <;> rfl
  | c :: a, h, [] => by rw [mname_nil (plain_dd (h c (by simp)))]; rfl
  | c :: a, h, n :: b => by
    rw [mname_cons (plain_dd (h c (by simp))), name_plain (h c (by simp)), match_plain (a := a) (fun x hx => h x (by simp [hx]))]; rfl
theorem names_bytes (l : List UInt8) : ∀ n ∈ namesL l, ∀ b ∈ n, b ∈ l := by
  intro n hn b hb
  unfold namesL at hn
  by_cases hr : rightB l = true
  · rw [if_pos hr] at hn
    exact (pieces_mem _ l (Nat.le_refl _) n (List.mem_filter.1 hn).1).2 b hb
  · rw [if_neg hr] at hn; cases hn
theorem foldl_mem : ∀ (l o : List (List UInt8)) (n : List UInt8), n ∈ l.foldl stepL o → n ∈ o ∨ n ∈ l
  | [], o, n, h => .inl h
  | m :: l, o, n, h => by
    rcases foldl_mem l (stepL o m) n h with h1 | h1
    · unfold stepL at h1
      split at h1
      · exact .inl (List.mem_of_mem_take h1)
      · rcases List.mem_append.1 h1 with h2 | h2
        · exact .inl h2
        · exact .inr (by simp at h2; simp [h2])
    · exact .inr (List.mem_cons_of_mem _ h1)
theorem left_bytes (l : List UInt8) : ∀ n ∈ leftL (namesL l), ∀ b ∈ n, b ∈ l := by
  intro n hn
  rcases foldl_mem _ [] n hn with h | h
  · cases h
  · exact names_bytes l n h
theorem left_plain {l : List UInt8} (h : PlainN l) : ∀ n ∈ leftL (namesL l), PlainN n := fun n hn b hb => h b (left_bytes l n hn b hb)
theorem join_inj {a b : List (List UInt8)} (ha : Good a) (hb : Good b) (ta : total a ≤ 256) (tb : total b ≤ 256) : (a == b) = (joinL a == joinL b) := by
  rw [Bool.eq_iff_iff]
  simp only [beq_iff_eq]
  constructor
  · intro h; rw [h]
  · intro h
    rw [← left_join ha ta, h, left_join hb tb]
theorem glob_self {p q : List UInt8} (hp : PlainN p) (hr : rightB q = true) : globB (cleanL p) q = (cleanL p == cleanL q) := by
  unfold globB
  rw [hr, right_clean, names_clean, match_plain (left_plain hp)]
  exact join_inj (left_good p) (left_good q) (total_left_256 p) (total_left_256 q)

theorem star_star (g : List UInt8) (s : List UInt8) : nameM (42 :: 42 :: g) s = nameM (42 :: g) s := by
  rw [Bool.eq_iff_iff]
  constructor
  · intro h
    obtain ⟨x, y, rfl, hy⟩ := (star_iff _ _).1 h
    exact star_mono x hy
  · intro h
    exact (star_iff _ _).2 ⟨[], s, rfl, h⟩
theorem stars_app : ∀ (n : Nat) (g s : List UInt8), nameM (List.replicate (n + 1) 42 ++ g) s = nameM (42 :: g) s
  | 0, g, s => rfl
  | n + 1, g, s => by
    rw [show List.replicate (n + 1 + 1) (42 : UInt8) ++ g = 42 :: 42 :: (List.replicate n 42 ++ g) from rfl, star_star]
    exact stars_app n g s
theorem stars_all (n : Nat) (s : List UInt8) : nameM (List.replicate (n + 1) 42) s = true := by
  have h := stars_app n [] s
  rw [List.append_nil] at h
  rw [h]
  exact (star_iff _ _).2 ⟨s, [], by simp, rfl⟩
theorem star_all (s : List UInt8) : nameM [42] s = true := (star_iff _ _).2 ⟨s, [], by simp, rfl⟩
theorem one_head {c : UInt8} (h42 : c ≠ 42) (h63 : c ≠ 63) (n : Nat) (s : List UInt8) : nameM ([c] ++ List.replicate (n + 1) 42) s = (s.head? == some c) := by
  cases s with
  | nil => exact name_cons_nil h42 _
  | cons b t =>
    rw [List.cons_append, List.nil_append, name_cons h42, stars_all]
    have h : (c == 63) = false := by simpa using h63
    rw [Bool.and_true]
    show okC c b = (some b == some c)
    unfold okC
    rw [h, Bool.false_or, Bool.eq_iff_iff]
    simp only [beq_iff_eq, Option.some.injEq]
    exact eq_comm
theorem one_last {c : UInt8} (h42 : c ≠ 42) (h63 : c ≠ 63) (n : Nat) (s : List UInt8) : nameM (List.replicate (n + 1) 42 ++ [c]) s = (s.getLast? == some c) := by
  have h : (c == 63) = false := by simpa using h63
  rw [stars_app, Bool.eq_iff_iff, star_iff]
  constructor
  · rintro ⟨x, y, rfl, hy⟩
    cases y with
    | nil => rw [name_cons_nil h42] at hy; cases hy
    | cons b t =>
      rw [name_cons h42, Bool.and_eq_true] at hy
      have ht : t = [] := by simpa [nameM] using hy.2
      subst ht
      have hb : c = b := by have := hy.1; simp [okC, h] at this; exact this
      simp [hb]
  · intro hs
    have hs : s.getLast? = some c := by simpa using hs
    obtain ⟨x, rfl⟩ := List.getLast?_eq_some_iff.1 hs
    exact ⟨x, [c], rfl, by rw [name_cons h42]; simp [okC, nameM]⟩
theorem one_in {c : UInt8} (h42 : c ≠ 42) (h63 : c ≠ 63) (n : Nat) (s : List UInt8) : nameM (List.replicate (n + 1) 42 ++ ([c] ++ List.replicate (n + 1) 42)) s = s.contains c := by
  have h : (c == 63) = false := by simpa using h63
  rw [stars_app, Bool.eq_iff_iff, star_iff]
  constructor
  · rintro ⟨x, y, rfl, hy⟩
    rw [one_head h42 h63] at hy
    cases y with
    | nil => simp at hy
    | cons b t => simp at hy; simp [hy]
  · intro hs
    have hs : c ∈ s := by simpa using hs
    obtain ⟨x, t, rfl⟩ := List.append_of_mem hs
    exact ⟨x, c :: t, rfl, by rw [one_head h42 h63]; simp⟩
end Go.Proofs.Ytcmogmplfigikaa
