/- Globs, plainly: what a part is like, and that the greedy search finds it. No conditions. -/
import Derived.Test.YtcmogmplfigikaaPlain2
namespace Go.Proofs.Ytcmogmplfigikaa
set_option linter.unusedVariables false
set_option linter.unusedSimpArgs false

def anySuf (p : List UInt8 → Bool) : List UInt8 → Bool
  | [] => p []
  | b :: t => p (b :: t) || anySuf p t
def okC (c b : UInt8) : Bool := c == 63 || c == b
/-- Is a name like a part? -/
def nameM : List UInt8 → List UInt8 → Bool
  | [], s => s.isEmpty
  | c :: g, s => if c = 42 then anySuf (nameM g) s else match s with | [] => false | b :: t => okC c b && nameM g t
theorem star_cons (g : List UInt8) (b : UInt8) (t : List UInt8) : nameM (42 :: g) (b :: t) = (nameM g (b :: t) || nameM (42 :: g) t) := by simp [nameM, anySuf]
theorem star_nil (g : List UInt8) : nameM (42 :: g) [] = nameM g [] := by simp [nameM, anySuf]
theorem name_cons {c : UInt8} (hc : c ≠ 42) (g : List UInt8) (b : UInt8) (t : List UInt8) : nameM (c :: g) (b :: t) = (okC c b && nameM g t) := by simp [nameM, hc]
theorem name_cons_nil {c : UInt8} (hc : c ≠ 42) (g : List UInt8) : nameM (c :: g) [] = false := by simp [nameM, hc]
theorem name_nil_cons (b : UInt8) (t : List UInt8) : nameM [] (b :: t) = false := rfl
theorem star_iff (g : List UInt8) : ∀ (s : List UInt8), nameM (42 :: g) s = true ↔ ∃ x y, s = x ++ y ∧ nameM g y = true
  | [] => by
    rw [star_nil]
    constructor
    · intro h; exact ⟨[], [], rfl, h⟩
    · rintro ⟨x, y, h, hy⟩
      obtain ⟨rfl, rfl⟩ := List.append_eq_nil_iff.1 h.symm
      exact hy
  | b :: t => by
    rw [star_cons, Bool.or_eq_true, star_iff g t]
    constructor
    · rintro (h | ⟨x, y, rfl, hy⟩)
      · exact ⟨[], _, rfl, h⟩
      · exact ⟨b :: x, y, rfl, hy⟩
    · rintro ⟨x, y, h, hy⟩
      cases x with
      | nil => exact .inl (by rw [h]; exact hy)
      | cons c x =>
        simp only [List.cons_append, List.cons.injEq] at h
        exact .inr ⟨x, y, h.2, hy⟩
theorem star_mono {g t : List UInt8} (u : List UInt8) (h : nameM (42 :: g) t = true) : nameM (42 :: g) (u ++ t) = true := by
  obtain ⟨x, y, rfl, hy⟩ := (star_iff g t).1 h
  exact (star_iff g _).2 ⟨u ++ x, y, by simp, hy⟩
def Seg : List UInt8 → List UInt8 → Prop
  | [], [] => True
  | c :: p, b :: u => c ≠ 42 ∧ okC c b = true ∧ Seg p u
  | _, _ => False
theorem seg_len : ∀ {p u : List UInt8}, Seg p u → p.length = u.length
  | [], [], _ => rfl
  | c :: p, b :: u, h => by simp [seg_len h.2.2]
  | [], _ :: _, h => h.elim
  | _ :: _, [], h => h.elim
theorem seg_snoc : ∀ {p u : List UInt8}, Seg p u → ∀ {c b : UInt8}, c ≠ 42 → okC c b = true → Seg (p ++ [c]) (u ++ [b])
  | [], [], _, c, b, hc, hb => ⟨hc, hb, trivial⟩
  | _ :: p, _ :: u, h, c, b, hc, hb => ⟨h.1, h.2.1, seg_snoc h.2.2 hc hb⟩
  | [], _ :: _, h, _, _, _, _ => h.elim
  | _ :: _, [], h, _, _, _, _ => h.elim
theorem seg_app : ∀ {p u : List UInt8}, Seg p u → ∀ (r t : List UInt8), nameM (p ++ r) (u ++ t) = nameM r t
  | [], [], _, r, t => rfl
  | c :: p, b :: u, h, r, t => by
    rw [List.cons_append, List.cons_append, name_cons h.1, h.2.1, seg_app h.2.2]; rfl
  | [], _ :: _, h, _, _ => h.elim
  | _ :: _, [], h, _, _ => h.elim
/-- A piece without stars takes as many bytes as it has. -/
theorem seg_split : ∀ {p u : List UInt8}, Seg p u → ∀ {r y : List UInt8}, nameM (p ++ r) y = true → ∃ a b, y = a ++ b ∧ a.length = p.length ∧ nameM r b = true
  | [], [], _, r, y, h => ⟨[], y, rfl, rfl, h⟩
  | c :: p, b :: u, hs, r, y, h => by
    cases y with
    | nil => rw [List.cons_append, name_cons_nil hs.1] at h; cases h
    | cons d y =>
      rw [List.cons_append, name_cons hs.1, Bool.and_eq_true] at h
      obtain ⟨a, e, rfl, hl, hr⟩ := seg_split hs.2.2 h.2
      exact ⟨d :: a, e, rfl, by simp [hl], hr⟩
  | [], _ :: _, h, _, _, _ => h.elim
  | _ :: _, [], h, _, _, _ => h.elim
theorem star_seg {p u : List UInt8} (h : Seg p u) (r t : List UInt8) : nameM (42 :: (p ++ 42 :: r)) (u ++ t) = nameM (42 :: r) t := by
  rw [Bool.eq_iff_iff]
  constructor
  · intro h1
    obtain ⟨x, y, hxy, hy⟩ := (star_iff _ _).1 h1
    obtain ⟨a, b, rfl, hl, hb⟩ := seg_split h hy
    have hlen := congrArg List.length hxy
    have hpu := seg_len h
    simp at hlen
    have hbt : b.length ≤ t.length := by omega
    obtain ⟨z, hz⟩ : b <:+ t := List.suffix_of_suffix_length_le (l₃ := u ++ t) ⟨x ++ a, by rw [hxy]; simp⟩ ⟨u, rfl⟩ hbt
    rw [← hz]
    exact star_mono _ hb
  · intro h1
    rw [star_iff]
    exact ⟨[], u ++ t, rfl, by rw [seg_app h]; exact h1⟩
theorem end_seg {p u : List UInt8} (h : Seg p u) (r : List UInt8) : nameM (42 :: (p ++ r)) u = nameM r [] := by
  rw [Bool.eq_iff_iff]
  constructor
  · intro h1
    obtain ⟨x, y, hxy, hy⟩ := (star_iff _ _).1 h1
    obtain ⟨a, b, rfl, hl, hb⟩ := seg_split h hy
    have hlen := congrArg List.length hxy
    have hpu := seg_len h
    simp at hlen
    obtain rfl : b = [] := List.length_eq_zero_iff.1 (by omega)
    exact hb
  · intro h1
    rw [star_iff]
    exact ⟨[], u, rfl, by have := seg_app h r []; rw [List.append_nil] at this; rw [this]; exact h1⟩
theorem stars_nil : ∀ (r : List UInt8), nameM r [] = r.all (· == 42)
  | [] => rfl
  | c :: r => by
    by_cases hc : c = 42
    · subst hc; rw [star_nil, stars_nil r]; simp
    · rw [name_cons_nil hc]; simp [hc]

/-- Where the greedy search stands. -/
def Greedy (g s : List UInt8) (a : Nat) (star : Int) (f i : Nat) : Prop :=
  i ≤ s.length ∧ a ≤ g.length ∧ f ≤ i ∧
    ((star = -1 ∧ nameM g s = nameM (g.drop a) (s.drop i)) ∨
     (∃ (st : Nat) (p u : List UInt8), star = st ∧ st < a ∧ g.drop (st + 1) = p ++ g.drop a ∧ s.drop f = u ++ s.drop i ∧ Seg p u ∧ nameM g s = nameM (42 :: g.drop (st + 1)) (s.drop f)))
theorem greedy_start (g s : List UInt8) : Greedy g s 0 (-1) 0 0 := ⟨Nat.zero_le _, Nat.zero_le _, Nat.le_refl _, .inl ⟨rfl, rfl⟩⟩
theorem greedy_star {g s : List UInt8} {a : Nat} {star : Int} {f i : Nat} (h : Greedy g s a star f i) (hg : g[a]? = some 42) : Greedy g s (a + 1) a i i := by
  obtain ⟨hi, ha, hf, h⟩ := h
  have hal : a < g.length := (List.getElem?_eq_some_iff.1 hg).1
  have hd : g.drop a = 42 :: g.drop (a + 1) := by rw [List.drop_eq_getElem_cons hal, (List.getElem?_eq_some_iff.1 hg).2]
  refine ⟨hi, hal, Nat.le_refl _, .inr ⟨a, [], [], rfl, by omega, rfl, rfl, trivial, ?_⟩⟩
  rcases h with ⟨_, h⟩ | ⟨st, p, u, rfl, hst, hp, hu, hs, h⟩
  · rw [h, hd]
  · rw [h, hp, hu, hd, star_seg hs]
theorem greedy_byte {g s : List UInt8} {a : Nat} {star : Int} {f i : Nat} (h : Greedy g s a star f i) {c b : UInt8} (hg : g[a]? = some c) (hs : s[i]? = some b) (hc : c ≠ 42) (hok : okC c b = true) : Greedy g s (a + 1) star f (i + 1) := by
  obtain ⟨hi, ha, hf, h⟩ := h
  have hal : a < g.length := (List.getElem?_eq_some_iff.1 hg).1
  have hil : i < s.length := (List.getElem?_eq_some_iff.1 hs).1
  have hd : g.drop a = c :: g.drop (a + 1) := by rw [List.drop_eq_getElem_cons hal, (List.getElem?_eq_some_iff.1 hg).2]
  have hd2 : s.drop i = b :: s.drop (i + 1) := by rw [List.drop_eq_getElem_cons hil, (List.getElem?_eq_some_iff.1 hs).2]
  refine ⟨hil, hal, by omega, ?_⟩
  rcases h with ⟨h0, h⟩ | ⟨st, p, u, h0, hst, hp, hu, hsg, h⟩
  · exact .inl ⟨h0, by rw [h, hd, hd2, name_cons hc, hok]; rfl⟩
  · exact .inr ⟨st, p ++ [c], u ++ [b], h0, by omega, by rw [hp, hd]; simp, by rw [hu, hd2]; simp, seg_snoc hsg hc hok, h⟩
theorem greedy_miss {g s : List UInt8} {a : Nat} {star : Int} {f i : Nat} (h : Greedy g s a star f i) (hi : i < s.length) (hm : nameM (g.drop a) (s.drop i) = false) :
    (star < 0 → nameM g s = false) ∧ (∀ st : Nat, star = st → Greedy g s (st + 1) st (f + 1) (f + 1)) := by
  obtain ⟨_, ha, hf, h⟩ := h
  rcases h with ⟨h0, h⟩ | ⟨st, p, u, h0, hst, hp, hu, hsg, h⟩
  · exact ⟨fun _ => by rw [h, hm], fun st h2 => by omega⟩
  · refine ⟨fun h2 => by omega, fun st2 h2 => ?_⟩
    obtain rfl : st2 = st := by omega
    refine ⟨by omega, by omega, Nat.le_refl _, .inr ⟨st2, [], [], rfl, by omega, rfl, rfl, trivial, ?_⟩⟩
    have hfl : f < s.length := by omega
    have h3 : nameM (g.drop (st2 + 1)) (s.drop f) = false := by rw [hp, hu, seg_app hsg, hm]
    rw [h]
    rw [List.drop_eq_getElem_cons hfl] at h3 ⊢
    rw [star_cons, h3]; rfl
theorem greedy_end {g s : List UInt8} {a : Nat} {star : Int} {f : Nat} (h : Greedy g s a star f s.length) : nameM g s = (g.drop a).all (· == 42) := by
  obtain ⟨_, ha, hf, h⟩ := h
  rw [← stars_nil]
  rcases h with ⟨h0, h⟩ | ⟨st, p, u, h0, hst, hp, hu, hsg, h⟩
  · rw [h, List.drop_length]
  · rw [h, hp, hu, List.drop_length, List.append_nil, end_seg hsg]
theorem miss_end (g s : List UInt8) {i : Nat} (hi : i < s.length) : nameM (g.drop g.length) (s.drop i) = false := by
  rw [List.drop_length, List.drop_eq_getElem_cons hi]; rfl
theorem miss_byte {g s : List UInt8} {a i : Nat} {c b : UInt8} (hg : g[a]? = some c) (hs : s[i]? = some b) (hc : c ≠ 42) (hok : okC c b = false) : nameM (g.drop a) (s.drop i) = false := by
  have hal : a < g.length := (List.getElem?_eq_some_iff.1 hg).1
  have hil : i < s.length := (List.getElem?_eq_some_iff.1 hs).1
  rw [List.drop_eq_getElem_cons hal, (List.getElem?_eq_some_iff.1 hg).2, List.drop_eq_getElem_cons hil, (List.getElem?_eq_some_iff.1 hs).2, name_cons hc, hok]; rfl
end Go.Proofs.Ytcmogmplfigikaa
