/- Trees of nodes, plainly: what stands at a path, what is wrong with a tree, where names lead. No conditions. -/
import Derived.Test.YtnjpodbefcfdhaaDoorPlain2
namespace Go.Proofs.YtnjpodbefcfdhaaDoor
open Go.RowKit
set_option linter.unusedVariables false
set_option linter.unusedSimpArgs false

structure Nod where
  p : List UInt8
  k : Int
  t : List UInt8
  deriving Inhabited
def rootN : Nod := ⟨[47], 2, []⟩
def findL (L : List Nod) (p : List UInt8) : Option Nod := if p = [47] then some rootN else L.find? (fun x => decide (x.p = p))
def tgtB (t : List UInt8) : Bool := decide (t ≠ []) && (decide ((t.length : Int) ≤ 256) && decide (Lib.indexByte t 0 < 0))
def formB (x : Nod) : Bool := if x.k = 1 ∨ x.k = 2 then decide (x.t = []) else if x.k = 3 then tgtB x.t else false
def fineN (x : Nod) : Bool := rightB x.p && (decide (cleanL x.p = x.p) && (decide (x.p ≠ [47]) && formB x))
def kindOf (L : List Nod) (p : List UInt8) : Int := match findL L p with | some x => x.k | none => 0
def wrongN (A : List Nod) (x : Nod) : Int :=
  if fineN x then (if (findL A x.p).isSome then 9 else match findL A (upL x.p) with | none => 17 | some y => if y.k = 2 then 0 else 20) else 1
def checkR : List Nod → List Nod → Int × Int
  | A, [] => (0, -1)
  | A, x :: R => if wrongN A x = 0 then checkR (A ++ [x]) R else (wrongN A x, (A.length : Int))
def checkV (L : List Nod) : Int × Int := if 64 < L.length then (4, 64) else checkR [] L
theorem checkR_at {L : List Nod} {k : Nat} {x : Nod} (h : L[k]? = some x) : checkR (L.take k) (L.drop k) = if wrongN (L.take k) x = 0 then checkR (L.take (k + 1)) (L.drop (k + 1)) else (wrongN (L.take k) x, (k : Int)) := by
  have hl := (List.getElem?_eq_some_iff.1 h).1
  rw [List.drop_eq_getElem_cons hl, (List.getElem?_eq_some_iff.1 h).2, List.take_add_one, h]
  have : (L.take k).length = k := by simp; omega
  simp only [checkR, this]
  rfl

abbrev Res := List UInt8 × Int × Int
def badR (e : Int) : Res := ([], 0, e)
def walk1 (L : List Nod) (f : List UInt8 → List (List UInt8) → List (List UInt8) → Res) : List (List UInt8) → List (List UInt8) → Res
  | a, [] => (joinL a, kindOf L (joinL a), 0)
  | a, n :: ns => if n = [46, 46] then walk1 L f (a.take (a.length - 1)) ns else
    match findL L (joinL (a ++ [n])) with
    | none => badR 17
    | some x => if x.k = 1 ∧ ns ≠ [] then badR 20 else if x.k = 3 then f x.t a ns else walk1 L f (a ++ [n]) ns
def partsL (t : List UInt8) : List (List UInt8) := (pieces t).filter nameB
def nextA (t : List UInt8) (a : List (List UInt8)) : List (List UInt8) := if t.head? = some 47 then [] else a
def walkH (L : List Nod) : Nat → List (List UInt8) → List (List UInt8) → Res
  | 0 => walk1 L (fun _ _ _ => badR 19)
  | h + 1 => walk1 L (fun t a ns => walkH L h (nextA t a) (partsL t ++ ns))
def walkF (L : List Nod) : Nat → List UInt8 → List (List UInt8) → List (List UInt8) → Res
  | 0 => fun _ _ _ => badR 19
  | h + 1 => fun t a ns => walkH L h (nextA t a) (partsL t ++ ns)
theorem walkH_eq (L : List Nod) (h : Nat) : walkH L h = walk1 L (walkF L h) := by cases h <;> rfl
def resolveV (L : List Nod) (p : List UInt8) : Res := if (checkV L).1 = 0 then (if rightB p then walkH L 8 [] (namesL p) else badR 1) else badR (checkV L).1

/-! ### Trees that pass -/
def OkL (L : List Nod) : Prop := ∀ k x, L[k]? = some x → wrongN (L.take k) x = 0
theorem checkR_ok : ∀ (n k : Nat) (L : List Nod), L.length - k = n → (checkR (L.take k) (L.drop k)).1 = 0 → ∀ j x, k ≤ j → L[j]? = some x → wrongN (L.take j) x = 0
  | 0, k, L, h, hc, j, x, hj, hx => by
    have := (List.getElem?_eq_some_iff.1 hx).1
    omega
  | n + 1, k, L, h, hc, j, x, hj, hx => by
    have hk : L[k]? = some L[k] := List.getElem?_eq_getElem (by omega)
    rw [checkR_at hk] at hc
    by_cases hw : wrongN (L.take k) L[k] = 0
    · rw [if_pos hw] at hc
      rcases Nat.eq_or_lt_of_le hj with rfl | hlt
      · rw [hk] at hx; cases hx; exact hw
      · exact checkR_ok n (k + 1) L (by omega) hc j x hlt hx
    · rw [if_neg hw] at hc
      exact absurd hc hw
theorem checkV_ok {L : List Nod} (h : (checkV L).1 = 0) : L.length ≤ 64 ∧ OkL L := by
  unfold checkV at h
  by_cases hl : 64 < L.length
  · rw [if_pos hl] at h; cases h
  · rw [if_neg hl] at h
    refine ⟨by omega, fun k x hx => ?_⟩
    exact checkR_ok _ 0 L rfl (by rw [List.take_zero, List.drop_zero]; exact h) k x (Nat.zero_le _) hx
theorem checkR_all : ∀ (n k : Nat) (L : List Nod), L.length - k = n → (∀ j x, k ≤ j → L[j]? = some x → wrongN (L.take j) x = 0) → checkR (L.take k) (L.drop k) = (0, -1)
  | 0, k, L, h, hc => by
    rw [List.drop_eq_nil_of_le (by omega)]; simp [checkR]
  | n + 1, k, L, h, hc => by
    have hk : L[k]? = some L[k] := List.getElem?_eq_getElem (by omega)
    rw [checkR_at hk, if_pos (hc k _ (Nat.le_refl _) hk)]
    exact checkR_all n (k + 1) L (by omega) (fun j x hj hx => hc j x (by omega) hx)
theorem checkV_all {L : List Nod} (hl : L.length ≤ 64) (h : OkL L) : checkV L = (0, -1) := by
  unfold checkV
  rw [if_neg (by omega)]
  have := checkR_all _ 0 L rfl (fun j x _ hx => h j x hx)
  rwa [List.take_zero, List.drop_zero] at this
theorem findL_prefix {A B : List Nod} {p : List UInt8} {y : Nod} (h : findL A p = some y) : findL (A ++ B) p = some y := by
  unfold findL at *
  by_cases hp : p = [47]
  · rw [if_pos hp] at h ⊢; exact h
  · rw [if_neg hp] at h ⊢
    rw [List.find?_append, h]; rfl
theorem findL_take {L : List Nod} {k : Nat} {p : List UInt8} {y : Nod} (h : findL (L.take k) p = some y) : findL L p = some y := by
  rw [← List.take_append_drop k L]; exact findL_prefix h
theorem findL_some {L : List Nod} {p : List UInt8} {x : Nod} (h : findL L p = some x) : x.p = p ∧ (x = rootN ∨ x ∈ L) := by
  unfold findL at h
  by_cases hp : p = [47]
  · rw [if_pos hp] at h; cases h; exact ⟨hp.symm, .inl rfl⟩
  · rw [if_neg hp] at h
    have h1 := List.find?_some h
    have h2 := List.mem_of_find?_eq_some h
    exact ⟨by simpa using h1, .inr h2⟩
theorem wrongN_zero {A : List Nod} {x : Nod} (h : wrongN A x = 0) : fineN x = true ∧ findL A x.p = none ∧ ∃ y, findL A (upL x.p) = some y ∧ y.k = 2 := by
  unfold wrongN at h
  by_cases hf : fineN x = true
  · rw [if_pos hf] at h
    refine ⟨hf, ?_⟩
    cases h1 : findL A x.p with
    | some z => rw [h1] at h; simp at h
    | none =>
      rw [h1] at h
      simp only [Option.isSome_none, Bool.false_eq_true, if_false] at h
      refine ⟨rfl, ?_⟩
      cases h2 : findL A (upL x.p) with
      | none => rw [h2] at h; simp at h
      | some y =>
        rw [h2] at h
        simp only at h
        refine ⟨y, rfl, ?_⟩
        by_cases hy : y.k = 2
        · exact hy
        · rw [if_neg hy] at h; cases h
  · rw [if_neg hf] at h; cases h
theorem fineN_parts {x : Nod} (h : fineN x = true) : rightB x.p = true ∧ cleanL x.p = x.p ∧ x.p ≠ [47] ∧ formB x = true := by
  unfold fineN at h
  simp only [Bool.and_eq_true, decide_eq_true_eq] at h
  exact h
theorem formB_kind {x : Nod} (h : formB x = true) : x.k = 1 ∨ x.k = 2 ∨ x.k = 3 := by
  unfold formB at h
  by_cases h1 : x.k = 1 ∨ x.k = 2
  · rcases h1 with h1 | h1
    · exact .inl h1
    · exact .inr (.inl h1)
  · rw [if_neg h1] at h
    by_cases h3 : x.k = 3
    · exact .inr (.inr h3)
    · rw [if_neg h3] at h; cases h
theorem formB_link {x : Nod} (h : formB x = true) (h3 : x.k = 3) : tgtB x.t = true := by
  unfold formB at h
  rw [if_neg (by omega), if_pos h3] at h
  exact h
theorem tgtB_parts {t : List UInt8} (h : tgtB t = true) : t ≠ [] ∧ t.length ≤ 256 ∧ ∀ b ∈ t, b ≠ 0 := by
  unfold tgtB at h
  simp only [Bool.and_eq_true, decide_eq_true_eq] at h
  refine ⟨h.1, by omega, fun b hb hb0 => ?_⟩
  subst hb0
  obtain ⟨i, hi⟩ := List.getElem?_of_mem hb
  have := idx_yes (l := t) (k := i) hi
  omega
theorem OkL.mem {L : List Nod} (h : OkL L) {x : Nod} (hx : x ∈ L) : fineN x = true ∧ ∃ y, findL L (upL x.p) = some y ∧ y.k = 2 := by
  obtain ⟨k, hk⟩ := List.getElem?_of_mem hx
  obtain ⟨h1, h2, y, h3, h4⟩ := wrongN_zero (h k x hk)
  exact ⟨h1, y, findL_take h3, h4⟩
theorem OkL.found {L : List Nod} (h : OkL L) {p : List UInt8} {x : Nod} (hx : findL L p = some x) : x.p = p ∧ (x = rootN ∨ (p ≠ [47] ∧ fineN x = true ∧ ∃ y, findL L (upL p) = some y ∧ y.k = 2)) := by
  obtain ⟨h1, h2⟩ := findL_some hx
  refine ⟨h1, ?_⟩
  rcases h2 with h2 | h2
  · exact .inl h2
  · right
    obtain ⟨h3, y, h4, h5⟩ := h.mem h2
    rw [h1] at h4
    refine ⟨by rw [← h1]; exact (fineN_parts h3).2.2.1, h3, y, h4, h5⟩
theorem OkL.kinds {L : List Nod} (h : OkL L) {p : List UInt8} {x : Nod} (hx : findL L p = some x) : x.k = 1 ∨ x.k = 2 ∨ x.k = 3 := by
  rcases (h.found hx).2 with rfl | ⟨_, h3, _⟩
  · exact .inr (.inl rfl)
  · exact formB_kind (fineN_parts h3).2.2.2
theorem OkL.len {L : List Nod} (h : OkL L) {a : List (List UInt8)} {x : Nod} (hx : findL L (joinL a) = some x) : total a ≤ 256 := by
  obtain ⟨h1, h2⟩ := h.found hx
  rcases h2 with rfl | ⟨_, h3, _⟩
  · have := join_len a
    rw [← h1, show rootN.p.length = 1 from rfl] at this
    by_cases ha : a = []
    · subst ha; decide
    · rw [if_neg ha] at this; omega
  · have := right_len (fineN_parts h3).1
    rw [h1, join_len] at this
    by_cases ha : a = []
    · subst ha; decide
    · rw [if_neg ha] at this; exact this
/-- Where names have led so far: it is there. -/
def Here (L : List Nod) (a : List (List UInt8)) : Prop := Good a ∧ ∃ x, findL L (joinL a) = some x ∧ x.k ≠ 3
theorem here_nil (L : List Nod) : Here L [] := ⟨fun n hn => by simp at hn, rootN, by unfold findL; exact if_pos rfl, by decide⟩
theorem up_join {a : List (List UInt8)} (h : Good a) (ht : total a ≤ 256) : upL (joinL a) = joinL (a.take (a.length - 1)) := by
  unfold upL; rw [left_join h ht]
theorem OkL.dir {L : List Nod} (h : OkL L) {a : List (List UInt8)} (hg : Good a) {x : Nod} (hx : findL L (joinL a) = some x) : ∃ y, findL L (joinL (a.take (a.length - 1))) = some y ∧ y.k = 2 := by
  rcases (h.found hx).2 with rfl | ⟨_, _, y, h4, h5⟩
  · have h1 := (h.found hx).1
    have ha : a = [] := by
      cases a with
      | nil => rfl
      | cons n t =>
        have hn := hg n (by simp)
        rw [join_cons] at h1
        have h2 : n ++ flatL t = [] := by
          have := congrArg List.tail h1
          exact this.symm
        exact absurd (List.append_eq_nil_iff.1 h2).1 hn.1
    subst ha
    exact ⟨rootN, hx, rfl⟩
  · rw [up_join hg (h.len hx)] at h4
    exact ⟨y, h4, h5⟩
theorem OkL.dir_snoc {L : List Nod} (h : OkL L) {a : List (List UInt8)} {n : List UInt8} (hg : Good (a ++ [n])) {x : Nod} (hx : findL L (joinL (a ++ [n])) = some x) : ∃ y, findL L (joinL a) = some y ∧ y.k = 2 := by
  have := h.dir hg hx
  rwa [show (a ++ [n]).take ((a ++ [n]).length - 1) = a from by simp] at this
/-- Whatever stands on the way to what is found is a directory. -/
theorem OkL.prefixes {L : List Nod} (h : OkL L) : ∀ (suf pre : List (List UInt8)), Good (pre ++ suf) → (∃ x, findL L (joinL (pre ++ suf)) = some x) → suf ≠ [] → ∃ y, findL L (joinL pre) = some y ∧ y.k = 2
  | [], pre, hg, hx, hne => absurd rfl hne
  | n :: ns, pre, hg, hx, hne => by
    have hgp : Good (pre ++ [n]) := fun m hm => hg m (by
      rcases List.mem_append.1 hm with h1 | h1
      · exact List.mem_append_left _ h1
      · obtain rfl : m = n := by simpa using h1
        exact List.mem_append_right _ (by simp))
    by_cases hns : ns = []
    · subst hns
      obtain ⟨x, hx⟩ := hx
      exact h.dir_snoc hg hx
    · obtain ⟨y, hy, _⟩ := h.prefixes ns (pre ++ [n]) (by simpa using hg) (by simpa using hx) hns
      exact h.dir_snoc hgp hy
/-- A clean path that is found leads to itself. -/
theorem OkL.straight {L : List Nod} (h : OkL L) (f : List UInt8 → List (List UInt8) → List (List UInt8) → Res) : ∀ (suf pre : List (List UInt8)) (x : Nod), Good (pre ++ suf) → findL L (joinL (pre ++ suf)) = some x → x.k ≠ 3 → walk1 L f pre suf = (joinL (pre ++ suf), x.k, 0)
  | [], pre, x, hg, hx, h3 => by
    rw [List.append_nil] at hx ⊢
    simp [walk1, kindOf, hx]
  | n :: ns, pre, x, hg, hx, h3 => by
    have hn := hg n (by simp)
    have he : pre ++ n :: ns = (pre ++ [n]) ++ ns := by simp
    rw [he] at hg hx ⊢
    have ih := h.straight f ns (pre ++ [n]) x hg hx h3
    obtain ⟨y, hy, hy3, hy1⟩ : ∃ y, findL L (joinL (pre ++ [n])) = some y ∧ y.k ≠ 3 ∧ ¬ (y.k = 1 ∧ ns ≠ []) := by
      by_cases hns : ns = []
      · subst hns
        rw [List.append_nil] at hx
        exact ⟨x, hx, h3, fun h => h.2 rfl⟩
      · obtain ⟨y, hy, hy2⟩ := h.prefixes ns (pre ++ [n]) hg ⟨x, hx⟩ hns
        exact ⟨y, hy, by omega, fun h => by omega⟩
    simp only [walk1]
    rw [if_neg hn.2.2.1, hy]
    simp only
    rw [if_neg hy1, if_neg hy3]
    exact ih
/-- Names as they come. -/
def NameOk (n : List UInt8) : Prop := n.length ≤ 256 ∧ (n ≠ [46, 46] → GoodN n)
def NamesOk (ns : List (List UInt8)) : Prop := ∀ n ∈ ns, NameOk n
theorem piece_len : ∀ (k : Nat) (l : List UInt8), l.length ≤ k → ∀ n ∈ pieces l, n.length ≤ l.length
  | k, l, h, n, hn => by
    rcases split_slash l with hs | ⟨p, r, rfl, hp⟩
    · rw [pieces_one l hs] at hn
      obtain rfl : n = l := by simpa using hn
      exact Nat.le_refl _
    · rw [pieces_cut p r hp] at hn
      rcases List.mem_cons.1 hn with rfl | h2
      · simp
      · match k, h with
        | 0, h => simp at h
        | k + 1, h =>
          have := piece_len k r (by simp at h; omega) n h2
          simp; omega
theorem namesOk_names (l : List UInt8) : NamesOk (namesL l) := by
  intro n hn
  by_cases hr : rightB l = true
  · refine ⟨?_, names_good hr n hn⟩
    have h1 := hn
    unfold namesL at h1
    rw [if_pos hr] at h1
    have h2 := piece_len _ l (Nat.le_refl _) n (List.mem_filter.1 h1).1
    have := right_len hr
    omega
  · unfold namesL at hn
    rw [if_neg hr] at hn
    cases hn
theorem namesOk_parts {t : List UInt8} (h : tgtB t = true) : NamesOk (partsL t) := by
  obtain ⟨h1, h2, h3⟩ := tgtB_parts h
  intro n hn
  obtain ⟨h4, h5⟩ := List.mem_filter.1 hn
  have h6 := pieces_mem _ t (Nat.le_refl _) n h4
  unfold nameB at h5
  simp at h5
  exact ⟨Nat.le_trans (piece_len _ t (Nat.le_refl _) n h4) h2, fun hd => ⟨h5.1, h5.2, hd, h6.1, fun b hb => h3 b (h6.2 b hb)⟩⟩
theorem OkL.link {L : List Nod} (h : OkL L) {p : List UInt8} {x : Nod} (hx : findL L p = some x) (h3 : x.k = 3) : tgtB x.t = true := by
  rcases (h.found hx).2 with rfl | ⟨_, hf, _⟩
  · exact absurd h3 (by decide)
  · exact formB_link (fineN_parts hf).2.2.2 h3
theorem here_take {L : List Nod} (h : OkL L) {a : List (List UInt8)} (ha : Here L a) : Here L (a.take (a.length - 1)) := by
  obtain ⟨hg, x, hx, _⟩ := ha
  obtain ⟨y, hy, h2⟩ := h.dir hg hx
  exact ⟨good_take hg _, y, hy, by omega⟩
theorem good_snoc {a : List (List UInt8)} (ha : Good a) {n : List UInt8} (hn : GoodN n) : Good (a ++ [n]) := by
  intro m hm
  rcases List.mem_append.1 hm with h1 | h1
  · exact ha m h1
  · obtain rfl : m = n := by simpa using h1
    exact hn
theorem here_next {L : List Nod} {t : List UInt8} {a : List (List UInt8)} (ha : Here L a) : Here L (nextA t a) := by
  unfold nextA
  split
  · exact here_nil L
  · exact ha
/-- What comes of a walk. -/
def Comes (L : List Nod) (r : Res) : Prop := (r.2.2 = 0 ∧ ∃ a x, Good a ∧ findL L (joinL a) = some x ∧ x.k ≠ 3 ∧ r = (joinL a, x.k, 0)) ∨ (∃ e, e ≠ 0 ∧ r = badR e)
theorem comes_bad (L : List Nod) {e : Int} (he : e ≠ 0) : Comes L (badR e) := .inr ⟨e, he, rfl⟩
theorem comes1 {L : List Nod} (h : OkL L) {f : List UInt8 → List (List UInt8) → List (List UInt8) → Res} (hf : ∀ t a ns, tgtB t = true → Here L a → NamesOk ns → Comes L (f t a ns)) : ∀ (ns a : List (List UInt8)), Here L a → NamesOk ns → Comes L (walk1 L f a ns)
  | [], a, ha, hn => by
    obtain ⟨hg, x, hx, h3⟩ := ha
    simp only [walk1]
    exact .inl ⟨rfl, a, x, hg, hx, h3, by simp [kindOf, hx]⟩
  | n :: ns, a, ha, hn => by
    have hns : NamesOk ns := fun m hm => hn m (by simp [hm])
    have hn1 := hn n (by simp)
    simp only [walk1]
    by_cases hd : n = [46, 46]
    · rw [if_pos hd]
      exact comes1 h hf ns _ (here_take h ha) hns
    · rw [if_neg hd]
      cases hx : findL L (joinL (a ++ [n])) with
      | none => exact comes_bad L (by decide)
      | some x =>
        simp only
        by_cases h1 : x.k = 1 ∧ ns ≠ []
        · rw [if_pos h1]; exact comes_bad L (by decide)
        · rw [if_neg h1]
          by_cases h3 : x.k = 3
          · rw [if_pos h3]
            exact hf _ _ _ (h.link hx h3) ha hns
          · rw [if_neg h3]
            exact comes1 h hf ns _ ⟨good_snoc ha.1 (hn1.2 hd), x, hx, h3⟩ hns
theorem namesOk_append {a b : List (List UInt8)} (ha : NamesOk a) (hb : NamesOk b) : NamesOk (a ++ b) := by
  intro n hn
  rcases List.mem_append.1 hn with h | h
  · exact ha n h
  · exact hb n h
theorem comesH {L : List Nod} (h : OkL L) : ∀ (k : Nat) (a ns : List (List UInt8)), Here L a → NamesOk ns → Comes L (walkH L k a ns)
  | 0, a, ns, ha, hn => comes1 h (fun _ _ _ _ _ _ => comes_bad L (by decide)) ns a ha hn
  | k + 1, a, ns, ha, hn => comes1 h (fun t a ns ht ha hn => comesH h k _ _ (here_next ha) (namesOk_append (namesOk_parts ht) hn)) ns a ha hn
theorem comesV (L : List Nod) (p : List UInt8) : (checkV L).1 = 0 ∧ rightB p = true ∧ Comes L (resolveV L p) ∨ ∃ e, e ≠ 0 ∧ resolveV L p = badR e := by
  unfold resolveV
  by_cases h : (checkV L).1 = 0
  · rw [if_pos h]
    by_cases hr : rightB p = true
    · rw [if_pos hr]
      exact .inl ⟨h, hr, comesH (checkV_ok h).2 8 _ _ (here_nil L) (namesOk_names p)⟩
    · rw [if_neg hr]
      exact .inr ⟨1, by decide, rfl⟩
  · rw [if_neg h]
    exact .inr ⟨_, h, rfl⟩
theorem findL_snoc_none {L : List Nod} {x : Nod} (hx : x.p ≠ [47]) (h : findL L x.p = none) : findL (L ++ [x]) x.p = some x := by
  unfold findL at *
  rw [if_neg hx] at h ⊢
  rw [List.find?_append, h]
  simp
end Go.Proofs.YtnjpodbefcfdhaaDoor
