/- Trees of nodes, plainly: where a path leads leads to itself; trees without links; a link more; links in a row. No conditions. -/
import Derived.Test.YtnjpodbefcfdhaaDoorNodes
namespace Go.Proofs.YtnjpodbefcfdhaaDoor
open Go.RowKit
set_option linter.unusedVariables false
set_option linter.unusedSimpArgs false

/-! ### Where a path leads leads to itself -/
theorem leads_plain {L : List Nod} {p a : List UInt8} {k : Int} (h : resolveV L p = (a, k, 0)) :
    (rightB a = true ∧ cleanL a = a) ∧ resolveV L a = (a, k, 0) ∧ (∃ x, findL L a = some x ∧ x.k = k) ∧ (k = 1 ∨ k = 2) := by
  rcases comesV L p with ⟨hc, hr, h1⟩ | ⟨e, he, h1⟩
  · have ho := (checkV_ok hc).2
    rcases h1 with ⟨_, b, x, hg, hx, h3, h2⟩ | ⟨e, he, h2⟩
    · rw [h] at h2
      injection h2 with e1 e2
      injection e2 with e2 _
      subst e1 e2
      have hl := ho.len hx
      have hrb := right_join hg hl
      have hself : resolveV L (joinL b) = (joinL b, x.k, 0) := by
        unfold resolveV
        rw [if_pos hc, if_pos hrb, names_join hg hl, walkH_eq]
        exact ho.straight _ b [] x hg hx h3
      refine ⟨⟨hrb, by unfold cleanL; rw [left_join hg hl]⟩, hself, ⟨x, hx, rfl⟩, ?_⟩
      rcases ho.kinds hx with h | h | h
      · exact .inl h
      · exact .inr h
      · exact absurd h h3
    · rw [h] at h2
      injection h2 with _ e2
      injection e2 with _ e3
      exact absurd e3.symm he
  · rw [h] at h1
    injection h1 with _ e2
    injection e2 with _ e3
    exact absurd e3.symm he
theorem leads_bad {L : List Nod} {p : List UInt8} (h : (resolveV L p).2.2 ≠ 0) : (resolveV L p).1 = [] ∧ (resolveV L p).2.1 = 0 := by
  rcases comesV L p with ⟨_, _, h1⟩ | ⟨e, he, h1⟩
  · rcases h1 with ⟨h0, _⟩ | ⟨e, he, h2⟩
    · exact absurd h0 h
    · rw [h2]; exact ⟨rfl, rfl⟩
  · rw [h1]; exact ⟨rfl, rfl⟩

/-! ### Trees without links -/
theorem OkL.plain {L : List Nod} (h : OkL L) (hn : ∀ x ∈ L, x.k ≠ 3) (f : List UInt8 → List (List UInt8) → List (List UInt8) → Res) : ∀ (suf pre : List (List UInt8)), Good (pre ++ suf) → (∃ x, findL L (joinL pre) = some x) →
    ((∃ x, findL L (joinL (pre ++ suf)) = some x ∧ walk1 L f pre suf = (joinL (pre ++ suf), x.k, 0)) ∨ (findL L (joinL (pre ++ suf)) = none ∧ (walk1 L f pre suf = badR 17 ∨ walk1 L f pre suf = badR 20)))
  | [], pre, hg, ⟨x, hx⟩ => by
    rw [List.append_nil] at *
    exact .inl ⟨x, hx, by simp [walk1, kindOf, hx]⟩
  | n :: ns, pre, hg, hp => by
    have hd := hg n (by simp)
    have he : pre ++ n :: ns = (pre ++ [n]) ++ ns := by simp
    rw [he] at hg ⊢
    simp only [walk1]
    rw [if_neg hd.2.2.1]
    cases hx : findL L (joinL (pre ++ [n])) with
    | none =>
      simp only
      right
      refine ⟨?_, by first | exact .inl rfl | exact .inl trivial⟩
      cases hq : findL L (joinL ((pre ++ [n]) ++ ns)) with
      | none => rfl
      | some z =>
        exfalso
        by_cases hns : ns = []
        · subst hns
          rw [List.append_nil, hx] at hq; cases hq
        · obtain ⟨y, hy, _⟩ := h.prefixes ns (pre ++ [n]) hg ⟨z, hq⟩ hns
          rw [hx] at hy; cases hy
    | some x =>
      simp only
      by_cases h1 : x.k = 1 ∧ ns ≠ []
      · rw [if_pos h1]
        right
        refine ⟨?_, by first | exact .inr rfl | exact .inr trivial⟩
        cases hq : findL L (joinL ((pre ++ [n]) ++ ns)) with
        | none => rfl
        | some z =>
          exfalso
          obtain ⟨y, hy, hy2⟩ := h.prefixes ns (pre ++ [n]) hg ⟨z, hq⟩ h1.2
          rw [hx] at hy
          cases hy
          omega
      · rw [if_neg h1]
        have h3 : x.k ≠ 3 := by
          rcases (findL_some hx).2 with rfl | hm
          · decide
          · exact hn x hm
        rw [if_neg h3]
        exact h.plain hn f ns (pre ++ [n]) hg ⟨x, hx⟩
theorem plain_plain {L : List Nod} {p : List UInt8} (hc : (checkV L).1 = 0) (hr : rightB p = true) (hn : ∀ x ∈ L, x.k ≠ 3) (hd : ∀ n ∈ namesL p, n ≠ [46, 46]) :
    (∃ x, findL L (cleanL p) = some x ∧ resolveV L p = (cleanL p, x.k, 0)) ∨ (findL L (cleanL p) = none ∧ (resolveV L p = badR 17 ∨ resolveV L p = badR 20)) := by
  have ho := (checkV_ok hc).2
  have hg : Good (namesL p) := fun n hn => names_good hr n hn (hd n hn)
  have hcl : cleanL p = joinL (namesL p) := by unfold cleanL; rw [leftL_good hg]
  have hres : resolveV L p = walk1 L (walkF L 8) [] (namesL p) := by
    unfold resolveV
    rw [if_pos hc, if_pos hr, walkH_eq]
  rw [hres, hcl]
  exact ho.plain hn _ (namesL p) [] hg ⟨rootN, rfl⟩

/-! ### A link more -/
def newN (p : List UInt8) : Nod := ⟨[47, 110, 101, 119], 3, p⟩
/-- With more nodes and one hop less the walk comes to the same, or runs out of hops. -/
theorem more1 {L M : List Nod} (h : OkL L) {f g : List UInt8 → List (List UInt8) → List (List UInt8) → Res}
    (hf : ∀ t a ns r, tgtB t = true → Here L a → NamesOk ns → f t a ns = r → r.2.2 = 0 → g t a ns = r ∨ g t a ns = badR 19) : ∀ (ns a : List (List UInt8)) (r : Res), Here L a → NamesOk ns → walk1 L f a ns = r → r.2.2 = 0 → walk1 (L ++ M) g a ns = r ∨ walk1 (L ++ M) g a ns = badR 19
  | [], a, r, ha, hn, hw, h0 => by
    obtain ⟨hg, x, hx, h3⟩ := ha
    have hx2 := findL_prefix (B := M) hx
    simp only [walk1, kindOf, hx] at hw
    simp only [walk1, kindOf, hx2]
    exact .inl hw
  | n :: ns, a, r, ha, hn, hw, h0 => by
    have hns : NamesOk ns := fun m hm => hn m (by simp [hm])
    have hn1 := hn n (by simp)
    simp only [walk1] at hw ⊢
    by_cases hd : n = [46, 46]
    · rw [if_pos hd] at hw ⊢
      exact more1 h hf ns _ r (here_take h ha) hns hw h0
    · rw [if_neg hd] at hw ⊢
      cases hx : findL L (joinL (a ++ [n])) with
      | none =>
        rw [hx] at hw
        simp only at hw
        subst hw
        exact absurd h0 (by decide)
      | some x =>
        have hx2 := findL_prefix (B := M) hx
        rw [hx] at hw
        rw [hx2]
        simp only at hw ⊢
        by_cases h1 : x.k = 1 ∧ ns ≠ []
        · rw [if_pos h1] at hw
          subst hw
          exact absurd h0 (by decide)
        · rw [if_neg h1] at hw ⊢
          by_cases h3 : x.k = 3
          · rw [if_pos h3] at hw ⊢
            exact hf _ _ _ r (h.link hx h3) ha hns hw h0
          · rw [if_neg h3] at hw ⊢
            exact more1 h hf ns _ r ⟨good_snoc ha.1 (hn1.2 hd), x, hx, h3⟩ hns hw h0
theorem moreH {L M : List Nod} (h : OkL L) : ∀ (k : Nat) (a ns : List (List UInt8)) (r : Res), Here L a → NamesOk ns → walkH L (k + 1) a ns = r → r.2.2 = 0 → walkH (L ++ M) k a ns = r ∨ walkH (L ++ M) k a ns = badR 19
  | 0, a, ns, r, ha, hn, hw, h0 => more1 h (fun _ _ _ _ _ _ _ _ _ => .inr rfl) ns a r ha hn hw h0
  | k + 1, a, ns, r, ha, hn, hw, h0 => more1 h (fun t a ns r ht ha hn hw h0 => moreH h k _ _ r (here_next ha) (namesOk_append (namesOk_parts ht) hn) hw h0) ns a r ha hn hw h0
theorem link_plain {L : List Nod} {p a : List UInt8} {k : Int} (h : resolveV L p = (a, k, 0)) (hc : (checkV (L ++ [newN p])).1 = 0) :
    resolveV (L ++ [newN p]) [47, 110, 101, 119] = (a, k, 0) ∨ resolveV (L ++ [newN p]) [47, 110, 101, 119] = badR 19 := by
  have ho2 := (checkV_ok hc).2
  have hw := ho2 L.length (newN p) (by simp)
  rw [List.take_left' rfl] at hw
  obtain ⟨_, hnone, _⟩ := wrongN_zero hw
  have hnew : findL (L ++ [newN p]) [47, 110, 101, 119] = some (newN p) := findL_snoc_none (x := newN p) (show ([47, 110, 101, 119] : List UInt8) ≠ [47] by decide) hnone
  have hL : (checkV L).1 = 0 := by
    unfold resolveV at h
    by_cases h0 : (checkV L).1 = 0
    · exact h0
    · rw [if_neg h0] at h
      injection h with _ e2
      injection e2 with _ e3
  have ho := (checkV_ok hL).2
  have hr : rightB p = true := by
    unfold resolveV at h
    rw [if_pos hL] at h
    by_cases h0 : rightB p = true
    · exact h0
    · rw [if_neg h0] at h
      injection h with _ e2
      injection e2 with _ e3
      cases e3
  have hw2 : walkH L 8 [] (namesL p) = (a, k, 0) := by
    unfold resolveV at h
    rw [if_pos hL, if_pos hr] at h
    exact h
  have hpl : partsL p = namesL p := by unfold partsL namesL; rw [if_pos hr]
  have hhead : p.head? = some 47 := by
    obtain ⟨l', rfl⟩ := right_head hr
    rfl
  have hg : GoodN [110, 101, 119] := ⟨by decide, by decide, by decide, by decide, by decide⟩
  have hG : Good [[110, 101, 119]] := by
    intro n hn
    obtain rfl : n = [110, 101, 119] := (by simpa using hn)
    exact hg
  have hj : joinL [[110, 101, 119]] = [47, 110, 101, 119] := rfl
  have hnn : namesL [47, 110, 101, 119] = [[110, 101, 119]] := by rw [← hj]; exact names_join hG (by decide)
  have hrn : rightB [47, 110, 101, 119] = true := by rw [← hj]; exact right_join hG (by decide)
  have he : resolveV (L ++ [newN p]) [47, 110, 101, 119] = walkH (L ++ [newN p]) 7 [] (namesL p) := by
    unfold resolveV
    rw [if_pos hc, if_pos hrn, hnn, walkH_eq]
    simp only [walk1]
    rw [if_neg (by decide), List.nil_append, hj, hnew]
    simp only
    rw [if_neg (by intro h; exact h.2 rfl), if_pos (show (newN p).k = 3 from rfl)]
    show walkH (L ++ [newN p]) 7 (nextA p []) (partsL p ++ []) = _
    rw [hpl, List.append_nil]
    congr 1
    unfold nextA
    split <;> rfl
  rw [he]
  exact moreH ho 7 [] (namesL p) _ (here_nil L) (namesOk_names p) hw2 rfl

/-! ### Links in a row -/
def nm (i : Nat) : List UInt8 := [UInt8.ofNat (97 + i)]
def pathN (i : Nat) : List UInt8 := [47, UInt8.ofNat (97 + i)]
theorem pathN_join (i : Nat) : pathN i = joinL [nm i] := rfl
theorem nm_inj {i j : Nat} (hi : i < 100) (hj : j < 100) (h : pathN i = pathN j) : i = j := by
  unfold pathN at h
  injection h with _ h
  injection h with h _
  have h1 := congrArg UInt8.toNat h
  rw [UInt8.toNat_ofNat', UInt8.toNat_ofNat'] at h1
  omega
theorem nm_byte {i : Nat} (hi : i < 100) {b : Nat} (hb : b < 97) : UInt8.ofNat (97 + i) ≠ UInt8.ofNat b := by
  intro h
  have h1 := congrArg UInt8.toNat h
  rw [UInt8.toNat_ofNat', UInt8.toNat_ofNat'] at h1
  omega
theorem nm_good {i : Nat} (hi : i < 100) : GoodN (nm i) := by
  unfold nm
  refine ⟨by simp, ?_, by simp, ?_, ?_⟩
  · intro h
    injection h with h _
    exact nm_byte hi (b := 46) (by omega) h
  · intro b hb
    obtain rfl : b = UInt8.ofNat (97 + i) := by simpa using hb
    exact nm_byte hi (b := 47) (by omega)
  · intro b hb
    obtain rfl : b = UInt8.ofNat (97 + i) := by simpa using hb
    exact nm_byte hi (b := 0) (by omega)
theorem nm_goods {i : Nat} (hi : i < 100) : Good [nm i] := by
  intro n hn
  obtain rfl : n = nm i := (by simpa using hn)
  exact nm_good hi
theorem path_total (i : Nat) : total [nm i] ≤ 256 := by show 2 ≤ 256; omega
theorem path_right {i : Nat} (hi : i < 100) : rightB (pathN i) = true := by rw [pathN_join]; exact right_join (nm_goods hi) (path_total i)
theorem path_names {i : Nat} (hi : i < 100) : namesL (pathN i) = [nm i] := by rw [pathN_join]; exact names_join (nm_goods hi) (path_total i)
theorem path_parts {i : Nat} (hi : i < 100) : partsL (pathN i) = [nm i] := by
  have := path_names hi
  unfold namesL at this
  rw [if_pos (path_right hi)] at this
  exact this
theorem path_clean {i : Nat} (hi : i < 100) : cleanL (pathN i) = pathN i := by unfold cleanL; rw [path_names hi, leftL_good (nm_goods hi)]; rfl
theorem path_up {i : Nat} (hi : i < 100) : upL (pathN i) = [47] := by
  unfold upL
  rw [path_names hi, leftL_good (nm_goods hi)]; rfl
theorem path_root {i : Nat} : pathN i ≠ [47] := by unfold pathN; simp
theorem path_zero {i : Nat} (hi : i < 100) : Lib.indexByte (pathN i) 0 < 0 := by
  have := path_right hi
  unfold rightB at this
  simp only [Bool.and_eq_true, decide_eq_true_eq] at this
  exact this.2.2
/-- Where the i-th of n links leads. -/
def toN (n : Nat) (ring : Bool) (i : Nat) : Nat := if ring && decide (i = n - 1) then 0 else i + 1
def linkN (n : Nat) (ring : Bool) (i : Nat) : Nod := ⟨pathN i, 3, pathN (toN n ring i)⟩
def linksN (n : Nat) (ring : Bool) (m : Nat) : List Nod := (List.range m).map (linkN n ring)
def rowN (n : Nat) (ring : Bool) : List Nod := linksN n ring n ++ (if ring then [] else [⟨pathN n, 1, []⟩])
theorem toN_le {n i : Nat} (hi : i < n) (ring : Bool) : toN n ring i ≤ n := by unfold toN; split <;> omega
theorem link_fine {n i : Nat} {ring : Bool} (hn : n ≤ 20) (hi : i < n) : fineN (linkN n ring i) = true := by
  have ht := toN_le hi ring
  unfold fineN linkN
  simp only
  rw [path_right (by omega), path_clean (by omega)]
  simp only [Bool.true_and, decide_true]
  rw [decide_eq_true path_root]
  unfold formB tgtB
  rw [if_neg (by simp), if_pos rfl, decide_eq_true (show pathN (toN n ring i) ≠ [] from by unfold pathN; simp), decide_eq_true (path_zero (by omega)), decide_eq_true (show ((pathN (toN n ring i)).length : Int) ≤ 256 from by unfold pathN; simp)]
  rfl
theorem find_links {n m : Nat} {ring : Bool} (hm : m ≤ 90) {i : Nat} (hi : i < 90) : findL (linksN n ring m) (pathN i) = if i < m then some (linkN n ring i) else none := by
  induction m with
  | zero => unfold findL linksN; rw [if_neg path_root]; rfl
  | succ m ih =>
    have ih := ih (by omega)
    unfold findL at ih ⊢
    rw [if_neg path_root] at ih ⊢
    unfold linksN at ih ⊢
    rw [List.range_succ, List.map_append, List.find?_append, ih]
    by_cases h1 : i < m
    · rw [if_pos h1, if_pos (by omega)]; rfl
    · rw [if_neg h1]
      by_cases h2 : i = m
      · subst h2
        rw [if_pos (by omega)]
        simp [linkN]
      · rw [if_neg (by omega)]
        have : ¬ pathN m = pathN i := fun h => h2 (nm_inj (by omega) (by omega) h).symm
        simp [linkN, this]
theorem rowN_ok {n : Nat} {ring : Bool} (hn : n ≤ 20) : OkL (rowN n ring) := by
  have hlen : (linksN n ring n).length = n := by unfold linksN; simp
  have root : ∀ A : List Nod, findL A [47] = some rootN := fun A => by unfold findL; rw [if_pos rfl]
  intro k x hx
  unfold rowN at hx ⊢
  by_cases hk : k < n
  · rw [List.getElem?_append_left (by omega)] at hx
    have hx' : x = linkN n ring k := by
      unfold linksN at hx
      rw [List.getElem?_map, List.getElem?_range hk] at hx
      exact (Option.some.inj hx).symm
    subst hx'
    rw [List.take_append_of_le_length (by omega)]
    have htk : (linksN n ring n).take k = linksN n ring k := by
      unfold linksN
      rw [← List.map_take, List.take_range, Nat.min_eq_left (by omega)]
    rw [htk]
    unfold wrongN
    rw [if_pos (link_fine hn hk), show (linkN n ring k).p = pathN k from rfl, find_links (n := n) (m := k) (ring := ring) (by omega) (i := k) (by omega), if_neg (Nat.lt_irrefl k), path_up (i := k) (by omega), root]
    rfl
  · rw [List.getElem?_append_right (by omega), hlen] at hx
    cases ring with
    | true => simp at hx
    | false =>
      have hk2 : k = n := by
        have := (List.getElem?_eq_some_iff.1 hx).1
        simp at this
        omega
      subst hk2
      rw [Nat.sub_self] at hx
      simp at hx
      subst hx
      rw [List.take_left' hlen]
      unfold wrongN
      have hf : fineN ⟨pathN k, 1, []⟩ = true := by
        unfold fineN formB
        simp only
        rw [path_right (by omega), path_clean (by omega), decide_eq_true (show pathN k ≠ [47] from path_root)]
        simp
      rw [if_pos hf]
      simp only
      rw [find_links (n := k) (m := k) (ring := false) (by omega) (i := k) (by omega), if_neg (Nat.lt_irrefl k), path_up (i := k) (by omega), root]
      rfl
theorem rowN_check {n : Nat} {ring : Bool} (hn : n ≤ 20) : checkV (rowN n ring) = (0, -1) := by
  refine checkV_all ?_ (rowN_ok hn)
  unfold rowN linksN
  cases ring <;> simp <;> omega
theorem find_row {n : Nat} {ring : Bool} (hn : n ≤ 20) {i : Nat} (hi : i < n) : findL (rowN n ring) (pathN i) = some (linkN n ring i) := by
  have h1 := find_links (n := n) (m := n) (ring := ring) (by omega) (i := i) (by omega)
  rw [if_pos hi] at h1
  exact findL_prefix h1
theorem find_end {n : Nat} (hn : n ≤ 20) : findL (rowN n false) (pathN n) = some ⟨pathN n, 1, []⟩ := by
  have h1 := find_links (n := n) (m := n) (ring := false) (by omega) (i := n) (by omega)
  rw [if_neg (by omega)] at h1
  exact findL_snoc_none (x := ⟨pathN n, 1, []⟩) path_root h1
/-- From the i-th link on, with h hops left. -/
theorem row_step {n : Nat} {ring : Bool} (hn : n ≤ 20) (h : Nat) {i : Nat} (hi : i < n) : walkH (rowN n ring) h [] [nm i] = match h with | 0 => badR 19 | h + 1 => walkH (rowN n ring) h [] [nm (toN n ring i)] := by
  have hf := find_row (ring := ring) hn hi
  have ht := toN_le hi ring
  have hd : ¬ nm i = [46, 46] := by unfold nm; simp
  rw [walkH_eq]
  simp only [walk1]
  rw [if_neg hd, List.nil_append, ← pathN_join, hf]
  simp only
  rw [if_neg (by intro h; exact h.2 rfl), if_pos (show (linkN n ring i).k = 3 from rfl)]
  cases h with
  | zero => rfl
  | succ h =>
    show walkH (rowN n ring) h (nextA (pathN (toN n ring i)) []) (partsL (pathN (toN n ring i)) ++ []) = _
    rw [path_parts (by omega), List.append_nil]
    congr 1
theorem row_end {n : Nat} (hn : n ≤ 20) (h : Nat) : walkH (rowN n false) h [] [nm n] = (pathN n, 1, 0) := by
  have hf := find_end hn
  have hd : ¬ nm n = [46, 46] := by unfold nm; simp
  rw [walkH_eq]
  simp only [walk1]
  rw [if_neg hd, List.nil_append, ← pathN_join, hf]
  simp [kindOf, hf]
theorem row_walk {n : Nat} (hn : n ≤ 20) : ∀ (h i : Nat), i ≤ n → walkH (rowN n false) h [] [nm i] = if n - i ≤ h then (pathN n, 1, 0) else badR 19
  | h, i, hi => by
    rcases Nat.eq_or_lt_of_le hi with rfl | hlt
    · rw [row_end hn, if_pos (by omega)]
    · rw [row_step hn h hlt]
      match h with
      | 0 => simp only; rw [if_neg (by omega)]
      | h + 1 =>
        simp only
        rw [show toN n false i = i + 1 from rfl, row_walk hn h (i + 1) hlt]
        by_cases hh : n - i ≤ h + 1
        · rw [if_pos hh, if_pos (by omega)]
        · rw [if_neg hh, if_neg (by omega)]
theorem ring_walk {n : Nat} (h1 : 1 ≤ n) (hn : n ≤ 20) : ∀ (h i : Nat), i < n → walkH (rowN n true) h [] [nm i] = badR 19
  | 0, i, hi => row_step hn 0 hi
  | h + 1, i, hi => by
    rw [row_step hn (h + 1) hi]
    simp only
    refine ring_walk h1 hn h _ ?_
    unfold toN
    by_cases hi2 : i = n - 1
    · rw [if_pos (by simp [hi2])]; omega
    · rw [if_neg (by simp [hi2])]; omega
theorem ring_plain {n : Nat} {ring : Bool} (h1 : 1 ≤ n) (hn : n ≤ 20) : resolveV (rowN n ring) (pathN 0) = if ring || decide (8 < n) then badR 19 else (pathN n, 1, 0) := by
  unfold resolveV
  rw [rowN_check hn, if_pos rfl, if_pos (path_right (by omega)), path_names (by omega)]
  cases ring with
  | true => rw [ring_walk h1 hn 8 0 (by omega)]; rfl
  | false =>
    rw [row_walk hn 8 0 (by omega)]
    by_cases h8 : 8 < n
    · rw [if_neg (by omega), if_pos (by simp [h8])]
    · rw [if_pos (by omega), if_neg (by simp [h8])]
end Go.Proofs.YtnjpodbefcfdhaaDoor
