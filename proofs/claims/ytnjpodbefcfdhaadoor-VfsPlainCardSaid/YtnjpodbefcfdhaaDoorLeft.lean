/- The names that are left of a path: the program's own loop over the iterator. No conditions. -/
import Derived.Test.YtnjpodbefcfdhaaDoorNames
import Derived.WalkSmall
namespace Go.Proofs.YtnjpodbefcfdhaaDoor
open Go.RowKit Go.Shelf
attribute [local go_sem] Oper.semAt_some
set_option linter.unusedVariables false
set_option linter.unusedSimpArgs false

set_option maxHeartbeats 1000000 in
theorem all_in (n : Nat) (s : ByteArray) (w : World) :
    CallsIn Fence.wide n Tryd.prog 15 #[.string s] w fun e w' => e = .returned (.func (.func 27) #[] #[.pointer (some ⟨w.heap.size, 0, none⟩)]) ∧ w' = w.alloc (.cells #[.string s] 9) := by
  refine callsIn_of_wp Tryd.func15 rfl trivial ?_ rfl
  simp only [Tryd.ntmps15, List.size_toArray, List.length_cons, List.length_nil, Nat.reduceAdd, Nat.reduceSub, Array.replicate_succ, Array.replicate_zero, List.push_toArray, List.append_toArray, List.nil_append, List.cons_append]
  gi_wp2
  go_ret
  exact ⟨rfl, rfl⟩

theorem names_stops (n : Nat) (hn : 1 ≤ n) (Bn n₀ : Nat) (s : ByteArray) (w : World) (hBn : Bn < w.heap.size)
    (hc : w.cell? ⟨Bn, 0, none⟩ = some (.string s)) :
    SeqStopsK Fence.wide n Tryd.prog 27 #[.pointer (some ⟨Bn, 0, none⟩)] (fun x : ByteArray => #[Value.string x]) (Below n₀) (fun ys => ys = namesS s) (fun pre => pre <+: namesS s) (namesS s).length w := fun l J Jx W hW hJ _ hY h0 =>
  names1_in n hn l Bn n₀ s J Jx hY (fun pre W' h => hJ pre W' W'.drew none h ⟨rfl, rfl, rfl, Nat.le_refl _, fun _ _ _ => rfl⟩ (fun r e => by cases e)) W ((hW.cell (p := ⟨Bn, 0, none⟩) hBn).trans hc) h0

theorem info9 : (Tryd.prog.info? 9).map (fun i => (i.zero, i.size, i.bytes)) = some (some (.string ⟨#[]⟩), 1, 16) := by kernel_rfl

/-- What is left of names that are strings. -/
def leftP (pre : List ByteArray) : List (List UInt8) := leftL (pre.map (·.data.toList))
def rowP (ns : List (List UInt8)) : List Value := ns.map fun n => .string (strL n)
theorem rowP_len (ns : List (List UInt8)) : (rowP ns).length = ns.length := by simp [rowP]
theorem leftP_snoc (pre : List ByteArray) (x : ByteArray) : leftP (pre ++ [x]) = stepL (leftP pre) x.data.toList := by unfold leftP; rw [List.map_append]; exact leftL_snoc _ _
theorem leftP_dots (pre : List ByteArray) {x : ByteArray} (h : x.data.toList = [46, 46]) : leftP (pre ++ [x]) = (leftP pre).take ((leftP pre).length - 1) := by rw [leftP_snoc, h]; rfl
theorem leftP_more (pre : List ByteArray) {x : ByteArray} (h : ¬ x.data.toList = [46, 46]) : leftP (pre ++ [x]) = leftP pre ++ [x.data.toList] := by rw [leftP_snoc]; unfold stepL; rw [if_neg h]
theorem stepL_len (o : List (List UInt8)) (n : List UInt8) : (stepL o n).length ≤ o.length + 1 := by unfold stepL; split <;> simp <;> omega
theorem leftP_len : ∀ (pre : List ByteArray), (leftP pre).length ≤ pre.length := by
  have h : ∀ (l o : List (List UInt8)), (l.foldl stepL o).length ≤ o.length + l.length := by
    intro l
    induction l with
    | nil => intro o; simp
    | cons n l ih => intro o; have := ih (stepL o n); have := stepL_len o n; simp; omega
  intro pre
  have := h (pre.map (·.data.toList)) []
  unfold leftP leftL; simpa using this
theorem pieces_len : ∀ (k : Nat) (l : List UInt8), l.length ≤ k → (pieces l).length ≤ l.length + 1
  | 0, l, h => by
    obtain rfl : l = [] := List.length_eq_zero_iff.1 (by omega)
    rw [pieces_no (by decide)]; simp
  | k + 1, l, h => by
    by_cases hi : Lib.indexByte l 47 < 0
    · rw [pieces_no hi]; simp
    · obtain ⟨i, hi⟩ : ∃ i : Nat, Lib.indexByte l 47 = i := ⟨(Lib.indexByte l 47).toNat, by omega⟩
      have hil : i < l.length := (List.getElem?_eq_some_iff.1 (Lib.indexByte_some hi).1).1
      rw [pieces_yes hi]
      have := pieces_len k (l.drop (i + 1)) (by simp; omega)
      simp at this ⊢; omega
theorem namesS_len (s : ByteArray) : (namesS s).length ≤ 257 := by
  unfold namesS namesL
  by_cases hr : rightB s.data.toList = true
  · rw [if_pos hr, List.length_map]
    have h := hr
    unfold rightB at h
    simp only [Bool.and_eq_true, decide_eq_true_eq] at h
    have := List.length_filter_le nameB (pieces s.data.toList)
    have := pieces_len _ s.data.toList (Nat.le_refl _)
    omega
  · rw [if_neg hr]; simp
theorem leftP_namesS (s : ByteArray) : leftP (namesS s) = leftL (namesL s.data.toList) := by
  unfold leftP namesS
  rw [List.map_map]
  exact congrArg leftL (List.map_id'' (fun n => strL_data n) _)

set_option maxRecDepth 100000 in
set_option maxHeartbeats 2000000 in
theorem left_in (s : ByteArray) (w : World) :
    CallsIn Fence.wide 3 Tryd.prog 24 #[.string s] w fun e W' => ∃ v, e = .returned v ∧ W'.ownsRow w.heap.size 9 1 v (leftL (namesL s.data.toList)).length (rowP (leftL (namesL s.data.toList))) ∧ Below w.heap.size w W' := by
  have h1 : 1 ≤ 3 := by omega
  have hNl := namesS_len s
  obtain ⟨i0, hi, hz0, hz1, hz2⟩ := info_parts info9
  refine callsIn_of_wp_marks Tryd.func24 rfl trivial ?_ rfl
  simp only [Tryd.ntmps24, List.size_toArray, List.length_cons, List.length_nil, Nat.reduceAdd, Nat.reduceSub, Array.replicate_succ, Array.replicate_zero, List.push_toArray, List.append_toArray, List.nil_append, List.cons_append]
  gi_wp2_with (refine ⟨trivial, ?_⟩; gi_at_call 15; refine (all_in _ _ _).mono ?_; rintro e w' ⟨rfl, rfl⟩)
  have bO := Boxed.new w 43 (.slice none 0 0)
  have bN := Boxed.new (w.alloc (.cells #[.slice none 0 0] 43)) 9 (.string s)
  rw [World.size_alloc] at bN
  have hB0 : Below w.heap.size w ((w.alloc (.cells #[.slice none 0 0] 43)).alloc (.cells #[.string s] 9)) := ((Below.refl _ w).alloc (Nat.le_refl _) _).alloc (by simp) _
  refine wpIn_rangeFunc_ownG rfl h1 (gf := 27) (lb := #[.pointer (some ⟨w.heap.size + 1, 0, none⟩)]) rfl trivial (enters_of Tryd.func27 (by kernel_rfl) rfl)
    (names_stops _ (by omega) (w.heap.size + 1) w.heap.size s _ (by simp) bN.cell) belowK_t (belowK_b (by simp; omega)) (Below.refl _ _) (fun _ => rfl)
    (fun pre W => (∃ v, Boxed W w.heap.size 43 v ∧ W.ownsRow w.heap.size 9 1 v (leftP pre).length (rowP (leftP pre)) ∧ True) ∧ Below w.heap.size w W)
    (fun _ _ _ => False)
    (OwnFrom.and (Own.from (holdsRow_own w.heap.size w.heap.size 43 9 1 (fun pre => (leftP pre).length) (fun pre => rowP (leftP pre)) (fun pre v => True)) _) (ownFrom_below (Nat.le_refl _) (by simp; omega)))
    (fun _ _ _ _ _ hs _ _ => hs)
    ⟨⟨_, bO.alloc _, World.ownsRow_nil _ _ _ _, trivial⟩, hB0⟩
    (fun x => { tmps := #[.string s, undef, .slice none 0 0, .pointer (some ⟨w.heap.size, 0, none⟩), .string x, .string s, .func (.func 27) #[] #[.pointer (some ⟨w.heap.size + 1, 0, none⟩)], .string x, undef, undef, undef, undef, undef, undef, undef, undef, undef, undef, undef, undef, undef, undef, undef], defers := [] }) ?assign ?body ?done ?stop
  case assign =>
    intro l x W K hK
    gi_wp2
    exact hK
  case body =>
    rintro l pre x W ⟨⟨v, hv, hrow, -⟩, hB⟩ hlt
    have hc := hv.cell
    have hpl := leftP_len pre
    have hml : 1000 ≤ maxLen := by decide
    have tl : x.toList = x.data.toList := ByteArray.toList_eq _
    by_cases hdd : x.data.toList = [46, 46]
    · have hd : (x.data.toList == [46, 46]) = true := by simpa using hdd
      rcases Nat.eq_zero_or_pos (leftP pre).length with h0 | h0
      · have hx2 : leftP (pre ++ [x]) = leftP pre := by rw [leftP_dots pre hdd, h0]; simp; exact List.length_eq_zero_iff.1 h0
        have hfin : ((∃ v, Boxed W w.heap.size 43 v ∧ W.ownsRow w.heap.size 9 1 v (leftP (pre ++ [x])).length (rowP (leftP (pre ++ [x]))) ∧ True) ∧ Below w.heap.size w W) := by
          rw [hx2]; exact ⟨⟨v, hv, hrow, trivial⟩, hB⟩
        have Hfin := Lib.hid hfin
        obtain ⟨A, c, rfl⟩ : ∃ A c, v = .slice A 0 c := by
          rcases hrow.2 with ⟨rfl, _⟩ | ⟨g, cap, cur, rfl, _⟩
          · exact ⟨_, _, rfl⟩
          · rw [h0]; exact ⟨_, _, rfl⟩
        clear hfin hx2 hrow h0 hpl hlt hdd
        gi_wp2
        exact ⟨KeepsFrom.refl _ _, Below.refl _ _, Hfin.out⟩
      · obtain ⟨k, hk⟩ : ∃ k, (leftP pre).length = k + 1 := ⟨(leftP pre).length - 1, by omega⟩
        have hsplit : rowP (leftP pre) = rowP ((leftP pre).take k) ++ rowP ((leftP pre).drop k) := by unfold rowP; rw [← List.map_append, List.take_append_drop]
        have hx2 : leftP (pre ++ [x]) = (leftP pre).take k := by rw [leftP_dots pre hdd, hk]; simp
        have hkl : ((leftP pre).take k).length = k := by simp; omega
        rw [hk, hsplit] at hrow
        obtain ⟨g, cap, rfl⟩ := ownsRow_succ hrow
        have hpop := ownsRow_pop (by rw [rowP_len, hkl]; omega) hrow
        have hne := hv.not_row (by decide) hrow
        have hcap : k + 1 ≤ cap ∧ cap ≤ maxLen := by
          rcases hrow.2 with ⟨h, _⟩ | ⟨g', cap', cur, h, _, _, h1, h2, _⟩
          · cases h
          · cases h; exact ⟨h1, h2⟩
        have hfin : Below w.heap.size W (W.setCell ⟨w.heap.size, 0, none⟩ (.slice (some ⟨g, 0, none⟩) k cap)) ∧ (∃ v, Boxed (W.setCell ⟨w.heap.size, 0, none⟩ (.slice (some ⟨g, 0, none⟩) k cap)) w.heap.size 43 v ∧ (W.setCell ⟨w.heap.size, 0, none⟩ (.slice (some ⟨g, 0, none⟩) k cap)).ownsRow w.heap.size 9 1 v (leftP (pre ++ [x])).length (rowP (leftP (pre ++ [x]))) ∧ True) := by
          rw [hx2, hkl]
          exact ⟨(Below.refl _ W).setCell (p := ⟨w.heap.size, 0, none⟩) (Nat.le_refl _) _, _, hv.set _, hpop.kept (grownBy_setCell' W w.heap.size _) (.inr hne.symm), trivial⟩
        have Hfin := Lib.hid hfin
        have hf := hv.frozen
        have hkm : k ≤ maxLen := by omega
        have hk1 : k ≤ 300 := by omega
        obtain ⟨hcap1, hcap2⟩ := hcap
        clear hfin hx2 hrow h0 hpl hlt hdd hpop hne hsplit hkl hk hml
        gi_wp2
        exact ⟨(KeepsOthers.setCell _ _ _).from _, Hfin.out.1, Hfin.out.2, hB.trans Hfin.out.1⟩
    · have hd : (x.data.toList == [46, 46]) = false := by simpa using hdd
      gi_wp2_with (gi_at_builtin; refine wpListIn_append_own _ rfl _ _ 43 rfl w.heap.size 9 i0 (.string ⟨#[]⟩) 1 16 Tryd.underlying43 hi hz0 hz1 hz2 rfl (by decide) _ _ _ rfl (hrow.alloc _) ⟨W.heap.size, 0, none⟩ 1 1 [.string x] rfl rfl (cell_one_new _ _ _) (by simp [Value.oneCell']) (by omega) (by omega) (by have := hB.size; simp; omega) ?_; intro v' w1 hown' hgrow _; obtain ⟨g', cap', rfl⟩ := ownsRow_succ hown'; obtain ⟨hv1, hv2, hr2, hk2, hb2⟩ := hv.appended (by decide) hrow hB.size (Nat.le_refl _) hown' hgrow; have hc1 := hv1.cell; have hf1 := hv1.frozen)
      exact ⟨hk2.from _, hb2, ⟨_, hv2, by rw [leftP_more pre hdd]; simpa [rowP, strL_of] using hr2, trivial⟩, hB.trans hb2⟩
  case done =>
    rintro D ys W hD rfl ⟨⟨v, hv, hrow, -⟩, hB⟩ hK
    have hc := hv.cell
    rw [leftP_namesS] at hrow
    gi_wp2
    refine ⟨by simp, .inl ⟨_, _, rfl, run_takeDeferred hK, ?_⟩⟩
    exact ⟨_, results_tmp rfl _ _ _, v, rfl, ownsRow_putObj hrow _ hK rfl, hB.trans (belowK_b (w := w) (Nat.le_refl _) W D _ _ (by simp at hD; omega) hK rfl rfl)⟩
  case stop =>
    rintro D c pre W _ _ h _
    exact h.elim

theorem strsAt_below {W W' : World} {v : Value} {ns : List (List UInt8)} (h : StrsAt W v ns) (hb : Below W.heap.size W W') : StrsAt W' v ns := by
  obtain ⟨A, c, rfl, hc, hr⟩ := h
  refine ⟨A, c, rfl, hc, fun h0 => ?_⟩
  obtain ⟨b, o, rfl, hlt, hx⟩ := hr h0
  exact ⟨b, o, rfl, Nat.lt_of_lt_of_le hlt hb.size, fun j n hj => (hb.cell (p := ⟨b, o + j, none⟩) hlt).trans (hx j n hj)⟩
theorem strsAt_of_row {W : World} {base : Nat} {v : Value} {ns : List (List UInt8)} (h : W.ownsRow base 9 1 v ns.length (rowP ns)) : StrsAt W v ns := by
  obtain ⟨hl, ⟨rfl, h0⟩ | ⟨g, cap, cur, rfl, hg, hh, hn, hcap, hsz, htake⟩⟩ := h
  · exact ⟨none, 0, by rw [h0], by omega, fun h => by omega⟩
  · refine ⟨_, cap, rfl, hn, fun _ => ⟨g, 0, rfl, (Array.getElem?_eq_some_iff.1 hh).1, fun j n hj => ?_⟩⟩
    have hjl : j < ns.length := (List.getElem?_eq_some_iff.1 hj).1
    have h1 : (cur.toList.take (ns.length * 1))[j]? = some (.string (strL n)) := by
      rw [htake]; unfold rowP; rw [List.getElem?_map, hj]; rfl
    rw [List.getElem?_take, if_pos (by omega)] at h1
    simp [World.cell?, hh]
    simpa using h1

theorem total_append (a b : List (List UInt8)) : total (a ++ b) = total a + total b := by simp [total, flatL]
theorem total_take (k : Nat) (a : List (List UInt8)) : total (a.take k) ≤ total a := by
  have h := total_append (a.take k) (a.drop k)
  rw [List.take_append_drop] at h; omega
theorem total_step (o : List (List UInt8)) (n : List UInt8) : total (stepL o n) ≤ total o + (n.length + 1) := by
  unfold stepL
  split
  · have := total_take (o.length - 1) o; omega
  · rw [total_append]; simp [total, flatL]
theorem total_left : ∀ (l o : List (List UInt8)), total (l.foldl stepL o) ≤ total o + total l
  | [], o => by simp
  | n :: l, o => by
    have h1 := total_left l (stepL o n)
    have h2 := total_step o n
    have h3 := total_append [n] l
    have h4 : total [n] = n.length + 1 := by simp [total, flatL]
    simp at h3 ⊢; omega
theorem total_filter (p : List UInt8 → Bool) : ∀ (l : List (List UInt8)), total (l.filter p) ≤ total l
  | [] => by simp
  | n :: l => by
    have h1 := total_filter p l
    have h3 := total_append [n] l
    have h5 := total_append [n] (l.filter p)
    rw [List.filter_cons]
    simp at h3 h5 ⊢
    split <;> omega
theorem total_pieces : ∀ (k : Nat) (l : List UInt8), l.length ≤ k → total (pieces l) ≤ l.length + 1
  | 0, l, h => by
    obtain rfl : l = [] := List.length_eq_zero_iff.1 (by omega)
    rw [pieces_no (by decide)]; simp [total, flatL]
  | k + 1, l, h => by
    by_cases hi : Lib.indexByte l 47 < 0
    · rw [pieces_no hi]; simp [total, flatL]
    · obtain ⟨i, hi⟩ : ∃ i : Nat, Lib.indexByte l 47 = i := ⟨(Lib.indexByte l 47).toNat, by omega⟩
      have hil : i < l.length := (List.getElem?_eq_some_iff.1 (Lib.indexByte_some hi).1).1
      rw [pieces_yes hi]
      have := total_pieces k (l.drop (i + 1)) (by simp; omega)
      have h3 := total_append [l.take i] (pieces (l.drop (i + 1)))
      have h4 : total [l.take i] = (l.take i).length + 1 := by simp [total, flatL]
      simp at this h3 h4 ⊢; omega
theorem right_len {l : List UInt8} (h : rightB l = true) : l.length ≤ 256 := by
  unfold rightB at h
  simp only [Bool.and_eq_true, decide_eq_true_eq] at h
  omega
theorem total_names (l : List UInt8) : total (namesL l) ≤ 257 := by
  unfold namesL
  by_cases hr : rightB l = true
  · rw [if_pos hr]
    have := total_filter nameB (pieces l)
    have := total_pieces _ l (Nat.le_refl _)
    have := right_len hr
    omega
  · rw [if_neg hr]; simp [total, flatL]
theorem total_leftL (l : List UInt8) : total (leftL (namesL l)) ≤ 257 := by
  have h1 := total_left (namesL l) []
  have h2 := total_names l
  have h3 : total [] = 0 := rfl
  unfold leftL
  omega
theorem left_small (l : List UInt8) : (leftL (namesL l)).length ≤ 257 := by
  have h := total_leftL l
  have h2 : ∀ ns : List (List UInt8), ns.length ≤ total ns := by
    intro ns
    induction ns with
    | nil => simp
    | cons n ns ih =>
      have h3 := total_append [n] ns
      have h4 : total [n] = n.length + 1 := by simp [total, flatL]
      simp at h3 ⊢; omega
  exact Nat.le_trans (h2 _) h

/-- What a list of names comes back as. -/
def Gives (ns : List (List UInt8)) (w : World) (e : Ending) (W' : World) : Prop := ∃ v, e = .returned v ∧ StrsAt W' v ns ∧ Below w.heap.size w W'
theorem left_any (s : ByteArray) (w : World) : Calls Tryd.prog 24 #[.string s] w (Gives (leftL (namesL s.data.toList)) w) :=
  callsIn_wide.1 ((left_in s w).mono (by rintro e W' ⟨v, rfl, hr, hb⟩; exact ⟨v, rfl, strsAt_of_row hr, hb⟩))
end Go.Proofs.YtnjpodbefcfdhaaDoor
