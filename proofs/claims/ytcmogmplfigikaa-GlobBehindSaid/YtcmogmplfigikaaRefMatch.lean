/- The reference's Match: the same. No conditions. -/
import Derived.Test.YtcmogmplfigikaaLaw1
import Derived.OwnWalk
import Derived.BigRegion
import Derived.Deep.AppendLies
namespace Go.Proofs.Ytcmogmplfigikaa
open Go.RowKit Go.Shelf
attribute [local go_sem ↓] Go.wp_at_zero Go.wp_at_succ
set_option linter.unusedVariables false
set_option linter.unusedSimpArgs false

theorem set_other {W : World} {b k : Nat} {q : Addr} {v x : Value} (hq : q.block ≠ b) (h : W.cell? q = some v) : (W.setCell ⟨b, k, none⟩ x).cell? q = some v :=
  ((Upto.refl (fun z => z = b) W).setCell (p := ⟨b, k, none⟩) (.inl rfl) _).cell hq h
theorem left_elem (l : List UInt8) : ∀ n ∈ leftL (namesL l), n.length ≤ 1000 := fun n h => by
  have := elem_total h
  have := total_leftL l
  omega

set_option maxRecDepth 100000 in
set_option maxHeartbeats 1000000 in
theorem ref_match_bad (g p : ByteArray) (w : World) (h : rightB g.data.toList = false ∨ rightB p.data.toList = false) : Calls Try.prog 14 #[.string g, .string p] w (Ret (.bool false) w) := by
  have R := ref_right_any g
  have Q := ref_right_any p
  cases hg : rightB g.data.toList with
  | false =>
    rw [hg] at R
    clear h
    go_enter Try.func14, Try.ntmps14
    go_wp2_with (go_at_call 22; first | ((with_reducible refine (R _).mono ?_); rintro e w' ⟨rfl, rfl⟩) | ((with_reducible refine (Q _).mono ?_); rintro e w' ⟨rfl, rfl⟩))
    go_ret
    exact ⟨rfl, Below.refl _ _⟩
  | true =>
    have hp : rightB p.data.toList = false := by rcases h with h | h; (rw [hg] at h; cases h); exact h
    rw [hg] at R
    rw [hp] at Q
    clear h
    go_enter Try.func14, Try.ntmps14
    go_wp2_with (go_at_call 22; first | ((with_reducible refine (R _).mono ?_); rintro e w' ⟨rfl, rfl⟩) | ((with_reducible refine (Q _).mono ?_); rintro e w' ⟨rfl, rfl⟩))
    go_ret
    exact ⟨rfl, Below.refl _ _⟩

set_option maxRecDepth 100000 in
set_option maxHeartbeats 8000000 in
theorem ref_match_good (g p : ByteArray) (w : World) (hg : rightB g.data.toList = true) (hp : rightB p.data.toList = true) : Calls Try.prog 14 #[.string g, .string p] w (Ret (.bool (matchM (namesL g.data.toList) (leftL (namesL p.data.toList)))) w) := by
  obtain ⟨i4, hi4, hz4, hs4, hb4⟩ := info_parts info4
  have R := ref_right_any g
  have Q := ref_right_any p
  rw [hg] at R
  rw [hp] at Q
  have NG := ref_names_any g
  have LP := ref_left_any p
  have Hae := Lib.hid (names_elem g.data.toList)
  have Hbe := Lib.hid (left_elem p.data.toList)
  have hal := names_small g.data.toList
  have hbl := left_small p.data.toList
  obtain ⟨a, ha⟩ : ∃ a, namesL g.data.toList = a := ⟨_, rfl⟩
  obtain ⟨b, hb⟩ : ∃ b, leftL (namesL p.data.toList) = b := ⟨_, rfl⟩
  rw [ha] at NG hal Hae ⊢
  rw [hb] at LP hbl Hbe ⊢
  obtain ⟨T, hT⟩ : ∃ T, tabM a b = T := ⟨_, rfl⟩
  have HT := Lib.hid hT
  clear hT hg hp ha hb
  go_enter Try.func14, Try.ntmps14
  go_wp2_with (first
    | (go_at_call 22; first | ((with_reducible refine (R _).mono ?_); rintro e w' ⟨rfl, rfl⟩) | ((with_reducible refine (Q _).mono ?_); rintro e w' ⟨rfl, rfl⟩))
    | (go_at_call 23; (with_reducible refine (NG _).mono ?_); rintro e w0 ⟨v1, rfl, hs1, hb1⟩; have Hs1 := Lib.hid hs1; clear hs1)
    | (go_at_call 24; (with_reducible refine (LP _).mono ?_); rintro e w2 ⟨v2, rfl, ⟨A2, c2, rfl, hc2, hx2⟩, hb2⟩; obtain ⟨A1, c1, rfl, hc1, hx1⟩ := strsAt_below Hs1.out hb2; have Hx1 := Lib.hid hx1; have Hx2 := Lib.hid hx2; clear hx1 hx2)
    | (at_make; refine wpList_make_full _ rfl _ _ 37 rfl _ 4 i4 (.bool false) 1 Try.underlying37 hi4 hz4 hs4 .i64 .i64 _ _ (b.length + 1) rfl rfl (by go_num) (by go_num) (by rw [hb4]; omega) (by unfold maxLen; omega) (Nat.le_refl _) ?_; intro w1 hown1 hgrow1; have hr1 := BoolRow.made hown1; have d1 := hr1.cell (k := b.length) (by omega); have f1 := hr1.frozen b.length))
  have hr2 := hr1.set b.length true
  have hw2 : Below w2.heap.size w2 (w1.setCell ⟨w2.heap.size, b.length, none⟩ (.bool true)) := ((Below.refl _ w2).grown hgrow1 (Nat.le_refl _) (fun k h => by cases h)).setCell (p := ⟨w2.heap.size, b.length, none⟩) (Nat.le_refl _) _
  have hr3 : BoolRow (w1.setCell ⟨w2.heap.size, b.length, none⟩ (.bool true)) w2.heap.size (b.length + 1) (T a.length) := hr2.congr (fun k hk => by
    rw [← HT.out, tabM_last _ _ k (by omega)])
  have hfar : Below w.heap.size w w2 := bchain hb1 hb1.size hb2
  clear hown1 hgrow1 hr1 d1 f1 hr2 hb1 hb2
  go_loopw [7, 8] (fun vn vi wr => RowRel T a.length b.length w2 vn vi wr) (fun _ vi _ => (intOf vi + 1).toNat)
  case atStart => exact ⟨a.length, w2.heap.size, Nat.le_refl _, rfl, rfl, Nat.le_refl _, hr3, hw2⟩
  case round =>
    obtain ⟨j, bn, hj, rfl, rfl, hbn, hrow, hbw⟩ := hrel
    by_cases hj0 : j = 0
    · subst hj0
      have c0 := hrow.cell (k := 0) (by omega)
      have hres : T 0 0 = matchM a b := by rw [← HT.out]; rfl
      have Hres := Lib.hid hres
      clear hres
      go_wp2
      go_ret
      exact ⟨by rw [← Hres.out]; rfl, bchain hfar hfar.size hbw⟩
    · obtain ⟨i, rfl⟩ : ∃ i, j = i + 1 := ⟨j - 1, by omega⟩
      have hji : (((i + 1 : Nat) : Int) - 1) = (i : Int) := by omega
      rw [hji]
      have hig : i < a.length := by omega
      have hig' : (i : Int) < (a.length : Int) := by omega
      obtain ⟨ba, oa, rfl, hlta, hcella⟩ := Hx1.out (by omega)
      obtain ⟨pt, hpt⟩ : ∃ pt, a[i]? = some pt := ⟨_, List.getElem?_eq_getElem hig⟩
      have cA := hcella i pt hpt
      have Hpl := Lib.hid (Hae.out pt (List.mem_of_getElem? hpt))
      have Hpt := Lib.hid hpt
      have tt : (strL pt).toList = pt := ByteArray.toList_eq _
      have NA := fun q hq W => ref_name_any (strL pt) (strL q) (by rw [strL_size]; exact Hpl.out) (by rw [strL_size]; exact hq) W
      simp only [strL_data] at NA
      obtain ⟨t, ht⟩ : ∃ t, strL pt = t := ⟨_, rfl⟩
      rw [ht] at cA tt
      simp only [ht] at NA
      have HNA := Lib.hid NA
      have hbl2 := hrow.lt
      have Hrow := Lib.hid hrow
      have HcA := Lib.hid cA
      clear hji hj0 hrow hr3 hcella hpt NA ht cA
      go_wp2_with (at_make; refine wpList_make_full _ rfl _ _ 37 rfl _ 4 i4 (.bool false) 1 Try.underlying37 hi4 hz4 hs4 .i64 .i64 _ _ (b.length + 1) rfl rfl (by go_num) (by go_num) (by rw [hb4]; omega) (by unfold maxLen; omega) (Nat.le_refl _) ?_; intro w3 hown3 hgrow3; have hr4 := BoolRow.made hown3)
      have hne : bn ≠ wr.heap.size := by omega
      have hbn3 : BoolRow w3 bn (b.length + 1) (T (i + 1)) := Hrow.out.keep (hgrow3.block bn hbl2 (by simp))
      have hbw3 : Below w2.heap.size w2 w3 := hbw.grown hgrow3 hbw.size (fun k h => by cases h)
      have hsz := hbw.size
      obtain ⟨bw, hbwe⟩ : ∃ bw, wr.heap.size = bw := ⟨_, rfl⟩
      rw [hbwe] at hne hr4 hown3 hsz ⊢
      have Hbn3 := Lib.hid hbn3
      have Hbw3 := Lib.hid hbw3
      have Hr4 := Lib.hid hr4
      clear hown3 hgrow3 hbwe hbn3 hbw3 hbw Hrow hr4
      go_loopw [10] (fun vk wr2 => CellRel (T i) b.length bw w3 vk wr2) (fun vk _ => (intOf vk + 1).toNat)
      case atStart => exact ⟨b.length + 1, _, Nat.le_refl _, by go_num, Hr4.out, fun k h1 h2 => by omega, Upto.refl _ _⟩
      case round =>
        obtain ⟨kk, F, hkk, rfl, hrf, hF, hU⟩ := hrel
        by_cases hk0 : kk = 0
        · subst hk0
          have Hrf := Lib.hid hrf
          have HF := Lib.hid hF
          have HU := Lib.hid hU
          clear hrf hF hU
          go_wp2
          go_roundw
          case rel => exact ⟨i, bw, by omega, by go_num, rfl, hsz, Hrf.out.congr (fun k hk => HF.out k (by omega) (by omega)), Hbw3.out.trans (HU.out.toBelow Hbw3.out.size (fun k h => by omega))⟩
          case measure => (simp [intOf] <;> omega)
        · obtain ⟨k, rfl⟩ : ∃ k, kk = k + 1 := ⟨kk - 1, by omega⟩
          have hki : (((k + 1 : Nat) : Int) - 1) = (k : Int) := by omega
          rw [hki]
          have hbr : Below w2.heap.size w2 wr := Hbw3.out.trans (hU.toBelow Hbw3.out.size (fun k h => by omega))
          have cA := (hbr.cell (p := ⟨ba, oa + i, none⟩) hlta).trans HcA.out
          have cw := hrf.cell (k := k) (by omega)
          have fw := hrf.frozen k
          have Hrf := Lib.hid hrf
          have HF := Lib.hid hF
          have HU := Lib.hid hU
          by_cases hdd : pt = [42, 42]
          · have hE : (pt == [42, 42]) = true := by simpa using hdd
            have Hs : Hid (a[i]? = some [42, 42]) := Lib.hid (by rw [Hpt.out, hdd])
            have cn := (Hbn3.out.upto hU hne).cell (k := k) (by omega)
            by_cases hkn : k < b.length
            · have hlt : (k : Int) < (b.length : Int) := by omega
              have cw1 := hrf.cell (k := k + 1) (by omega)
              rw [hF (k + 1) (by omega) (by omega)] at cw1
              have Hx : Hid (T i k = (T (i + 1) k || T i (k + 1))) := Lib.hid (by rw [← HT.out]; exact tabM_star Hs.out hkn)
              clear hki hrf hF hU hk0 hbr hdd
              obtain ⟨x, hx⟩ : ∃ x, T (i + 1) k = x := ⟨_, rfl⟩
              obtain ⟨y, hy⟩ : ∃ y, T i (k + 1) = y := ⟨_, rfl⟩
              rw [hx] at cn Hx
              rw [hy] at cw1 Hx
              clear hx hy
              cases x with
              | true =>
                go_wp2
                go_roundw
                case rel => exact cellRel_next (m := 0) (by omega) Hrf.out HF.out HU.out (by rw [Hx.out]; rfl)
                case measure => (simp [intOf] <;> omega)
              | false =>
                go_wp2
                go_roundw
                case rel => exact cellRel_next (m := 0) (by omega) Hrf.out HF.out HU.out (by rw [Hx.out]; rfl)
                case measure => (simp [intOf] <;> omega)
            · obtain rfl : k = b.length := by omega
              have Hx : Hid (T i b.length = T (i + 1) b.length) := Lib.hid (by rw [← HT.out]; exact tabM_star_end Hs.out)
              clear hki hrf hF hU hk0 hbr hdd
              obtain ⟨x, hx⟩ : ∃ x, T (i + 1) b.length = x := ⟨_, rfl⟩
              rw [hx] at cn Hx
              clear hx
              cases x with
              | true =>
                go_wp2
                go_roundw
                case rel => exact cellRel_next (m := 0) (by omega) Hrf.out HF.out HU.out (by rw [Hx.out])
                case measure => (simp [intOf] <;> omega)
              | false =>
                go_wp2
                go_roundw
                case rel => exact cellRel_next (m := 0) (by omega) Hrf.out HF.out HU.out (by rw [Hx.out])
                case measure => (simp [intOf] <;> omega)
          · have hE : (pt == [42, 42]) = false := by simpa using hdd
            by_cases hkn : k < b.length
            · have hlt : (k : Int) < (b.length : Int) := by omega
              have cn := (Hbn3.out.upto hU hne).cell (k := k + 1) (by omega)
              obtain ⟨bb, ob, rfl, hltb, hcellb⟩ := Hx2.out (by omega)
              obtain ⟨q, hq⟩ : ∃ q, b[k]? = some q := ⟨_, List.getElem?_eq_getElem hkn⟩
              have cB := (hbr.cell (p := ⟨bb, ob + k, none⟩) hltb).trans (hcellb k q hq)
              have Hx : Hid (T i k = (nameM pt q && T (i + 1) (k + 1))) := Lib.hid (by rw [← HT.out]; exact tabM_name Hpt.out hdd hq)
              have NB := HNA.out q (Hbe.out q (List.mem_of_getElem? hq))
              obtain ⟨u, hu⟩ : ∃ u, strL q = u := ⟨_, rfl⟩
              rw [hu] at cB NB
              obtain ⟨x, hxe⟩ : ∃ x, nameM pt q = x := ⟨_, rfl⟩
              rw [hxe] at NB Hx
              have hdec : decide ((k : Int) < (b.length : Int)) = true := by simp; omega
              clear hki hrf hF hU hk0 hbr hdd hcellb hq hu hxe
              obtain ⟨y, hy⟩ : ∃ y, T (i + 1) (k + 1) = y := ⟨_, rfl⟩
              rw [hy] at cn Hx
              clear hy
              have hna : ba ≠ bw := by omega
              have hnb : bb ≠ bw := by omega
              cases y with
              | false =>
                go_wp2
                go_region
                go_wp2
                go_roundw
                case rel => exact cellRel_drew (cellRel_next (m := 0) (by omega) Hrf.out HF.out HU.out (by rw [Hx.out]; simp))
                case measure => (simp [intOf] <;> omega)
              | true =>
                go_wp2
                have hw1 : IntKind.i64.wrap ((k : Int) + 1) = (k : Int) + 1 := IntWalk.i64_in _ (by omega)
                have hw2 : ((k : Int) + 1).toNat = k + 1 := by omega
                have hw3 : (0 : Int) ≤ (k : Int) + 1 := by omega
                have hw4 : (k : Int) + 1 < (b.length : Int) + 1 := by omega
                have hw5 : k + 1 < b.length + 1 := by omega
                have hw6 : k < b.length + 1 := by omega
                have hw7 : (0 : Int) ≤ (k : Int) := by omega
                have hw8 : (k : Int) < (b.length : Int) + 1 := by omega
                have hw9 : (k : Int) ≤ (b.length : Int) := by omega
                have hw10 : ((b.length + 1 : Nat) : Int) = (b.length : Int) + 1 := by omega
                go_region_held3 (fun w' => w'.cell? ⟨bn, k + 1, none⟩ = some (.bool true) ∧ w'.cell? ⟨ba, oa + i, none⟩ = some (.string t) ∧ w'.cell? ⟨bb, ob + k, none⟩ = some (.string u))
                  (first | exact ⟨set_other hne (And.left (by assumption)), set_other hna (And.left (And.right (by assumption))), set_other hnb (And.right (And.right (by assumption)))⟩ | (refine ⟨?_, ?_, ?_⟩ <;> first | assumption | go_keep) | (have hq := hb5; refine ⟨?_, ?_, ?_⟩ <;> first | assumption | exact keep_cell hq (And.left (by assumption)) | exact keep_cell hq (And.left (And.right (by assumption))) | exact keep_cell hq (And.right (And.right (by assumption))) | go_keep))
                  (first | (go_at_call 12; (with_reducible refine (NB _).mono ?_); rintro e w5 ⟨rfl, hb5⟩; have cw5 : w5.cell? ⟨bw, k, none⟩ = some (.bool (F k)) := keep_cell hb5 cw; have fw5 : w5.frozen? ⟨bw, k, none⟩ = false := ((show BoolRow wr.drew bw _ F from Hrf.out).below hb5).frozen k))
                clear hw1 hw2 hw3 hw4 hw5 hw6 hw7 hw8 hw9 hw10
                go_wp2
                go_roundw
                case rel => exact cellRel_next (m := 0) (by omega) ((show BoolRow wr.drew bw _ F from Hrf.out).below hb5) HF.out (HU.out.drew.below hb5) (by rw [Hx.out]; simp)
                case measure => (simp [intOf] <;> omega)
            · obtain rfl : k = b.length := by omega
              have Hx : Hid (T i b.length = false) := Lib.hid (by rw [← HT.out]; exact tabM_name_end Hpt.out hdd)
              clear hki hrf hF hU hk0 hbr hdd
              go_wp2
              go_region
              go_wp2
              go_roundw
              case rel => exact cellRel_drew (cellRel_next (m := 0) (by omega) Hrf.out HF.out HU.out (by rw [Hx.out]))
              case measure => (simp [intOf] <;> omega)
theorem globB_swap (g p : List UInt8) : globB g p = (rightB g && (rightB p && matchM (namesL g) (leftL (namesL p)))) := by
  unfold globB
  cases rightB g <;> cases rightB p <;> rfl
theorem ref_match_any (g p : ByteArray) (w : World) : Calls Try.prog 14 #[.string g, .string p] w (Ret (.bool (globB g.data.toList p.data.toList)) w) := by
  rw [globB_swap]
  cases hg : rightB g.data.toList with
  | false => exact ref_match_bad g p w (.inl hg)
  | true =>
    cases hp : rightB p.data.toList with
    | false => exact ref_match_bad g p w (.inr hp)
    | true => exact ref_match_good g p w hg hp
end Go.Proofs.Ytcmogmplfigikaa
