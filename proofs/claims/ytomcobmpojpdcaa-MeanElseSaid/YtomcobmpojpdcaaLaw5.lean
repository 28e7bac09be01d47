/- MeanElse: it answers true. Condition: the rules and the call can be read. -/
import Derived.Test.YtomcobmpojpdcaaLaw4
namespace Go.Proofs.Ytomcobmpojpdcaa
open Go.RowKit
attribute [local go_sem ↓] Go.wp_at_zero Go.wp_at_succ
set_option linter.unusedVariables false
set_option linter.unusedSimpArgs false

theorem decL_none {nr x0 x1 x2 x3 x4 x5 k a : Int} : ∀ {L : List Rul}, spkL L nr = false → decL nr x0 x1 x2 x3 x4 x5 k a L = (k, a)
  | [], _ => rfl
  | r :: L, h => by
    have h' : spokenB r.ns nr = false ∧ spkL L nr = false := by simpa [spkL] using h
    have hm : meetsB nr x0 x1 x2 x3 x4 x5 r = false := by unfold meetsB; rw [h'.1]; rfl
    rw [decL, hm]
    exact decL_none h'.2
theorem not_spoken {L : List Rul} {nr : Int} (h : nr ∉ numsV L) : spkL L nr = false := by
  cases hs : spkL L nr with
  | false => rfl
  | true => exact absurd (List.mem_filter.2 ⟨spk_all hs, hs⟩) h
theorem numsV_up (L : List Rul) : (numsV L).Pairwise (· < ·) := allN_up.sublist List.filter_sublist

set_option maxRecDepth 100000 in
set_option maxHeartbeats 4000000 in
theorem law_else (k a nr ar ip x0 x1 x2 x3 x4 x5 : Int) (lv : Value) (L : List Rul) (w : World) (hL : RulsAt w lv L) :
    Calls Try.prog 8 #[.agg #[.int .i64 k, .int .i64 a, lv], .agg #[.int .u32 nr, .int .u32 ar, .int .u64 ip, .int .u64 x0, .int .u64 x1, .int .u64 x2, .int .u64 x3, .int .u64 x4, .int .u64 x5]] w (Ret (.bool true) w) := by
  have A := awake_any
  have ae := fun (W : World) => act_eq W
  have ag := act_guard
  have R := fun w1 hb => light_any k a lv L w1 (ruls_below (w := w) (w1 := w1) hb hL)
  have D := fun w1 hb => decide_any k a nr ar ip x0 x1 x2 x3 x4 x5 lv L w1 (ruls_below (w := w) (w1 := w1) hb hL)
  have C := fun w1 hb => check_any k a lv L w1 (ruls_below (w := w) (w1 := w1) hb hL)
  have NA := fun w1 hb h => numbers_any k a lv L w1 (ruls_below (w := w) (w1 := w1) hb hL) h
  unfold decT at D
  unfold pairT at C
  obtain ⟨y, hy⟩ : ∃ y, lightB L = y := ⟨_, rfl⟩
  obtain ⟨⟨⟨p, q⟩, r⟩, hp⟩ : ∃ p, decV nr ar x0 x1 x2 x3 x4 x5 k a L = p := ⟨_, rfl⟩
  obtain ⟨⟨f, m⟩, hc⟩ : ∃ p, checkV k a L = p := ⟨_, rfl⟩
  rw [hy] at R NA
  rw [hp] at D
  rw [hc] at C
  unfold decV at hp
  rw [hc] at hp
  have Hp := Lib.hid hp
  have Hup := Lib.hid (numsV_up L)
  have Hlen := Lib.hid (numsV_len L)
  clear hy hp hc
  obtain ⟨A0, c0, rfl⟩ := hL.form
  obtain ⟨n, hn⟩ : ∃ n, L.length = n := ⟨_, rfl⟩
  rw [hn] at R D C NA ⊢
  clear hL hn
  have hbox0 := below_alloc w (.cells #[.int .i64 k, .int .i64 a, .slice A0 n c0] 33)
  have hbox := bchain hbox0 hbox0.size (below_alloc _ (.cells #[.int .u32 nr, .int .u32 ar, .int .u64 ip, .int .u64 x0, .int .u64 x1, .int .u64 x2, .int .u64 x3, .int .u64 x4, .int .u64 x5] 41))
  clear hbox0
  go_enter Try.func8, Try.ntmps8
  go_wp2_with fail
  refine (A _).mono ?_
  rintro e w1 ⟨rfl, hb1⟩
  have b0 : w1.cell? ⟨w.heap.size, 0, none⟩ = some (.int .i64 k) := keep_cell hb1 (by go_keep)
  have b1 : w1.cell? ⟨w.heap.size, 1, none⟩ = some (.int .i64 a) := keep_cell hb1 (by go_keep)
  have b2 : w1.cell? ⟨w.heap.size, 2, none⟩ = some (.slice A0 n c0) := keep_cell hb1 (by go_keep)
  have lb : w.heap.size < w1.heap.size := World.block_lt_of_cell? w1 _ b0
  have d0 : w1.cell? ⟨w.heap.size + 1, 0, none⟩ = some (.int .u32 nr) := keep_cell hb1 (by go_keep)
  have d1 : w1.cell? ⟨w.heap.size + 1, 1, none⟩ = some (.int .u32 ar) := keep_cell hb1 (by go_keep)
  have d2 : w1.cell? ⟨w.heap.size + 1, 2, none⟩ = some (.int .u64 ip) := keep_cell hb1 (by go_keep)
  have d3 : w1.cell? ⟨w.heap.size + 1, 3, none⟩ = some (.int .u64 x0) := keep_cell hb1 (by go_keep)
  have d4 : w1.cell? ⟨w.heap.size + 1, 4, none⟩ = some (.int .u64 x1) := keep_cell hb1 (by go_keep)
  have d5 : w1.cell? ⟨w.heap.size + 1, 5, none⟩ = some (.int .u64 x2) := keep_cell hb1 (by go_keep)
  have d6 : w1.cell? ⟨w.heap.size + 1, 6, none⟩ = some (.int .u64 x3) := keep_cell hb1 (by go_keep)
  have d7 : w1.cell? ⟨w.heap.size + 1, 7, none⟩ = some (.int .u64 x4) := keep_cell hb1 (by go_keep)
  have d8 : w1.cell? ⟨w.heap.size + 1, 8, none⟩ = some (.int .u64 x5) := keep_cell hb1 (by go_keep)
  have ld : w.heap.size + 1 < w1.heap.size := World.block_lt_of_cell? w1 _ d0
  have hw1 := bchain hbox hbox.size hb1
  clear hb1 hbox A
  go_wp2_with fail
  refine (R _ hw1).mono ?_
  rintro e w2 ⟨rfl, hb2⟩
  replace b0 : w2.cell? ⟨w.heap.size, 0, none⟩ = some (.int .i64 k) := keep_cell hb2 b0
  replace b1 : w2.cell? ⟨w.heap.size, 1, none⟩ = some (.int .i64 a) := keep_cell hb2 b1
  replace b2 : w2.cell? ⟨w.heap.size, 2, none⟩ = some (.slice A0 n c0) := keep_cell hb2 b2
  replace lb : w.heap.size < w2.heap.size := World.block_lt_of_cell? w2 _ b0
  replace d0 : w2.cell? ⟨w.heap.size + 1, 0, none⟩ = some (.int .u32 nr) := keep_cell hb2 d0
  replace d1 : w2.cell? ⟨w.heap.size + 1, 1, none⟩ = some (.int .u32 ar) := keep_cell hb2 d1
  replace d2 : w2.cell? ⟨w.heap.size + 1, 2, none⟩ = some (.int .u64 ip) := keep_cell hb2 d2
  replace d3 : w2.cell? ⟨w.heap.size + 1, 3, none⟩ = some (.int .u64 x0) := keep_cell hb2 d3
  replace d4 : w2.cell? ⟨w.heap.size + 1, 4, none⟩ = some (.int .u64 x1) := keep_cell hb2 d4
  replace d5 : w2.cell? ⟨w.heap.size + 1, 5, none⟩ = some (.int .u64 x2) := keep_cell hb2 d5
  replace d6 : w2.cell? ⟨w.heap.size + 1, 6, none⟩ = some (.int .u64 x3) := keep_cell hb2 d6
  replace d7 : w2.cell? ⟨w.heap.size + 1, 7, none⟩ = some (.int .u64 x4) := keep_cell hb2 d7
  replace d8 : w2.cell? ⟨w.heap.size + 1, 8, none⟩ = some (.int .u64 x5) := keep_cell hb2 d8
  replace ld : w.heap.size + 1 < w2.heap.size := World.block_lt_of_cell? w2 _ d0
  have hw2 := bchain hw1 hw1.size hb2
  clear hb2 R
  cases y with
  | false =>
    go_wp2_with fail
    go_ret
    exact ⟨rfl, hw2⟩
  | true =>
  replace NA := fun w1 hb => NA w1 hb rfl
  go_wp2_with fail
  refine (D _ hw2).mono ?_
  rintro e w3 ⟨rfl, hb3⟩
  replace b0 : w3.cell? ⟨w.heap.size, 0, none⟩ = some (.int .i64 k) := keep_cell hb3 b0
  replace b1 : w3.cell? ⟨w.heap.size, 1, none⟩ = some (.int .i64 a) := keep_cell hb3 b1
  replace b2 : w3.cell? ⟨w.heap.size, 2, none⟩ = some (.slice A0 n c0) := keep_cell hb3 b2
  replace lb : w.heap.size < w3.heap.size := World.block_lt_of_cell? w3 _ b0
  replace d0 : w3.cell? ⟨w.heap.size + 1, 0, none⟩ = some (.int .u32 nr) := keep_cell hb3 d0
  replace d1 : w3.cell? ⟨w.heap.size + 1, 1, none⟩ = some (.int .u32 ar) := keep_cell hb3 d1
  replace d2 : w3.cell? ⟨w.heap.size + 1, 2, none⟩ = some (.int .u64 ip) := keep_cell hb3 d2
  replace d3 : w3.cell? ⟨w.heap.size + 1, 3, none⟩ = some (.int .u64 x0) := keep_cell hb3 d3
  replace d4 : w3.cell? ⟨w.heap.size + 1, 4, none⟩ = some (.int .u64 x1) := keep_cell hb3 d4
  replace d5 : w3.cell? ⟨w.heap.size + 1, 5, none⟩ = some (.int .u64 x2) := keep_cell hb3 d5
  replace d6 : w3.cell? ⟨w.heap.size + 1, 6, none⟩ = some (.int .u64 x3) := keep_cell hb3 d6
  replace d7 : w3.cell? ⟨w.heap.size + 1, 7, none⟩ = some (.int .u64 x4) := keep_cell hb3 d7
  replace d8 : w3.cell? ⟨w.heap.size + 1, 8, none⟩ = some (.int .u64 x5) := keep_cell hb3 d8
  replace ld : w.heap.size + 1 < w3.heap.size := World.block_lt_of_cell? w3 _ d0
  have hw3 := bchain hw2 hw2.size hb3
  clear hb3 D
  go_upto_region 6 with (fail)
  obtain ⟨w4, hw4⟩ : ∃ w4, w3.alloc (.cells #[.int .i64 p, .int .i64 q] 30) = w4 := ⟨_, rfl⟩
  rw [hw4]
  have hb4 : Below w3.heap.size w3 w4 := by rw [← hw4]; exact below_alloc _ _
  have u0 : w4.cell? ⟨w3.heap.size, 0, none⟩ = some (.int .i64 p) := by rw [← hw4]; exact new_cell w3 _ 30 0 rfl
  have u1 : w4.cell? ⟨w3.heap.size, 1, none⟩ = some (.int .i64 q) := by rw [← hw4]; exact new_cell w3 _ 30 1 rfl
  replace b0 : w4.cell? ⟨w.heap.size, 0, none⟩ = some (.int .i64 k) := keep_cell hb4 b0
  replace b1 : w4.cell? ⟨w.heap.size, 1, none⟩ = some (.int .i64 a) := keep_cell hb4 b1
  replace b2 : w4.cell? ⟨w.heap.size, 2, none⟩ = some (.slice A0 n c0) := keep_cell hb4 b2
  replace lb : w.heap.size < w4.heap.size := World.block_lt_of_cell? w4 _ b0
  replace d0 : w4.cell? ⟨w.heap.size + 1, 0, none⟩ = some (.int .u32 nr) := keep_cell hb4 d0
  replace d1 : w4.cell? ⟨w.heap.size + 1, 1, none⟩ = some (.int .u32 ar) := keep_cell hb4 d1
  replace d2 : w4.cell? ⟨w.heap.size + 1, 2, none⟩ = some (.int .u64 ip) := keep_cell hb4 d2
  replace d3 : w4.cell? ⟨w.heap.size + 1, 3, none⟩ = some (.int .u64 x0) := keep_cell hb4 d3
  replace d4 : w4.cell? ⟨w.heap.size + 1, 4, none⟩ = some (.int .u64 x1) := keep_cell hb4 d4
  replace d5 : w4.cell? ⟨w.heap.size + 1, 5, none⟩ = some (.int .u64 x2) := keep_cell hb4 d5
  replace d6 : w4.cell? ⟨w.heap.size + 1, 6, none⟩ = some (.int .u64 x3) := keep_cell hb4 d6
  replace d7 : w4.cell? ⟨w.heap.size + 1, 7, none⟩ = some (.int .u64 x4) := keep_cell hb4 d7
  replace d8 : w4.cell? ⟨w.heap.size + 1, 8, none⟩ = some (.int .u64 x5) := keep_cell hb4 d8
  replace ld : w.heap.size + 1 < w4.heap.size := World.block_lt_of_cell? w4 _ d0
  obtain ⟨gu, hgu⟩ : ∃ gu, w3.heap.size = gu := ⟨_, rfl⟩
  rw [hgu] at u0 u1 ⊢
  have hw4' := bchain hw3 hw3.size hb4
  clear hw4 hgu hb4
  by_cases hr : r = 0
  case neg =>
    have hf0 : f ≠ 0 := by
      intro h0
      have hp := Hp.out
      simp only [h0, if_true] at hp
      split at hp <;> (injection hp with _ h2; exact hr h2.symm)
    obtain ⟨rfl, rfl, rfl⟩ : p = 0 ∧ q = 0 ∧ f = r := by
      have hp := Hp.out
      simp only [if_neg hf0] at hp
      injection hp with h1 h2
      injection h1 with h1 h3
      exact ⟨h1.symm, h3.symm, h2⟩
    have hr' : (f != 0) = true := by simpa using hr
    clear hr hf0
    go_wp2_with fail
    refine (C _ hw4').mono ?_
    rintro e w5 ⟨rfl, hb5⟩
    replace u0 := keep_cell hb5 u0
    replace u1 := keep_cell hb5 u1
    go_wp2_with fail
    go_ret
    exact ⟨rfl, bchain hw4' hw4'.size hb5⟩
  subst hr
  have hpq : (p, q) = if ar = 3221225534 then decL nr x0 x1 x2 x3 x4 x5 k a L else (1, 0) := by
    have hp := Hp.out
    by_cases h0 : f = 0
    · simp only [if_pos h0] at hp
      by_cases har : ar = 3221225534
      · rw [if_pos har] at hp ⊢; injection hp with h1 _; exact h1.symm
      · rw [if_neg har] at hp ⊢; injection hp with h1 _; exact h1.symm
    · simp only [if_neg h0] at hp
      injection hp with _ h2
      exact absurd h2 h0
  by_cases har : ar = 3221225534
  case neg =>
    rw [if_neg har] at hpq
    injection hpq with h1 h2
    subst h1 h2
    have har' : (ar != 3221225534) = true := by simpa using har
    clear har
    go_wp2_with fail
    go_ret
    exact ⟨rfl, hw4'⟩
  rw [if_pos har] at hpq
  have har' : (ar != 3221225534) = false := by simp [har]
  clear har
  have Hpq := Lib.hid hpq
  clear hpq Hp C
  go_wp2_with fail
  refine (NA _ hw4').mono ?_
  rintro e w5 ⟨v, rfl, hN, hb5⟩
  replace b0 : w5.cell? ⟨w.heap.size, 0, none⟩ = some (.int .i64 k) := keep_cell hb5 b0
  replace b1 : w5.cell? ⟨w.heap.size, 1, none⟩ = some (.int .i64 a) := keep_cell hb5 b1
  replace b2 : w5.cell? ⟨w.heap.size, 2, none⟩ = some (.slice A0 n c0) := keep_cell hb5 b2
  replace lb : w.heap.size < w5.heap.size := World.block_lt_of_cell? w5 _ b0
  replace d0 : w5.cell? ⟨w.heap.size + 1, 0, none⟩ = some (.int .u32 nr) := keep_cell hb5 d0
  replace d1 : w5.cell? ⟨w.heap.size + 1, 1, none⟩ = some (.int .u32 ar) := keep_cell hb5 d1
  replace d2 : w5.cell? ⟨w.heap.size + 1, 2, none⟩ = some (.int .u64 ip) := keep_cell hb5 d2
  replace d3 : w5.cell? ⟨w.heap.size + 1, 3, none⟩ = some (.int .u64 x0) := keep_cell hb5 d3
  replace d4 : w5.cell? ⟨w.heap.size + 1, 4, none⟩ = some (.int .u64 x1) := keep_cell hb5 d4
  replace d5 : w5.cell? ⟨w.heap.size + 1, 5, none⟩ = some (.int .u64 x2) := keep_cell hb5 d5
  replace d6 : w5.cell? ⟨w.heap.size + 1, 6, none⟩ = some (.int .u64 x3) := keep_cell hb5 d6
  replace d7 : w5.cell? ⟨w.heap.size + 1, 7, none⟩ = some (.int .u64 x4) := keep_cell hb5 d7
  replace d8 : w5.cell? ⟨w.heap.size + 1, 8, none⟩ = some (.int .u64 x5) := keep_cell hb5 d8
  replace ld : w.heap.size + 1 < w5.heap.size := World.block_lt_of_cell? w5 _ d0
  replace u0 := keep_cell hb5 u0
  replace u1 := keep_cell hb5 u1
  have hw5 := bchain hw4' hw4'.size hb5
  obtain ⟨B, c, rfl, hc⟩ := hN
  obtain ⟨z, hz⟩ : ∃ z, (numsV L).length = z := ⟨_, rfl⟩
  rw [hz] at hc Hlen ⊢
  have hz1 := Hlen.out
  have Hc := Lib.hid hc
  have Hz := Lib.hid hz
  clear hc hz Hlen hb5 NA
  go_wp2_with fail
  go_loopw [12] (fun i wr => ∃ j : Nat, j ≤ z ∧ i = .int .i64 j ∧ Below w5.heap.size w5 wr ∧ nr ∉ (numsV L).take j) (fun i _ => z - (intOf i).toNat)
  case atStart => exact ⟨0, by omega, rfl, Below.refl _ _, by simp⟩
  case round =>
    obtain ⟨j, hj, rfl, hb, hnot⟩ := hrel
    have hwr := bchain hw5 hw5.size hb
    replace b0 := keep_cell hb b0
    replace b1 := keep_cell hb b1
    replace b2 := keep_cell hb b2
    replace d0 := keep_cell hb d0
    replace d1 := keep_cell hb d1
    replace d2 := keep_cell hb d2
    replace d3 := keep_cell hb d3
    replace d4 := keep_cell hb d4
    replace d5 := keep_cell hb d5
    replace d6 := keep_cell hb d6
    replace d7 := keep_cell hb d7
    replace d8 := keep_cell hb d8
    replace u0 := keep_cell hb u0
    replace u1 := keep_cell hb u1
    have Hnot := Lib.hid hnot
    clear hnot
    by_cases hlt : j < z
    case neg =>
      obtain rfl : j = z := by omega
      have h := Hnot.out
      rw [List.take_of_length_le (by rw [Hz.out]; exact Nat.le_refl _)] at h
      have h2 := Hpq.out
      rw [decL_none (not_spoken h)] at h2
      injection h2 with h3 h4
      subst h3 h4
      clear h
      go_wp2_with fail
      go_ret
      exact ⟨rfl, hwr⟩
    obtain ⟨g, o, rfl, hcell⟩ := Hc.out (by omega)
    obtain ⟨x, hx⟩ : ∃ x, (numsV L)[j]? = some x := ⟨_, List.getElem?_eq_getElem (by rw [Hz.out]; omega)⟩
    have e1 : wr.cell? ⟨g, o + j, none⟩ = some (.int .u32 x) := keep_cell hb (hcell j x hx)
    have hlt' : (j : Int) < z := by omega
    have Hx := Lib.hid hx
    have htake : nr ≠ x → nr ∉ (numsV L).take (j + 1) := fun hne h => by
      rw [List.take_add_one, Hx.out] at h
      rcases List.mem_append.1 h with h | h
      · exact Hnot.out h
      · exact hne (by simpa using h)
    have Htake := Lib.hid htake
    clear htake hx
    by_cases h0 : j = 0
    · subst h0
      have e1' : wr.cell? ⟨g, o, none⟩ = some (.int .u32 x) := e1
      have hz0 : (0 : Int) < z := by omega
      clear e1
      by_cases hxn : x = nr
      · subst hxn
        go_wp2_with fail
        go_quiet (fail)
        go_wp2_with fail
        go_quiet (fail)
        go_wp2_with fail
        go_ret
        exact ⟨rfl, bnext hw5 (by repeat (first | with_reducible assumption | with_reducible exact Below.refl _ _ | (with_reducible refine Below.alloc ?_ (by first | omega | (simp <;> omega) | simp) _) | (with_reducible refine Below.setCell ?_ (by first | omega | (simp <;> omega) | simp) _) | (with_reducible refine below_drewN ?_ _) | (with_reducible refine Below.drew ?_)))⟩
      · have hxn' : (x == nr) = false := by simpa using hxn
        have Hne := Lib.hid (fun h : nr = x => hxn h.symm)
        clear hxn
        go_wp2_with fail
        go_quiet (fail)
        go_wp2_with fail
        go_quiet (fail)
        go_wp2_with fail
        go_roundw
        case rel => exact ⟨0 + 1, by omega, by go_num, (by repeat (first | with_reducible assumption | with_reducible exact Below.refl _ _ | (with_reducible refine Below.alloc ?_ (by first | omega | (simp <;> omega) | simp) _) | (with_reducible refine Below.setCell ?_ (by first | omega | (simp <;> omega) | simp) _) | (with_reducible refine below_drewN ?_ _) | (with_reducible refine Below.drew ?_))), Htake.out Hne.out⟩
        case measure => (simp [intOf] <;> omega)
    · obtain ⟨j', rfl⟩ : ∃ j', j = j' + 1 := ⟨j - 1, by omega⟩
      obtain ⟨y, hy⟩ : ∃ y, (numsV L)[j']? = some y := ⟨_, List.getElem?_eq_getElem (by rw [Hz.out]; omega)⟩
      have e2 : wr.cell? ⟨g, o + j', none⟩ = some (.int .u32 y) := keep_cell hb (hcell j' y hy)
      have hyx : y < x := by
        have h1 := List.getElem?_eq_some_iff.1 hy
        have h2 := List.getElem?_eq_some_iff.1 Hx.out
        obtain ⟨l1, rfl⟩ := h1
        obtain ⟨l2, rfl⟩ := h2
        exact List.pairwise_iff_getElem.1 Hup.out j' (j' + 1) l1 l2 (by omega)
      have hle : decide (x ≤ y) = false := by simp; omega
      have hpos : (0 : Int) < (j' : Int) + 1 := by omega
      clear hy hyx
      by_cases hxn : x = nr
      · subst hxn
        go_wp2_with fail
        go_quiet (fail)
        go_wp2_with fail
        go_quiet (fail)
        go_wp2_with fail
        go_ret
        exact ⟨rfl, bnext hw5 (by repeat (first | with_reducible assumption | with_reducible exact Below.refl _ _ | (with_reducible refine Below.alloc ?_ (by first | omega | (simp <;> omega) | simp) _) | (with_reducible refine Below.setCell ?_ (by first | omega | (simp <;> omega) | simp) _) | (with_reducible refine below_drewN ?_ _) | (with_reducible refine Below.drew ?_)))⟩
      · have hxn' : (x == nr) = false := by simpa using hxn
        have Hne := Lib.hid (fun h : nr = x => hxn h.symm)
        clear hxn
        go_wp2_with fail
        go_quiet (fail)
        go_wp2_with fail
        go_quiet (fail)
        go_wp2_with fail
        go_roundw
        case rel => exact ⟨j' + 1 + 1, by omega, by go_num, (by repeat (first | with_reducible assumption | with_reducible exact Below.refl _ _ | (with_reducible refine Below.alloc ?_ (by first | omega | (simp <;> omega) | simp) _) | (with_reducible refine Below.setCell ?_ (by first | omega | (simp <;> omega) | simp) _) | (with_reducible refine below_drewN ?_ _) | (with_reducible refine Below.drew ?_))), Htake.out Hne.out⟩
        case measure => (simp [intOf] <;> omega)
end Go.Proofs.Ytomcobmpojpdcaa
