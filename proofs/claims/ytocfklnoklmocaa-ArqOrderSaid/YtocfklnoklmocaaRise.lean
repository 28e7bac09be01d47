/- arq.rising, at both tests. Condition: the map is the call's to read, of at most a million entries. -/
import Derived.Test.YtocfklnoklmocaaRise0
namespace Go.Proofs.Ytocfklnoklmocaa
open Go.RowKit Go.Maps Go.Sort
set_option linter.unusedVariables false
set_option linter.unusedSimpArgs false

theorem row_ne_low' {w : World} {B K bb n : Nat} {D : DataW Unit} {v : Value} {xs : List Value} (h : w.ownsRow bb 27 1 v n xs) (hm : w.ownsMap Try.prog 27 (plainElem Try.prog 3) B K D) : some B ≠ v.ownBlock := by
  obtain ⟨es, clock, hh, _⟩ := hm
  rcases h.2 with ⟨rfl, _⟩ | ⟨g, cap, cur, rfl, _, h5, _⟩
  · intro e; cases e
  · intro e
    have e : some B = some g := e
    cases e
    rw [hh] at h5; cases h5

set_option maxRecDepth 100000 in
set_option maxHeartbeats 4000000 in
theorem rise_all (B K : Nat) (f : Int → Option Int) (w : World) (hK : K ≤ 1000000) (h : MapIs w B K f) :
    Calls Try.prog 22 #[.map (some B), .func (.func 24) #[] #[]] w (fun en w' => ∃ v ks, en = .returned v ∧ NumsAt w' v ks ∧ Keys f (fun _ => true) ks ∧ ((∀ x ∈ ks, U64 x) ∧ ∀ a n c, v = .slice (some a) n c → w.heap.size ≤ a.block) ∧ ks.length ≤ K ∧ Below w.heap.size w w') := by
  have T := all_test
  obtain ⟨D, hown, hhas, hat0⟩ := h
  have hsz := hown.size_le
  have Hown := Lib.hid hown
  have Hhas := Lib.hid hhas
  have Hat0 := Lib.hid hat0
  have Hst := Lib.hid (Got.start (p := (fun _ => true)) hhas)
  clear hown hhas hat0
  obtain ⟨i0, hi, hz0, hz1, hz2⟩ := info_parts info27
  go_enter Try.func22, Try.ntmps22
  go_wp2_with (at_range; refine wpList_range_own _ rfl _ 53 rfl 27 3 keyed27 under53 _ B K D rfl Hown.out ?_; intro w0 hrg0 hg0 hs0)
  go_frame
  go_loopw [5] (fun v wx => ∃ (left : Lit → Bool) (cnt : Nat) (ss : List Int), wx.ranges Try.prog 27 (plainElem Try.prog 3) B w.heap.size K D left cnt ∧ ss.length + cnt ≤ Maps.size D ∧
    wx.ownsRow (w.heap.size + 1) 27 1 v ss.length (ss.map (Value.int .u64)) ∧ Got D f (fun _ => true) left ss ∧ Below w.heap.size w wx) (fun _ wx => wx.rangeLeft B w.heap.size)
  case atStart =>
    exact ⟨_, _, [], hrg0, by simp, ⟨by simp, .inl ⟨rfl, rfl⟩⟩, Hst.out, ⟨hg0.os, hg0.tape, hg0.output, hg0.size, fun k hk => hg0.block k hk (by simp)⟩⟩
  case round =>
    obtain ⟨left, cnt, ss, hrg, hcs, hrow, hC, hnx⟩ := hrel
    have HC := Lib.hid hC
    clear hC hrg0 hg0 hs0
    go_wp2_with (at_next; refine wpList_next_ranges_ii _ rfl _ rfl 27 3 .u64 .i64 keyed27 under27 under3 B w.heap.size K _ _ _ rfl hrg ?_ ?_)
    · intro hc0 hl0
      have hks := HC.out.done hl0
      have hU : ∀ x ∈ ss.mergeSort (fun x y => decide (x ≤ y)), U64 x := fun x hx => HC.out.2.1 x ((List.mergeSort_perm ss _).mem_iff.1 hx)
      have hlen : (ss.mergeSort (fun x y => decide (x ≤ y))).length = ss.length := (List.mergeSort_perm ss _).length_eq
      have Hks := Lib.hid hks
      have HU := Lib.hid hU
      have Hlen := Lib.hid hlen
      clear hks hU hlen
      rcases hrow.2 with ⟨rfl, hnil⟩ | ⟨g, cap, cur, rfl, hbase, hb, h1, h2, h3, h4⟩
      · have hs0 : ss = [] := List.eq_nil_of_length_eq_zero hnil
        subst hs0
        have S0 := Sort_int_nil_u none 0
        go_wp2_with (go_at_call 25; (with_reducible refine (S0 _).mono ?_); rintro e w5 ⟨rfl, rfl⟩)
        go_ret
        exact ⟨_, [].mergeSort (fun x y => decide (x ≤ y)), rfl, ⟨none, 0, by rw [Hlen.out]; rfl, fun h0 => by rw [Hlen.out] at h0; simp at h0⟩, Hks.out, ⟨HU.out, fun a n c e => by cases e⟩, by rw [Hlen.out]; simp, hnx⟩
      · have hH : Holds (Value.int .u64) wr g 0 ss.toArray := holds_of_blockU hb (by simpa using h4)
        have hgl : g < wr.heap.size := (Array.getElem?_eq_some_iff.1 hb).1
        have S1 := slices_Sort_u g 0 cap ss wr hH hgl (by omega)
        have HH := Lib.hid hH
        clear hH h4 hb h3 hrow
        go_wp2_with (go_at_call 25; (with_reducible refine S1.mono ?_); rintro e w5 ⟨rfl, nn, os, rfl⟩)
        go_ret
        refine ⟨_, ss.mergeSort (fun x y => decide (x ≤ y)), rfl, ⟨some ⟨g, 0, none⟩, cap, by rw [Hlen.out]; rfl, fun h0 => ⟨g, 0, rfl, fun i x hx => ?_⟩⟩, Hks.out, ⟨HU.out, fun a n c e => by cases e; exact Nat.le_of_succ_le hbase⟩, by rw [Hlen.out]; omega, hnx.trans (grown_below (grownBy_sortedU _) hnx.size (by omega))⟩
        rw [Nat.zero_add]
        exact cell_sortedU HH.out hgl Hlen.out hx
    · intro x c w2 cnt2 hwx hwc hlk hat hrg2 hlt2 hg2 hs2 hen
      have hrow2 := hrow.kept hg2 (Or.inr (row_ne_iter hrow hrg).symm)
      have hfx : f x = some c := by
        have h1 : Maps.has D (keyN x) = true := has_true_of_atKey hat
        rw [Hhas.out] at h1
        obtain ⟨c', hc'⟩ := Option.isSome_iff_exists.1 h1
        have h2 := hat (.lit (.int .i64 0))
        have h3 := Hat0.out x c' (.lit (.int .i64 0)) hc'
        unfold keyN at h3
        rw [h2] at h3
        injection h3 with h3
        injection h3 with _ h3
        rw [hc', h3]
      have hsz2 := hg2.size
      have hszx := hnx.size
      have hB2 : B < w2.heap.size := hrg2.owns.lt
      have HP : (fun _ => true) c = true := rfl
      have Hstep := Lib.hid (HC.out.take hwx hlk hfx (p := fun _ => true) rfl)
      clear hs2 hat hlk hwx hwc hfx
      go_wp2_with (first
        | (go_at_call 24; refine (T _ _).mono ?_; rintro e w3' ⟨rfl, rfl⟩)
        | (at_builtin; refine wpList_append_own _ rfl _ _ 22 rfl (w.heap.size + 1) 27 i0 (.int .u64 0) 1 8 under22 hi hz0 hz1 hz2 rfl (by decide) _ _ _ rfl (hrow2.alloc _) ⟨w2.heap.size, 0, none⟩ 1 1 [.int .u64 x] rfl rfl (cell_one_new _ _ _) (by simp [Value.oneCell']) (by unfold maxLen; omega) (by omega) (by simp; omega) ?_; intro v' w3 hown' hg3 hnil3; go_frame))
      have hrg3 := (hrg2.alloc _).kept hg3 (row_ne_low' hrow2 hrg2.owns) (row_ne_iter hrow2 hrg2)
      go_roundw
      case rel =>
        refine ⟨_, cnt2, ss ++ [x], hrg3, by simp; omega, by simpa using hown', Hstep.out, ?_⟩
        exact ((hnx.grown hg2 hnx.size (fun j hj => by cases hj; exact Nat.le_refl _)).alloc (by have := hnx.size; have := hg2.size; omega) _).grown hg3 (by have := hnx.size; have := hg2.size; simp; omega) (fun j hj => by have := (hrow2.lt j hj).1; omega)
      case measure => rw [hrg3.left_eq, hrg.left_eq]; exact hlt2

set_option maxRecDepth 100000 in
set_option maxHeartbeats 4000000 in
theorem rise_zero (B K : Nat) (f : Int → Option Int) (w : World) (hK : K ≤ 1000000) (h : MapIs w B K f) :
    Calls Try.prog 22 #[.map (some B), .func (.func 23) #[] #[]] w (fun en w' => ∃ v ks, en = .returned v ∧ NumsAt w' v ks ∧ Keys f (fun c => c == 0) ks ∧ ((∀ x ∈ ks, U64 x) ∧ ∀ a n c, v = .slice (some a) n c → w.heap.size ≤ a.block) ∧ ks.length ≤ K ∧ Below w.heap.size w w') := by
  have T := zero_test
  obtain ⟨D, hown, hhas, hat0⟩ := h
  have hsz := hown.size_le
  have Hown := Lib.hid hown
  have Hhas := Lib.hid hhas
  have Hat0 := Lib.hid hat0
  have Hst := Lib.hid (Got.start (p := (fun c => c == 0)) hhas)
  clear hown hhas hat0
  obtain ⟨i0, hi, hz0, hz1, hz2⟩ := info_parts info27
  go_enter Try.func22, Try.ntmps22
  go_wp2_with (at_range; refine wpList_range_own _ rfl _ 53 rfl 27 3 keyed27 under53 _ B K D rfl Hown.out ?_; intro w0 hrg0 hg0 hs0)
  go_frame
  go_loopw [5] (fun v wx => ∃ (left : Lit → Bool) (cnt : Nat) (ss : List Int), wx.ranges Try.prog 27 (plainElem Try.prog 3) B w.heap.size K D left cnt ∧ ss.length + cnt ≤ Maps.size D ∧
    wx.ownsRow (w.heap.size + 1) 27 1 v ss.length (ss.map (Value.int .u64)) ∧ Got D f (fun c => c == 0) left ss ∧ Below w.heap.size w wx) (fun _ wx => wx.rangeLeft B w.heap.size)
  case atStart =>
    exact ⟨_, _, [], hrg0, by simp, ⟨by simp, .inl ⟨rfl, rfl⟩⟩, Hst.out, ⟨hg0.os, hg0.tape, hg0.output, hg0.size, fun k hk => hg0.block k hk (by simp)⟩⟩
  case round =>
    obtain ⟨left, cnt, ss, hrg, hcs, hrow, hC, hnx⟩ := hrel
    have HC := Lib.hid hC
    clear hC hrg0 hg0 hs0
    go_wp2_with (at_next; refine wpList_next_ranges_ii _ rfl _ rfl 27 3 .u64 .i64 keyed27 under27 under3 B w.heap.size K _ _ _ rfl hrg ?_ ?_)
    · intro hc0 hl0
      have hks := HC.out.done hl0
      have hU : ∀ x ∈ ss.mergeSort (fun x y => decide (x ≤ y)), U64 x := fun x hx => HC.out.2.1 x ((List.mergeSort_perm ss _).mem_iff.1 hx)
      have hlen : (ss.mergeSort (fun x y => decide (x ≤ y))).length = ss.length := (List.mergeSort_perm ss _).length_eq
      have Hks := Lib.hid hks
      have HU := Lib.hid hU
      have Hlen := Lib.hid hlen
      clear hks hU hlen
      rcases hrow.2 with ⟨rfl, hnil⟩ | ⟨g, cap, cur, rfl, hbase, hb, h1, h2, h3, h4⟩
      · have hs0 : ss = [] := List.eq_nil_of_length_eq_zero hnil
        subst hs0
        have S0 := Sort_int_nil_u none 0
        go_wp2_with (go_at_call 25; (with_reducible refine (S0 _).mono ?_); rintro e w5 ⟨rfl, rfl⟩)
        go_ret
        exact ⟨_, [].mergeSort (fun x y => decide (x ≤ y)), rfl, ⟨none, 0, by rw [Hlen.out]; rfl, fun h0 => by rw [Hlen.out] at h0; simp at h0⟩, Hks.out, ⟨HU.out, fun a n c e => by cases e⟩, by rw [Hlen.out]; simp, hnx⟩
      · have hH : Holds (Value.int .u64) wr g 0 ss.toArray := holds_of_blockU hb (by simpa using h4)
        have hgl : g < wr.heap.size := (Array.getElem?_eq_some_iff.1 hb).1
        have S1 := slices_Sort_u g 0 cap ss wr hH hgl (by omega)
        have HH := Lib.hid hH
        clear hH h4 hb h3 hrow
        go_wp2_with (go_at_call 25; (with_reducible refine S1.mono ?_); rintro e w5 ⟨rfl, nn, os, rfl⟩)
        go_ret
        refine ⟨_, ss.mergeSort (fun x y => decide (x ≤ y)), rfl, ⟨some ⟨g, 0, none⟩, cap, by rw [Hlen.out]; rfl, fun h0 => ⟨g, 0, rfl, fun i x hx => ?_⟩⟩, Hks.out, ⟨HU.out, fun a n c e => by cases e; exact Nat.le_of_succ_le hbase⟩, by rw [Hlen.out]; omega, hnx.trans (grown_below (grownBy_sortedU _) hnx.size (by omega))⟩
        rw [Nat.zero_add]
        exact cell_sortedU HH.out hgl Hlen.out hx
    · intro x c w2 cnt2 hwx hwc hlk hat hrg2 hlt2 hg2 hs2 hen
      have hrow2 := hrow.kept hg2 (Or.inr (row_ne_iter hrow hrg).symm)
      have hfx : f x = some c := by
        have h1 : Maps.has D (keyN x) = true := has_true_of_atKey hat
        rw [Hhas.out] at h1
        obtain ⟨c', hc'⟩ := Option.isSome_iff_exists.1 h1
        have h2 := hat (.lit (.int .i64 0))
        have h3 := Hat0.out x c' (.lit (.int .i64 0)) hc'
        unfold keyN at h3
        rw [h2] at h3
        injection h3 with h3
        injection h3 with _ h3
        rw [hc', h3]
      have hsz2 := hg2.size
      have hszx := hnx.size
      have hB2 : B < w2.heap.size := hrg2.owns.lt
      by_cases hc0 : c = 0
      · subst hc0
        have hcE : ((0 : Int) == 0) = true := rfl
        have Hstep := Lib.hid (HC.out.take hwx hlk hfx (p := fun c => c == 0) rfl)
        clear hs2 hat hlk hwx hwc hfx
        go_wp2_with (first
          | (go_at_call 23; refine (T _ _).mono ?_; rintro e w3' ⟨rfl, rfl⟩)
          | (at_builtin; refine wpList_append_own _ rfl _ _ 22 rfl (w.heap.size + 1) 27 i0 (.int .u64 0) 1 8 under22 hi hz0 hz1 hz2 rfl (by decide) _ _ _ rfl (hrow2.alloc _) ⟨w2.heap.size, 0, none⟩ 1 1 [.int .u64 x] rfl rfl (cell_one_new _ _ _) (by simp [Value.oneCell']) (by unfold maxLen; omega) (by omega) (by simp; omega) ?_; intro v' w3 hown' hg3 hnil3; go_frame))
        have hrg3 := (hrg2.alloc _).kept hg3 (row_ne_low' hrow2 hrg2.owns) (row_ne_iter hrow2 hrg2)
        go_roundw
        case rel =>
          refine ⟨_, cnt2, ss ++ [x], hrg3, by simp; omega, by simpa using hown', Hstep.out, ?_⟩
          exact ((hnx.grown hg2 hnx.size (fun j hj => by cases hj; exact Nat.le_refl _)).alloc (by have := hnx.size; have := hg2.size; omega) _).grown hg3 (by have := hnx.size; have := hg2.size; simp; omega) (fun j hj => by have := (hrow2.lt j hj).1; omega)
        case measure => rw [hrg3.left_eq, hrg.left_eq]; exact hlt2
      · have hcE : (c == 0) = false := by simpa using hc0
        clear hc0
        have Hstep := Lib.hid (HC.out.skip hlk hfx (p := fun c => c == 0) hcE)
        clear hs2 hat hlk hwx hwc hfx
        go_wp2_with (go_at_call 23; refine (T _ _).mono ?_; rintro e w3' ⟨rfl, rfl⟩)
        go_roundw
        case rel => exact ⟨_, cnt2, ss, hrg2, by omega, hrow2, Hstep.out, hnx.grown hg2 hnx.size (fun j hj => by cases hj; exact Nat.le_refl _)⟩
        case measure => rw [hrg2.left_eq, hrg.left_eq]; exact hlt2
end Go.Proofs.Ytocfklnoklmocaa
