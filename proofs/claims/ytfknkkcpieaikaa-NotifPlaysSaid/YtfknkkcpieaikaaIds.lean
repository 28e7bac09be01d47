/- ids of the table, at both tests. Condition: the table can be read. -/
import Derived.Test.YtfknkkcpieaikaaIds0
import Derived.Test.YtfknkkcpieaikaaSrtNil
namespace Go.Proofs.Ytfknkkcpieaikaa
open Go.RowKit Go.Maps Go.Sort
set_option linter.unusedVariables false
set_option linter.unusedSimpArgs false

def IdsPost (ks : List Int) (w : World) (en : Ending) (w' : World) : Prop :=
  ∃ A c, en = .returned (.slice A ks.length c) ∧ NumsAt w' (.slice A ks.length c) ks ∧ (∀ a, A = some a → w.heap.size ≤ a.block) ∧ Below w.heap.size w w'

set_option maxRecDepth 100000 in
set_option maxHeartbeats 4000000 in
theorem ids_waits (b B : Nat) (P : Int → Nat) (T : Tb) (w : World) (h : TabAt w b B P T) : Calls Try.prog 27 #[.pointer (some ⟨b, 0, none⟩), .func (.func 26) #[] #[]] w (IdsPost (idsL T.L Ent.waits) w) := by
  have C := waits_any
  have H := Lib.hid h
  have hlen8 : T.L.length ≤ 8 := by have := h.f.len; have := h.f.s2; omega
  obtain ⟨D, hown, _, hhas, hat0⟩ := h.m
  have hsz := hown.size_le
  have c4 := h.q.c4
  have Hown := Lib.hid hown
  have Hhas := Lib.hid hhas
  have Hat0 := Lib.hid hat0
  have Hst := Lib.hid (Got.start (p := Ent.waits) (has_getL hhas))
  clear h hown hhas hat0
  obtain ⟨i0, hi, hz0, hz1, hz2⟩ := info_parts info23
  go_enter Try.func27, Try.ntmps27
  go_wp2_with (at_range; refine wpList_range_own _ rfl _ 60 rfl 23 64 keyed23 under60 _ B T.L.length D rfl Hown.out ?_; intro w0 hrg0 hg0 hs0)
  go_frame
  go_loopw [5, 6, 7] (fun v _ _ wx => ∃ (left : Lit → Bool) (cnt : Nat) (ss : List Int), wx.ranges Try.prog 23 ptrElem B w.heap.size T.L.length D left cnt ∧ ss.length + cnt ≤ Maps.size D ∧
    wx.ownsRow (w.heap.size + 1) 23 1 v ss.length (ss.map (Value.int .u64)) ∧ Got D (getL T.L) Ent.waits left ss ∧ Below w.heap.size w wx) (fun _ _ _ wx => wx.rangeLeft B w.heap.size)
  case atStart =>
    exact ⟨_, _, [], hrg0, by simp, ⟨by simp, .inl ⟨rfl, rfl⟩⟩, Hst.out, ⟨hg0.os, hg0.tape, hg0.output, hg0.size, fun k hk => hg0.block k hk (by simp)⟩⟩
  case round =>
    obtain ⟨left, cnt, ss, hrg, hcs, hrow, hC, hnx⟩ := hrel
    have HC := Lib.hid hC
    clear hC hrg0 hg0 hs0
    go_wp2_with (at_next; refine wpList_next_ptr _ rfl _ rfl B w.heap.size T.L.length _ _ _ rfl hrg ?_ ?_)
    · intro hc0 hl0
      have hks := keys_idsL H.out.f.rise (HC.out.done hl0)
      have hlen : (ss.mergeSort (fun x y => decide (x ≤ y))).length = ss.length := (List.mergeSort_perm ss _).length_eq
      have Hks := Lib.hid hks
      have Hlen := Lib.hid hlen
      clear hks hlen
      rcases hrow.2 with ⟨rfl, hnil⟩ | ⟨g, cap, cur, rfl, hbase, hb, h1, h2, h3, h4⟩
      · have hs0 : ss = [] := List.eq_nil_of_length_eq_zero hnil
        subst hs0
        have S0 := Sort_int_nil_u none 0
        go_wp2_with (go_at_call 40; (with_reducible refine (S0 _).mono ?_); rintro e w5 ⟨rfl, rfl⟩)
        go_ret
        have h0 : idsL T.L Ent.waits = [] := by rw [← Hks.out]; simp
        rw [h0]
        exact ⟨none, 0, rfl, ⟨none, 0, rfl, fun h => absurd h (by simp)⟩, fun a h => (by cases h), hnx⟩
      · have hH : Holds (Value.int .u64) wr g 0 ss.toArray := holds_of_blockU hb (by simpa using h4)
        have hgl : g < wr.heap.size := (Array.getElem?_eq_some_iff.1 hb).1
        have S1 := slices_Sort_u g 0 cap ss wr hH hgl (by omega)
        have HH := Lib.hid hH
        clear hH h4 hb h3 hrow
        go_wp2_with (go_at_call 40; (with_reducible refine S1.mono ?_); rintro e w5 ⟨rfl, nn, os, rfl⟩)
        go_ret
        have hl2 : (idsL T.L Ent.waits).length = ss.length := by rw [← Hks.out]; exact Hlen.out
        refine ⟨some ⟨g, 0, none⟩, cap, by rw [hl2]; rfl, ⟨some ⟨g, 0, none⟩, cap, rfl, fun h0 => ⟨g, 0, rfl, fun i x hx => ?_⟩⟩, fun a h => (by cases h; exact Nat.le_of_succ_le hbase), hnx.trans (grown_below (grownBy_sortedU _) hnx.size (by omega))⟩
        rw [Nat.zero_add]
        rw [← Hks.out] at hx
        exact cell_sortedU HH.out hgl Hlen.out hx
    · intro x c w2 cnt2 hwx hlk hat hrg2 hlt2 hg2 hs2 hen
      obtain ⟨y, hy, rfl, rfl⟩ := entry_is Hhas.out Hat0.out hwx hat
      have hrow2 := hrow.kept hg2 (Or.inr (row_ne_iter hrow hrg).symm)
      have hfx := getL_of H.out.f.rise hy
      have hsz2 := hg2.size
      have hszx := hnx.size
      have hB2 : B < w2.heap.size := hrg2.owns.lt
      have hb2 : Below w.heap.size w w2 := hnx.grown hg2 hnx.size (fun j hj => by cases hj; exact Nat.le_refl _)
      have C2 := C (P y.id) y w2 ((H.out.e y hy).below hb2)
      obtain ⟨p, hp⟩ : ∃ p, P y.id = p := ⟨_, rfl⟩
      rw [hp] at hen C2 ⊢
      simp only [ptr] at hen ⊢
      obtain ⟨x, hx⟩ : ∃ x, y.id = x := ⟨_, rfl⟩
      have HC2 := Lib.hid hx
      rw [hx] at hwx hlk hrg2 hen hfx ⊢
      have Hb2 := Lib.hid hb2
      obtain ⟨t, ht⟩ : ∃ t, Ent.waits y = t := ⟨_, rfl⟩
      rw [ht] at C2
      cases t with
      | false =>
        have Hstep := Lib.hid (HC.out.skip hlk hfx (p := Ent.waits) ht)
        clear hs2 hat hlk hwx hfx hx hp hy ht hb2
        go_wp2_with (go_at_call 26; refine C2.mono ?_; rintro e w3' ⟨rfl, rfl⟩)
        go_roundw
        case rel => exact ⟨_, cnt2, ss, hrg2, by omega, hrow2, Hstep.out, Hb2.out⟩
        case measure => rw [hrg2.left_eq, hrg.left_eq]; exact hlt2
      | true =>
        have Hstep := Lib.hid (HC.out.take hwx hlk hfx (p := Ent.waits) ht)
        clear hs2 hat hlk hwx hfx hx hp hy ht hb2
        go_wp2_with (first
          | (go_at_call 26; refine C2.mono ?_; rintro e w3' ⟨rfl, rfl⟩)
          | (at_builtin; refine wpList_append_own _ rfl _ _ 30 rfl (w.heap.size + 1) 23 i0 (.int .u64 0) 1 8 under30 hi hz0 hz1 hz2 rfl (by decide) _ _ _ rfl (hrow2.alloc _) ⟨w2.heap.size, 0, none⟩ 1 1 [.int .u64 x] rfl rfl (cell_one_new _ _ _) (by simp [Value.oneCell']) (by unfold maxLen; omega) (by omega) (by simp; omega) ?_; intro v' w3 hown' hg3 hnil3; go_frame))
        have hrg3 := (hrg2.alloc _).kept hg3 (row_ne_low' hrow2 hrg2.owns) (row_ne_iter hrow2 hrg2)
        go_roundw
        case rel =>
          refine ⟨_, cnt2, ss ++ [x], hrg3, by simp; omega, by simpa using hown', Hstep.out, ?_⟩
          exact ((hnx.grown hg2 hnx.size (fun j hj => by cases hj; exact Nat.le_refl _)).alloc (by have := hnx.size; have := hg2.size; omega) _).grown hg3 (by have := hnx.size; have := hg2.size; simp; omega) (fun j hj => by have := (hrow2.lt j hj).1; omega)
        case measure => rw [hrg3.left_eq, hrg.left_eq]; exact hlt2

set_option maxRecDepth 100000 in
set_option maxHeartbeats 4000000 in
theorem ids_init (b B : Nat) (P : Int → Nat) (T : Tb) (w : World) (h : TabAt w b B P T) : Calls Try.prog 27 #[.pointer (some ⟨b, 0, none⟩), .func (.func 39) #[] #[]] w (IdsPost (idsL T.L isInit) w) := by
  have C := inits_any
  have H := Lib.hid h
  have hlen8 : T.L.length ≤ 8 := by have := h.f.len; have := h.f.s2; omega
  obtain ⟨D, hown, _, hhas, hat0⟩ := h.m
  have hsz := hown.size_le
  have c4 := h.q.c4
  have Hown := Lib.hid hown
  have Hhas := Lib.hid hhas
  have Hat0 := Lib.hid hat0
  have Hst := Lib.hid (Got.start (p := isInit) (has_getL hhas))
  clear h hown hhas hat0
  obtain ⟨i0, hi, hz0, hz1, hz2⟩ := info_parts info23
  go_enter Try.func27, Try.ntmps27
  go_wp2_with (at_range; refine wpList_range_own _ rfl _ 60 rfl 23 64 keyed23 under60 _ B T.L.length D rfl Hown.out ?_; intro w0 hrg0 hg0 hs0)
  go_frame
  go_loopw [5, 6, 7] (fun v _ _ wx => ∃ (left : Lit → Bool) (cnt : Nat) (ss : List Int), wx.ranges Try.prog 23 ptrElem B w.heap.size T.L.length D left cnt ∧ ss.length + cnt ≤ Maps.size D ∧
    wx.ownsRow (w.heap.size + 1) 23 1 v ss.length (ss.map (Value.int .u64)) ∧ Got D (getL T.L) isInit left ss ∧ Below w.heap.size w wx) (fun _ _ _ wx => wx.rangeLeft B w.heap.size)
  case atStart =>
    exact ⟨_, _, [], hrg0, by simp, ⟨by simp, .inl ⟨rfl, rfl⟩⟩, Hst.out, ⟨hg0.os, hg0.tape, hg0.output, hg0.size, fun k hk => hg0.block k hk (by simp)⟩⟩
  case round =>
    obtain ⟨left, cnt, ss, hrg, hcs, hrow, hC, hnx⟩ := hrel
    have HC := Lib.hid hC
    clear hC hrg0 hg0 hs0
    go_wp2_with (at_next; refine wpList_next_ptr _ rfl _ rfl B w.heap.size T.L.length _ _ _ rfl hrg ?_ ?_)
    · intro hc0 hl0
      have hks := keys_idsL H.out.f.rise (HC.out.done hl0)
      have hlen : (ss.mergeSort (fun x y => decide (x ≤ y))).length = ss.length := (List.mergeSort_perm ss _).length_eq
      have Hks := Lib.hid hks
      have Hlen := Lib.hid hlen
      clear hks hlen
      rcases hrow.2 with ⟨rfl, hnil⟩ | ⟨g, cap, cur, rfl, hbase, hb, h1, h2, h3, h4⟩
      · have hs0 : ss = [] := List.eq_nil_of_length_eq_zero hnil
        subst hs0
        have S0 := Sort_int_nil_u none 0
        go_wp2_with (go_at_call 40; (with_reducible refine (S0 _).mono ?_); rintro e w5 ⟨rfl, rfl⟩)
        go_ret
        have h0 : idsL T.L isInit = [] := by rw [← Hks.out]; simp
        rw [h0]
        exact ⟨none, 0, rfl, ⟨none, 0, rfl, fun h => absurd h (by simp)⟩, fun a h => (by cases h), hnx⟩
      · have hH : Holds (Value.int .u64) wr g 0 ss.toArray := holds_of_blockU hb (by simpa using h4)
        have hgl : g < wr.heap.size := (Array.getElem?_eq_some_iff.1 hb).1
        have S1 := slices_Sort_u g 0 cap ss wr hH hgl (by omega)
        have HH := Lib.hid hH
        clear hH h4 hb h3 hrow
        go_wp2_with (go_at_call 40; (with_reducible refine S1.mono ?_); rintro e w5 ⟨rfl, nn, os, rfl⟩)
        go_ret
        have hl2 : (idsL T.L isInit).length = ss.length := by rw [← Hks.out]; exact Hlen.out
        refine ⟨some ⟨g, 0, none⟩, cap, by rw [hl2]; rfl, ⟨some ⟨g, 0, none⟩, cap, rfl, fun h0 => ⟨g, 0, rfl, fun i x hx => ?_⟩⟩, fun a h => (by cases h; exact Nat.le_of_succ_le hbase), hnx.trans (grown_below (grownBy_sortedU _) hnx.size (by omega))⟩
        rw [Nat.zero_add]
        rw [← Hks.out] at hx
        exact cell_sortedU HH.out hgl Hlen.out hx
    · intro x c w2 cnt2 hwx hlk hat hrg2 hlt2 hg2 hs2 hen
      obtain ⟨y, hy, rfl, rfl⟩ := entry_is Hhas.out Hat0.out hwx hat
      have hrow2 := hrow.kept hg2 (Or.inr (row_ne_iter hrow hrg).symm)
      have hfx := getL_of H.out.f.rise hy
      have hsz2 := hg2.size
      have hszx := hnx.size
      have hB2 : B < w2.heap.size := hrg2.owns.lt
      have hb2 : Below w.heap.size w w2 := hnx.grown hg2 hnx.size (fun j hj => by cases hj; exact Nat.le_refl _)
      have C2 := C (P y.id) y w2 ((H.out.e y hy).below hb2)
      obtain ⟨p, hp⟩ : ∃ p, P y.id = p := ⟨_, rfl⟩
      rw [hp] at hen C2 ⊢
      simp only [ptr] at hen ⊢
      obtain ⟨x, hx⟩ : ∃ x, y.id = x := ⟨_, rfl⟩
      have HC2 := Lib.hid hx
      rw [hx] at hwx hlk hrg2 hen hfx ⊢
      have Hb2 := Lib.hid hb2
      obtain ⟨t, ht⟩ : ∃ t, isInit y = t := ⟨_, rfl⟩
      rw [ht] at C2
      cases t with
      | false =>
        have Hstep := Lib.hid (HC.out.skip hlk hfx (p := isInit) ht)
        clear hs2 hat hlk hwx hfx hx hp hy ht hb2
        go_wp2_with (go_at_call 39; refine C2.mono ?_; rintro e w3' ⟨rfl, rfl⟩)
        go_roundw
        case rel => exact ⟨_, cnt2, ss, hrg2, by omega, hrow2, Hstep.out, Hb2.out⟩
        case measure => rw [hrg2.left_eq, hrg.left_eq]; exact hlt2
      | true =>
        have Hstep := Lib.hid (HC.out.take hwx hlk hfx (p := isInit) ht)
        clear hs2 hat hlk hwx hfx hx hp hy ht hb2
        go_wp2_with (first
          | (go_at_call 39; refine C2.mono ?_; rintro e w3' ⟨rfl, rfl⟩)
          | (at_builtin; refine wpList_append_own _ rfl _ _ 30 rfl (w.heap.size + 1) 23 i0 (.int .u64 0) 1 8 under30 hi hz0 hz1 hz2 rfl (by decide) _ _ _ rfl (hrow2.alloc _) ⟨w2.heap.size, 0, none⟩ 1 1 [.int .u64 x] rfl rfl (cell_one_new _ _ _) (by simp [Value.oneCell']) (by unfold maxLen; omega) (by omega) (by simp; omega) ?_; intro v' w3 hown' hg3 hnil3; go_frame))
        have hrg3 := (hrg2.alloc _).kept hg3 (row_ne_low' hrow2 hrg2.owns) (row_ne_iter hrow2 hrg2)
        go_roundw
        case rel =>
          refine ⟨_, cnt2, ss ++ [x], hrg3, by simp; omega, by simpa using hown', Hstep.out, ?_⟩
          exact ((hnx.grown hg2 hnx.size (fun j hj => by cases hj; exact Nat.le_refl _)).alloc (by have := hnx.size; have := hg2.size; omega) _).grown hg3 (by have := hnx.size; have := hg2.size; simp; omega) (fun j hj => by have := (hrow2.lt j hj).1; omega)
        case measure => rw [hrg3.left_eq, hrg.left_eq]; exact hlt2
end Go.Proofs.Ytfknkkcpieaikaa
