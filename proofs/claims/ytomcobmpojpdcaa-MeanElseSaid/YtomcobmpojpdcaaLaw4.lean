/- MeanNumbers: it answers true. Condition: the rules can be read. -/
import Derived.Test.YtomcobmpojpdcaaWeigh
import Derived.Test.YtomcobmpojpdcaaLaw1
namespace Go.Proofs.Ytomcobmpojpdcaa
open Go.RowKit
attribute [local go_sem ↓] Go.wp_at_zero Go.wp_at_succ
set_option linter.unusedVariables false
set_option linter.unusedSimpArgs false

theorem bnext {w w1 w2 : World} (h : Below w.heap.size w w1) (h2 : Below w1.heap.size w1 w2) : Below w.heap.size w w2 := bchain h h.size h2
theorem numsV_len (L : List Rul) : (numsV L).length ≤ 1000 := by
  have h : (numsV L).length ≤ allN.length := List.length_filter_le _ _
  rw [allN_len] at h
  omega
set_option maxRecDepth 100000 in
set_option maxHeartbeats 4000000 in
theorem law_numbers (k a : Int) (lv : Value) (L : List Rul) (w : World) (hL : RulsAt w lv L) : Calls Try.prog 9 #[.agg #[.int .i64 k, .int .i64 a, lv]] w (Ret (.bool true) w) := by
  have A := awake_any
  have R := fun w1 hb => light_any k a lv L w1 (ruls_below (w := w) (w1 := w1) hb hL)
  have NA := fun w1 hb h => numbers_any k a lv L w1 (ruls_below (w := w) (w1 := w1) hb hL) h
  have NB := fun w1 hb => ref_numbers_any k a lv L w1 (ruls_below (w := w) (w1 := w1) hb hL)
  have WA := fun w1 hb h => weight_any k a lv L w1 (ruls_below (w := w) (w1 := w1) hb hL) h
  have WB := fun w1 hb h => ref_weight_any k a lv L w1 (ruls_below (w := w) (w1 := w1) hb hL) h
  have hl30 := numsV_len L
  obtain ⟨y, hy⟩ : ∃ y, lightB L = y := ⟨_, rfl⟩
  obtain ⟨X, hX⟩ : ∃ X, numsV L = X := ⟨_, rfl⟩
  obtain ⟨Z, hZ⟩ : ∃ Z, wtN L = Z := ⟨_, rfl⟩
  rw [hy] at R NA WA WB
  rw [hX] at NA NB hl30
  rw [hZ] at WA WB
  clear hy hX hZ
  obtain ⟨A0, c0, rfl⟩ := hL.form
  obtain ⟨n, hn⟩ : ∃ n, L.length = n := ⟨_, rfl⟩
  rw [hn] at R NA NB WA WB ⊢
  clear hL hn
  have hbox := below_alloc w (.cells #[.int .i64 k, .int .i64 a, .slice A0 n c0] 33)
  go_enter Try.func9, Try.ntmps9
  go_wp2_with fail
  refine (A _).mono ?_
  rintro e w1 ⟨rfl, hb1⟩
  have b0 : w1.cell? ⟨w.heap.size, 0, none⟩ = some (.int .i64 k) := keep_cell hb1 (by go_keep)
  have b1 : w1.cell? ⟨w.heap.size, 1, none⟩ = some (.int .i64 a) := keep_cell hb1 (by go_keep)
  have b2 : w1.cell? ⟨w.heap.size, 2, none⟩ = some (.slice A0 n c0) := keep_cell hb1 (by go_keep)
  have hw1 := bchain hbox hbox.size hb1
  clear hb1 hbox A
  go_wp2_with fail
  refine (R _ hw1).mono ?_
  rintro e w2 ⟨rfl, hb2⟩
  replace b0 : w2.cell? ⟨w.heap.size, 0, none⟩ = some (.int .i64 k) := keep_cell hb2 b0
  replace b1 : w2.cell? ⟨w.heap.size, 1, none⟩ = some (.int .i64 a) := keep_cell hb2 b1
  replace b2 : w2.cell? ⟨w.heap.size, 2, none⟩ = some (.slice A0 n c0) := keep_cell hb2 b2
  have hw2 := bchain hw1 hw1.size hb2
  clear hb2 R
  cases y with
  | false =>
    go_wp2_with fail
    go_ret
    exact ⟨rfl, hw2⟩
  | true =>
  replace NA := fun w1 hb => NA w1 hb rfl
  replace WA := fun w1 hb => WA w1 hb rfl
  replace WB := fun w1 hb => WB w1 hb rfl
  go_upto_region 5 with (fail)
  go_region_held3 (fun w' => w'.cell? ⟨w.heap.size, 0, none⟩ = some (.int .i64 k) ∧ w'.cell? ⟨w.heap.size, 1, none⟩ = some (.int .i64 a) ∧ w'.cell? ⟨w.heap.size, 2, none⟩ = some (.slice A0 n c0))
    (refine ⟨?_, ?_, ?_⟩ <;> first | with_reducible assumption | (refine keep_cell (W := w2) (by repeat (first | with_reducible assumption | with_reducible exact Below.refl _ _ | (with_reducible refine Below.alloc ?_ (by first | omega | (simp <;> omega) | simp) _) | (with_reducible refine Below.setCell ?_ (by first | omega | (simp <;> omega) | simp) _) | (with_reducible refine below_drewN ?_ _) | (with_reducible refine Below.drew ?_))) ?_; assumption)) (first
    | (go_at_call 22; (with_reducible refine (NA _ (bchain hw2 hw2.size (by repeat (first | with_reducible assumption | with_reducible exact Below.refl _ _ | (with_reducible refine Below.alloc ?_ (by first | omega | (simp <;> omega) | simp) _) | (with_reducible refine Below.setCell ?_ (by first | omega | (simp <;> omega) | simp) _) | (with_reducible refine below_drewN ?_ _) | (with_reducible refine Below.drew ?_))))).mono ?_); rintro e w5 ⟨v5, rfl, hn5, hb5⟩; have hB5 : Below w2.heap.size w2 w5 := bnext (by repeat (first | with_reducible assumption | with_reducible exact Below.refl _ _ | (with_reducible refine Below.alloc ?_ (by first | omega | (simp <;> omega) | simp) _) | (with_reducible refine Below.setCell ?_ (by first | omega | (simp <;> omega) | simp) _) | (with_reducible refine below_drewN ?_ _) | (with_reducible refine Below.drew ?_))) hb5; (try (have hn6' : NumsAt w5 v6 X := nums_below hn6 hb5)))
    | (go_at_call 24; (with_reducible refine (NB _ (bchain hw2 hw2.size (by repeat (first | with_reducible assumption | with_reducible exact Below.refl _ _ | (with_reducible refine Below.alloc ?_ (by first | omega | (simp <;> omega) | simp) _) | (with_reducible refine Below.setCell ?_ (by first | omega | (simp <;> omega) | simp) _) | (with_reducible refine below_drewN ?_ _) | (with_reducible refine Below.drew ?_))))).mono ?_); rintro e w6 ⟨v6, rfl, hn6, hb6⟩; have hB6 : Below w2.heap.size w2 w6 := bnext (by repeat (first | with_reducible assumption | with_reducible exact Below.refl _ _ | (with_reducible refine Below.alloc ?_ (by first | omega | (simp <;> omega) | simp) _) | (with_reducible refine Below.setCell ?_ (by first | omega | (simp <;> omega) | simp) _) | (with_reducible refine below_drewN ?_ _) | (with_reducible refine Below.drew ?_))) hb6; (try (have hn5' : NumsAt w6 v5 X := nums_below hn5 hb6)))
    | (go_at_call 23; (with_reducible refine (same_words_any v5 v6 X _ (by first | exact hn5' | exact hn5) (by first | exact hn6' | exact hn6) hl30).mono ?_); rintro e w7 ⟨rfl, hb7⟩; have hB7 : Below w2.heap.size w2 w7 := bnext (by repeat (first | with_reducible assumption | with_reducible exact Below.refl _ _ | (with_reducible refine Below.alloc ?_ (by first | omega | (simp <;> omega) | simp) _) | (with_reducible refine Below.setCell ?_ (by first | omega | (simp <;> omega) | simp) _) | (with_reducible refine below_drewN ?_ _) | (with_reducible refine Below.drew ?_))) hb7))
  all_goals
    go_wp2_with fail
    obtain ⟨w8, hw8⟩ : ∃ w8, w8 = w7 := ⟨_, rfl⟩
    subst hw8
    replace b0 : w8.cell? ⟨w.heap.size, 0, none⟩ = some (.int .i64 k) := keep_cell hB7 b0
    replace b1 : w8.cell? ⟨w.heap.size, 1, none⟩ = some (.int .i64 a) := keep_cell hB7 b1
    replace b2 : w8.cell? ⟨w.heap.size, 2, none⟩ = some (.slice A0 n c0) := keep_cell hB7 b2
    have hw8 := bnext hw2 hB7
    clear hB7 hb7 hB5 hB6 hb5 hb6 hn5 hn6
    go_region_held3 (fun w' => w'.cell? ⟨w.heap.size, 0, none⟩ = some (.int .i64 k) ∧ w'.cell? ⟨w.heap.size, 1, none⟩ = some (.int .i64 a) ∧ w'.cell? ⟨w.heap.size, 2, none⟩ = some (.slice A0 n c0))
      (refine ⟨?_, ?_, ?_⟩ <;> first | with_reducible assumption | (refine keep_cell (W := w8) (by repeat (first | with_reducible assumption | with_reducible exact Below.refl _ _ | (with_reducible refine Below.alloc ?_ (by first | omega | (simp <;> omega) | simp) _) | (with_reducible refine Below.setCell ?_ (by first | omega | (simp <;> omega) | simp) _) | (with_reducible refine below_drewN ?_ _) | (with_reducible refine Below.drew ?_))) ?_; assumption)) (first
      | (go_at_call 25; (with_reducible refine (WA _ (bchain hw8 hw8.size (by repeat (first | with_reducible assumption | with_reducible exact Below.refl _ _ | (with_reducible refine Below.alloc ?_ (by first | omega | (simp <;> omega) | simp) _) | (with_reducible refine Below.setCell ?_ (by first | omega | (simp <;> omega) | simp) _) | (with_reducible refine below_drewN ?_ _) | (with_reducible refine Below.drew ?_))))).mono ?_); rintro e w5 ⟨rfl, hb5⟩; have hB5 : Below w8.heap.size w8 w5 := bnext (by repeat (first | with_reducible assumption | with_reducible exact Below.refl _ _ | (with_reducible refine Below.alloc ?_ (by first | omega | (simp <;> omega) | simp) _) | (with_reducible refine Below.setCell ?_ (by first | omega | (simp <;> omega) | simp) _) | (with_reducible refine below_drewN ?_ _) | (with_reducible refine Below.drew ?_))) hb5)
      | (go_at_call 26; (with_reducible refine (WB _ (bchain hw8 hw8.size (by repeat (first | with_reducible assumption | with_reducible exact Below.refl _ _ | (with_reducible refine Below.alloc ?_ (by first | omega | (simp <;> omega) | simp) _) | (with_reducible refine Below.setCell ?_ (by first | omega | (simp <;> omega) | simp) _) | (with_reducible refine below_drewN ?_ _) | (with_reducible refine Below.drew ?_))))).mono ?_); rintro e w6 ⟨rfl, hb6⟩; have hB6 : Below w8.heap.size w8 w6 := bnext (by repeat (first | with_reducible assumption | with_reducible exact Below.refl _ _ | (with_reducible refine Below.alloc ?_ (by first | omega | (simp <;> omega) | simp) _) | (with_reducible refine Below.setCell ?_ (by first | omega | (simp <;> omega) | simp) _) | (with_reducible refine below_drewN ?_ _) | (with_reducible refine Below.drew ?_))) hb6))
    all_goals (go_wp2_with fail)
    all_goals go_ret
    all_goals first
      | exact ⟨rfl, bnext hw8 hB5⟩
      | exact ⟨rfl, bnext hw8 hB6⟩
      | exact ⟨rfl, bnext hw8 (by repeat (first | with_reducible assumption | with_reducible exact Below.refl _ _ | (with_reducible refine Below.alloc ?_ (by first | omega | (simp <;> omega) | simp) _) | (with_reducible refine Below.setCell ?_ (by first | omega | (simp <;> omega) | simp) _) | (with_reducible refine below_drewN ?_ _) | (with_reducible refine Below.drew ?_)))⟩
end Go.Proofs.Ytomcobmpojpdcaa
