/- MeanNames, MeanChecks, MeanDecides: they answer true. Conditions: the rules can be read; a call's number is one of Go's. -/
import Derived.Test.YtomcobmpojpdcaaLight
import Derived.Test.YtomcobmpojpdcaaAwake
namespace Go.Proofs.Ytomcobmpojpdcaa
open Go.RowKit
attribute [local go_sem ↓] Go.wp_at_zero Go.wp_at_succ
set_option linter.unusedVariables false
set_option linter.unusedSimpArgs false

set_option maxRecDepth 100000 in
set_option maxHeartbeats 2000000 in
theorem law_names (s : ByteArray) (nr : Int) (w : World) : Calls Try.prog 3 #[.string s, .int .u32 nr] w (Ret (.bool true) w) := by
  have A := awake_any
  by_cases h1 : (1000 : Int) < (s.size : Int)
  · go_enter Try.func3, Try.ntmps3
    go_wp2_with (go_at_call 10; refine (A _).mono ?_; rintro e w1 ⟨rfl, hb1⟩)
    go_ret
    exact ⟨rfl, hb1⟩
  have N1 := nr_any s
  have N2 := ref_nr_any s
  have M1 := name_any nr
  have M2 := ref_name_any nr
  have N3 := nr_any (nameV nr).1
  unfold nameT at M1 M2
  unfold nrT at N1 N2 N3
  have back : (nameV nr).2 = true → nrV (nameV nr).1 = (nr, true) := fun h => (nrV_iff _ nr).2 (Prod.ext rfl h)
  obtain ⟨⟨c, has⟩, hc⟩ : ∃ p, nameV nr = p := ⟨_, rfl⟩
  rw [hc] at M1 M2 N3 back
  obtain ⟨⟨q, is⟩, hq⟩ : ∃ p, nrV s = p := ⟨_, rfl⟩
  rw [hq] at N1 N2
  clear hc hq
  cases has with
  | false =>
    obtain ⟨⟨b, there⟩, hn⟩ : ∃ p, nrV c = p := ⟨_, rfl⟩
    change ∀ w, Calls Try.prog 11 #[.string c] w (Ret (.tuple #[.int .u32 (nrV c).1, .bool (nrV c).2]) w) at N3
    rw [hn] at N3
    clear hn back
    go_enter Try.func3, Try.ntmps3
    go_wp2_with (first
      | (go_at_call 10; refine (A _).mono ?_; rintro e w1 ⟨rfl, hb1⟩)
      | (go_at_call 11; first | (have tk := hb4; (with_reducible refine (N3 _).mono ?_); rintro e w6 ⟨rfl, hb6⟩) | ((with_reducible refine (N1 _).mono ?_); rintro e w2 ⟨rfl, hb2⟩))
      | (go_at_call 12; (with_reducible refine (N2 _).mono ?_); rintro e w3 ⟨rfl, hb3⟩)
      | (go_at_call 13; (with_reducible refine (M1 _).mono ?_); rintro e w4 ⟨rfl, hb4⟩)
      | (go_at_call 14; (with_reducible refine (M2 _).mono ?_); rintro e w5 ⟨rfl, hb5⟩))
    go_ret
    exact ⟨rfl, bchain (bchain (bchain (bchain (bchain hb1 hb1.size hb2) (by have := hb1.size; have := hb2.size; omega) hb3) (by have := hb1.size; have := hb2.size; have := hb3.size; omega) hb4) (by have := hb1.size; have := hb2.size; have := hb3.size; have := hb4.size; omega) hb5) (by have := hb1.size; have := hb2.size; have := hb3.size; have := hb4.size; have := hb5.size; omega) hb6⟩
  | true =>
    have hn := back rfl
    change ∀ w, Calls Try.prog 11 #[.string c] w (Ret (.tuple #[.int .u32 (nrV c).1, .bool (nrV c).2]) w) at N3
    rw [hn] at N3
    clear hn back
    go_enter Try.func3, Try.ntmps3
    go_wp2_with (first
      | (go_at_call 10; refine (A _).mono ?_; rintro e w1 ⟨rfl, hb1⟩)
      | (go_at_call 11; first | (have tk := hb4; (with_reducible refine (N3 _).mono ?_); rintro e w6 ⟨rfl, hb6⟩) | ((with_reducible refine (N1 _).mono ?_); rintro e w2 ⟨rfl, hb2⟩))
      | (go_at_call 12; (with_reducible refine (N2 _).mono ?_); rintro e w3 ⟨rfl, hb3⟩)
      | (go_at_call 13; (with_reducible refine (M1 _).mono ?_); rintro e w4 ⟨rfl, hb4⟩)
      | (go_at_call 14; (with_reducible refine (M2 _).mono ?_); rintro e w5 ⟨rfl, hb5⟩))
    go_ret
    exact ⟨rfl, bchain (bchain (bchain (bchain (bchain hb1 hb1.size hb2) (by have := hb1.size; have := hb2.size; omega) hb3) (by have := hb1.size; have := hb2.size; have := hb3.size; omega) hb4) (by have := hb1.size; have := hb2.size; have := hb3.size; have := hb4.size; omega) hb5) (by have := hb1.size; have := hb2.size; have := hb3.size; have := hb4.size; have := hb5.size; omega) hb6⟩

set_option maxRecDepth 100000 in
set_option maxHeartbeats 2000000 in
theorem law_checks (k a : Int) (lv : Value) (L : List Rul) (w : World) (hL : RulsAt w lv L) : Calls Try.prog 4 #[.agg #[.int .i64 k, .int .i64 a, lv]] w (Ret (.bool true) w) := by
  have A := awake_any
  have R := fun w1 hb => light_any k a lv L w1 (ruls_below (w := w) (w1 := w1) hb hL)
  have K1 := fun w1 hb => check_any k a lv L w1 (ruls_below (w := w) (w1 := w1) hb hL)
  have K2 := fun w1 hb => ref_check_any k a lv L w1 (ruls_below (w := w) (w1 := w1) hb hL)
  unfold pairT at K1 K2
  obtain ⟨y, hy⟩ : ∃ y, lightB L = y := ⟨_, rfl⟩
  obtain ⟨⟨p, q⟩, hp⟩ : ∃ p, checkV k a L = p := ⟨_, rfl⟩
  rw [hy] at R
  rw [hp] at K1 K2
  clear hy hp
  obtain ⟨A0, c0, rfl⟩ := hL.form
  obtain ⟨n, hn⟩ : ∃ n, L.length = n := ⟨_, rfl⟩
  rw [hn] at R K1 K2 ⊢
  clear hL hn
  have hbox := below_alloc w (.cells #[.int .i64 k, .int .i64 a, .slice A0 n c0] 33)
  go_enter Try.func4, Try.ntmps4
  go_wp2_with fail
  refine (A _).mono ?_
  rintro e w1 ⟨rfl, hb1⟩
  have b0 : w1.cell? ⟨w.heap.size, 0, none⟩ = some (.int .i64 k) := keep_cell hb1 (by go_keep)
  have b1 : w1.cell? ⟨w.heap.size, 1, none⟩ = some (.int .i64 a) := keep_cell hb1 (by go_keep)
  have b2 : w1.cell? ⟨w.heap.size, 2, none⟩ = some (.slice A0 n c0) := keep_cell hb1 (by go_keep)
  have lb : w.heap.size < w1.heap.size := World.block_lt_of_cell? w1 _ b0
  have hw1 := bchain hbox hbox.size hb1
  clear hb1 hbox
  go_wp2_with fail
  refine (R _ hw1).mono ?_
  rintro e w2 ⟨rfl, hb2⟩
  have b0 : w2.cell? ⟨w.heap.size, 0, none⟩ = some (.int .i64 k) := keep_cell hb2 b0
  have b1 : w2.cell? ⟨w.heap.size, 1, none⟩ = some (.int .i64 a) := keep_cell hb2 b1
  have b2 : w2.cell? ⟨w.heap.size, 2, none⟩ = some (.slice A0 n c0) := keep_cell hb2 b2
  have lb : w.heap.size < w2.heap.size := World.block_lt_of_cell? w2 _ b0
  have hw2 := bchain hw1 hw1.size hb2
  clear hb2
  cases y with
  | false =>
    go_wp2_with fail
    go_ret
    exact ⟨rfl, hw2⟩
  | true =>
  go_wp2_with fail
  refine (K1 _ hw2).mono ?_
  rintro e w3 ⟨rfl, hb3⟩
  have b0 : w3.cell? ⟨w.heap.size, 0, none⟩ = some (.int .i64 k) := keep_cell hb3 b0
  have b1 : w3.cell? ⟨w.heap.size, 1, none⟩ = some (.int .i64 a) := keep_cell hb3 b1
  have b2 : w3.cell? ⟨w.heap.size, 2, none⟩ = some (.slice A0 n c0) := keep_cell hb3 b2
  have lb : w.heap.size < w3.heap.size := World.block_lt_of_cell? w3 _ b0
  have hw3 := bchain hw2 hw2.size hb3
  clear hb3
  go_wp2_with fail
  refine (K2 _ hw3).mono ?_
  rintro e w4 ⟨rfl, hb4⟩
  go_wp2_with fail
  go_ret
  exact ⟨rfl, bchain hw3 hw3.size hb4⟩

set_option maxRecDepth 100000 in
set_option maxHeartbeats 2000000 in
theorem law_decides (k a nr ar ip x0 x1 x2 x3 x4 x5 : Int) (lv : Value) (L : List Rul) (w : World) (hL : RulsAt w lv L) :
    Calls Try.prog 5 #[.agg #[.int .i64 k, .int .i64 a, lv], .agg #[.int .u32 nr, .int .u32 ar, .int .u64 ip, .int .u64 x0, .int .u64 x1, .int .u64 x2, .int .u64 x3, .int .u64 x4, .int .u64 x5]] w (Ret (.bool true) w) := by
  have A := awake_any
  have ae := fun (W : World) => act_eq W
  have ag := act_guard
  have R := fun w1 hb => light_any k a lv L w1 (ruls_below (w := w) (w1 := w1) hb hL)
  have K1 := fun w1 hb => decide_any k a nr ar ip x0 x1 x2 x3 x4 x5 lv L w1 (ruls_below (w := w) (w1 := w1) hb hL)
  have K2 := fun w1 hb => ref_decide_any k a nr ar ip x0 x1 x2 x3 x4 x5 lv L w1 (ruls_below (w := w) (w1 := w1) hb hL)
  unfold decT at K1 K2
  obtain ⟨y, hy⟩ : ∃ y, lightB L = y := ⟨_, rfl⟩
  obtain ⟨⟨⟨p, q⟩, r⟩, hp⟩ : ∃ p, decV nr ar x0 x1 x2 x3 x4 x5 k a L = p := ⟨_, rfl⟩
  rw [hy] at R
  rw [hp] at K1 K2
  clear hy hp
  obtain ⟨A0, c0, rfl⟩ := hL.form
  obtain ⟨n, hn⟩ : ∃ n, L.length = n := ⟨_, rfl⟩
  rw [hn] at R K1 K2 ⊢
  clear hL hn
  have hbox0 := below_alloc w (.cells #[.int .i64 k, .int .i64 a, .slice A0 n c0] 33)
  have hbox := bchain hbox0 hbox0.size (below_alloc _ (.cells #[.int .u32 nr, .int .u32 ar, .int .u64 ip, .int .u64 x0, .int .u64 x1, .int .u64 x2, .int .u64 x3, .int .u64 x4, .int .u64 x5] 41))
  clear hbox0
  go_enter Try.func5, Try.ntmps5
  go_wp2_with fail
  refine (A _).mono ?_
  rintro e w1 ⟨rfl, hb1⟩
  have b0 : w1.cell? ⟨w.heap.size, 0, none⟩ = some (.int .i64 k) := keep_cell hb1 (by go_keep)
  have b1 : w1.cell? ⟨w.heap.size, 1, none⟩ = some (.int .i64 a) := keep_cell hb1 (by go_keep)
  have b2 : w1.cell? ⟨w.heap.size, 2, none⟩ = some (.slice A0 n c0) := keep_cell hb1 (by go_keep)
  have lb : w.heap.size < w1.heap.size := World.block_lt_of_cell? w1 _ b0
  have d0 : w1.cell? ⟨w.heap.size + 1, 0, none⟩ = some (.int .u32 nr) := keep_cell hb1 (by go_keep)
  have d1 : w1.cell? ⟨w.heap.size + 1, 1, none⟩ = some (.int .u32 ar) := keep_cell hb1 (by go_keep)
  have d2 : w1.cell? ⟨w.heap.size + 1, 2, none⟩ = some (.int .u64 ip) := keep_cell hb1 (by go_keep)
  have d3 : w1.cell? ⟨w.heap.size + 1, 3, none⟩ = some (.int .u64 x0) := keep_cell hb1 (by go_keep)
  have d4 : w1.cell? ⟨w.heap.size + 1, 4, none⟩ = some (.int .u64 x1) := keep_cell hb1 (by go_keep)
  have d5 : w1.cell? ⟨w.heap.size + 1, 5, none⟩ = some (.int .u64 x2) := keep_cell hb1 (by go_keep)
  have d6 : w1.cell? ⟨w.heap.size + 1, 6, none⟩ = some (.int .u64 x3) := keep_cell hb1 (by go_keep)
  have d7 : w1.cell? ⟨w.heap.size + 1, 7, none⟩ = some (.int .u64 x4) := keep_cell hb1 (by go_keep)
  have d8 : w1.cell? ⟨w.heap.size + 1, 8, none⟩ = some (.int .u64 x5) := keep_cell hb1 (by go_keep)
  have ld : w.heap.size + 1 < w1.heap.size := World.block_lt_of_cell? w1 _ d0
  have hw1 := bchain hbox hbox.size hb1
  clear hb1 hbox
  go_wp2_with fail
  refine (R _ hw1).mono ?_
  rintro e w2 ⟨rfl, hb2⟩
  have b0 : w2.cell? ⟨w.heap.size, 0, none⟩ = some (.int .i64 k) := keep_cell hb2 b0
  have b1 : w2.cell? ⟨w.heap.size, 1, none⟩ = some (.int .i64 a) := keep_cell hb2 b1
  have b2 : w2.cell? ⟨w.heap.size, 2, none⟩ = some (.slice A0 n c0) := keep_cell hb2 b2
  have lb : w.heap.size < w2.heap.size := World.block_lt_of_cell? w2 _ b0
  have d0 : w2.cell? ⟨w.heap.size + 1, 0, none⟩ = some (.int .u32 nr) := keep_cell hb2 d0
  have d1 : w2.cell? ⟨w.heap.size + 1, 1, none⟩ = some (.int .u32 ar) := keep_cell hb2 d1
  have d2 : w2.cell? ⟨w.heap.size + 1, 2, none⟩ = some (.int .u64 ip) := keep_cell hb2 d2
  have d3 : w2.cell? ⟨w.heap.size + 1, 3, none⟩ = some (.int .u64 x0) := keep_cell hb2 d3
  have d4 : w2.cell? ⟨w.heap.size + 1, 4, none⟩ = some (.int .u64 x1) := keep_cell hb2 d4
  have d5 : w2.cell? ⟨w.heap.size + 1, 5, none⟩ = some (.int .u64 x2) := keep_cell hb2 d5
  have d6 : w2.cell? ⟨w.heap.size + 1, 6, none⟩ = some (.int .u64 x3) := keep_cell hb2 d6
  have d7 : w2.cell? ⟨w.heap.size + 1, 7, none⟩ = some (.int .u64 x4) := keep_cell hb2 d7
  have d8 : w2.cell? ⟨w.heap.size + 1, 8, none⟩ = some (.int .u64 x5) := keep_cell hb2 d8
  have ld : w.heap.size + 1 < w2.heap.size := World.block_lt_of_cell? w2 _ d0
  have hw2 := bchain hw1 hw1.size hb2
  clear hb2
  cases y with
  | false =>
    go_wp2_with fail
    go_ret
    exact ⟨rfl, hw2⟩
  | true =>
  go_wp2_with fail
  refine (K1 _ hw2).mono ?_
  rintro e w3 ⟨rfl, hb3⟩
  have b0 : w3.cell? ⟨w.heap.size, 0, none⟩ = some (.int .i64 k) := keep_cell hb3 b0
  have b1 : w3.cell? ⟨w.heap.size, 1, none⟩ = some (.int .i64 a) := keep_cell hb3 b1
  have b2 : w3.cell? ⟨w.heap.size, 2, none⟩ = some (.slice A0 n c0) := keep_cell hb3 b2
  have lb : w.heap.size < w3.heap.size := World.block_lt_of_cell? w3 _ b0
  have d0 : w3.cell? ⟨w.heap.size + 1, 0, none⟩ = some (.int .u32 nr) := keep_cell hb3 d0
  have d1 : w3.cell? ⟨w.heap.size + 1, 1, none⟩ = some (.int .u32 ar) := keep_cell hb3 d1
  have d2 : w3.cell? ⟨w.heap.size + 1, 2, none⟩ = some (.int .u64 ip) := keep_cell hb3 d2
  have d3 : w3.cell? ⟨w.heap.size + 1, 3, none⟩ = some (.int .u64 x0) := keep_cell hb3 d3
  have d4 : w3.cell? ⟨w.heap.size + 1, 4, none⟩ = some (.int .u64 x1) := keep_cell hb3 d4
  have d5 : w3.cell? ⟨w.heap.size + 1, 5, none⟩ = some (.int .u64 x2) := keep_cell hb3 d5
  have d6 : w3.cell? ⟨w.heap.size + 1, 6, none⟩ = some (.int .u64 x3) := keep_cell hb3 d6
  have d7 : w3.cell? ⟨w.heap.size + 1, 7, none⟩ = some (.int .u64 x4) := keep_cell hb3 d7
  have d8 : w3.cell? ⟨w.heap.size + 1, 8, none⟩ = some (.int .u64 x5) := keep_cell hb3 d8
  have ld : w.heap.size + 1 < w3.heap.size := World.block_lt_of_cell? w3 _ d0
  have hw3 := bchain hw2 hw2.size hb3
  clear hb3
  go_wp2_with fail
  refine (K2 _ (bchain hw3 hw3.size (below_alloc _ _))).mono ?_
  rintro e w4 ⟨rfl, hb4⟩
  have q0 : w4.cell? ⟨w3.heap.size, 0, none⟩ = some (.int .i64 p) := keep_cell hb4 (new_cell w3 _ 30 0 rfl)
  have q1 : w4.cell? ⟨w3.heap.size, 1, none⟩ = some (.int .i64 q) := keep_cell hb4 (new_cell w3 _ 30 1 rfl)
  have hlt : w3.heap.size < w4.heap.size := World.block_lt_of_cell? w4 _ q0
  have hw4 := bchain hw3 hw3.size (bchain (below_alloc w3 _) (by simp) hb4)
  clear hb4
  go_wp2_with fail
  go_ret
  exact ⟨rfl, bchain hw4 hw4.size (below_alloc _ _)⟩
end Go.Proofs.Ytomcobmpojpdcaa
