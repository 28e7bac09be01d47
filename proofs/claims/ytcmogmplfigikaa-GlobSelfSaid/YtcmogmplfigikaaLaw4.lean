/- GlobMore: it answers true. No conditions. -/
import Derived.Test.YtcmogmplfigikaaPlain3
namespace Go.Proofs.Ytcmogmplfigikaa
open Go.RowKit
attribute [local go_sem ↓] Go.wp_at_zero Go.wp_at_succ
set_option linter.unusedVariables false
set_option linter.unusedSimpArgs false

set_option maxRecDepth 100000 in
set_option maxHeartbeats 1000000 in
theorem law_more_long (g s : ByteArray) (h : (250 : Int) < (g.size : Int) ∨ (256 : Int) < (s.size : Int)) (w : World) : Calls Try.prog 6 #[.string g, .string s] w (Ret (.bool true) w) := by
  have A := awake_any
  by_cases h1 : (250 : Int) < (g.size : Int)
  · go_enter Try.func6, Try.ntmps6
    go_wp2_with (go_at_call 10; refine (A _).mono ?_; rintro e w1 ⟨rfl, hb1⟩)
    go_ret
    exact ⟨rfl, hb1⟩
  · have h2 : (256 : Int) < (s.size : Int) := by omega
    clear h
    go_enter Try.func6, Try.ntmps6
    go_wp2_with (go_at_call 10; refine (A _).mono ?_; rintro e w1 ⟨rfl, hb1⟩)
    go_ret
    exact ⟨rfl, hb1⟩

set_option maxRecDepth 100000 in
set_option maxHeartbeats 4000000 in
theorem law_more_short (g s : ByteArray) (h1 : (g.size : Int) ≤ 250) (h2 : (s.size : Int) ≤ 256) (w : World) : Calls Try.prog 6 #[.string g, .string s] w (Ret (.bool true) w) := by
  have A := awake_any
  have R := right_any s
  have M0 := match_any g s
  have M1 := match_any (strL (g.data.toList ++ 47 :: [42, 42])) s
  have M2 := match_any (strL (47 :: 42 :: 42 :: g.data.toList)) s
  have M3 := match_any ⟨#[47, 42, 42]⟩ s
  have M4 := match_any ⟨#[47, 42, 42, 47, 42, 42]⟩ s
  rw [strL_data] at M1 M2
  rw [show (ByteArray.data ⟨#[47, 42, 42]⟩).toList = [47, 42, 42] from rfl, glob_dd] at M3
  rw [show (ByteArray.data ⟨#[47, 42, 42, 47, 42, 42]⟩).toList = [47, 42, 42, 47, 42, 42] from rfl, glob_dddd] at M4
  have i1 : globB g.data.toList s.data.toList = true → globB (g.data.toList ++ 47 :: [42, 42]) s.data.toList = true := glob_behind (by rw [← size_data]; omega)
  have i2 : globB g.data.toList s.data.toList = true → globB (47 :: 42 :: 42 :: g.data.toList) s.data.toList = true := glob_ahead (by rw [← size_data]; omega)
  have e1 : g ++ (⟨#[47, 42, 42]⟩ : ByteArray) = strL (g.data.toList ++ 47 :: [42, 42]) := by
    have h := strL_append g.data.toList [47, 42, 42]
    rw [strL_of] at h
    exact h
  have e2 : (⟨#[47, 42, 42]⟩ : ByteArray) ++ g = strL (47 :: 42 :: 42 :: g.data.toList) := by
    have h := strL_append [47, 42, 42] g.data.toList
    rw [strL_of] at h
    exact h
  obtain ⟨x0, hx0⟩ : ∃ x, globB g.data.toList s.data.toList = x := ⟨_, rfl⟩
  obtain ⟨x1, hx1⟩ : ∃ x, globB (g.data.toList ++ 47 :: [42, 42]) s.data.toList = x := ⟨_, rfl⟩
  obtain ⟨x2, hx2⟩ : ∃ x, globB (47 :: 42 :: 42 :: g.data.toList) s.data.toList = x := ⟨_, rfl⟩
  obtain ⟨r, hr⟩ : ∃ x, rightB s.data.toList = x := ⟨_, rfl⟩
  obtain ⟨g1, hg1⟩ : ∃ x, strL (g.data.toList ++ 47 :: [42, 42]) = x := ⟨_, rfl⟩
  obtain ⟨g2, hg2⟩ : ∃ x, strL (47 :: 42 :: 42 :: g.data.toList) = x := ⟨_, rfl⟩
  rw [hx0] at M0 i1 i2
  rw [hx1] at M1 i1
  rw [hx2] at M2 i2
  rw [hr] at M3 M4 R
  rw [hg1] at M1 e1
  rw [hg2] at M2 e2
  clear hx0 hx1 hx2 hr hg1 hg2
  cases x0 with
  | false =>
    clear i1 i2
    go_enter Try.func6, Try.ntmps6
    go_wp2_with (first
      | (go_at_call 10; refine (A _).mono ?_; rintro e w1 ⟨rfl, hb1⟩)
      | (go_at_call 16; (with_reducible refine (R _).mono ?_); rintro e w' ⟨rfl, rfl⟩)
      | (go_at_call 13; first | ((with_reducible refine (M0 _).mono ?_); rintro e w2 ⟨rfl, hb2⟩) | ((with_reducible refine (M1 _).mono ?_); rintro e w3 ⟨rfl, hb3⟩) | ((with_reducible refine (M2 _).mono ?_); rintro e w4 ⟨rfl, hb4⟩) | ((with_reducible refine (M3 _).mono ?_); rintro e w5 ⟨rfl, hb5⟩) | ((with_reducible refine (M4 _).mono ?_); rintro e w6 ⟨rfl, hb6⟩)))
    go_ret
    have k2 := bchain hb1 hb1.size hb2
    have k3 := bchain k2 k2.size hb3
    have k4 := bchain k3 k3.size hb4
    have k5 := bchain k4 k4.size hb5
    exact ⟨rfl, bchain k5 k5.size hb6⟩
  | true =>
    obtain rfl := i1 rfl
    obtain rfl := i2 rfl
    clear i1 i2
    go_enter Try.func6, Try.ntmps6
    go_wp2_with (first
      | (go_at_call 10; refine (A _).mono ?_; rintro e w1 ⟨rfl, hb1⟩)
      | (go_at_call 16; (with_reducible refine (R _).mono ?_); rintro e w' ⟨rfl, rfl⟩)
      | (go_at_call 13; first | ((with_reducible refine (M0 _).mono ?_); rintro e w2 ⟨rfl, hb2⟩) | ((with_reducible refine (M1 _).mono ?_); rintro e w3 ⟨rfl, hb3⟩) | ((with_reducible refine (M2 _).mono ?_); rintro e w4 ⟨rfl, hb4⟩) | ((with_reducible refine (M3 _).mono ?_); rintro e w5 ⟨rfl, hb5⟩) | ((with_reducible refine (M4 _).mono ?_); rintro e w6 ⟨rfl, hb6⟩)))
    go_ret
    have k2 := bchain hb1 hb1.size hb2
    have k3 := bchain k2 k2.size hb3
    have k4 := bchain k3 k3.size hb4
    have k5 := bchain k4 k4.size hb5
    exact ⟨rfl, bchain k5 k5.size hb6⟩

theorem law_more (g s : ByteArray) (w : World) : Calls Try.prog 6 #[.string g, .string s] w (Ret (.bool true) w) := by
  by_cases h : (250 : Int) < (g.size : Int) ∨ (256 : Int) < (s.size : Int)
  · exact law_more_long g s h w
  · exact law_more_short g s (by omega) (by omega) w
end Go.Proofs.Ytcmogmplfigikaa
