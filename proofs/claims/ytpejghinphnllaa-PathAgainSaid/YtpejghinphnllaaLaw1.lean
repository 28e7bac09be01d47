/- PathCleans, PathWithin: they answer true. No conditions. -/
import Derived.Test.YtpejghinphnllaaRefLeft
namespace Go.Proofs.Ytpejghinphnllaa
open Go.RowKit Go.Shelf
set_option linter.unusedVariables false
set_option linter.unusedSimpArgs false

theorem left_awake1 : leftL (namesL [47, 97, 47, 47, 98, 47, 46, 47, 46, 46, 47, 99, 47]) = [[97], [99]] := by
  rw [names_cons (by decide), show ([97, 47, 47, 98, 47, 46, 47, 46, 46, 47, 99, 47] : List UInt8) = [97] ++ 47 :: ([] ++ 47 :: ([98] ++ 47 :: ([46] ++ 47 :: ([46, 46] ++ 47 :: ([99] ++ 47 :: []))))) from rfl,
    pieces_cut _ _ (by decide), pieces_cut _ _ (by decide), pieces_cut _ _ (by decide), pieces_cut _ _ (by decide), pieces_cut _ _ (by decide), pieces_cut _ _ (by decide), pieces_one _ (by decide)]
  decide
theorem awake_clean : cleanV [47, 97, 47, 47, 98, 47, 46, 47, 46, 46, 47, 99, 47] = .tuple #[.string ⟨#[47, 97, 47, 99]⟩, .int .i64 0] := by
  unfold cleanV cleanL
  rw [left_awake1, if_pos (by decide)]
  rfl
theorem awake_within : withinB [47, 97, 47, 98] [47, 97] = true := by
  unfold withinB
  rw [names_cons (l' := [97, 47, 98]) (by decide), names_cons (l' := [97]) (by decide), show ([97, 47, 98] : List UInt8) = [97] ++ 47 :: [98] from rfl, pieces_cut _ _ (by decide), pieces_one [98] (by decide), pieces_one [97] (by decide)]
  decide

set_option maxRecDepth 100000 in
set_option maxHeartbeats 1000000 in
theorem awake_any (w : World) : Calls Try.prog 9 #[] w (Ret (.bool true) w) := by
  have C := clean_any ⟨#[47, 97, 47, 47, 98, 47, 46, 47, 46, 46, 47, 99, 47]⟩
  have V := within_any ⟨#[47, 97, 47, 98]⟩ ⟨#[47, 97]⟩
  rw [show (ByteArray.data ⟨#[47, 97, 47, 47, 98, 47, 46, 47, 46, 46, 47, 99, 47]⟩).toList = [47, 97, 47, 47, 98, 47, 46, 47, 46, 46, 47, 99, 47] from rfl, awake_clean] at C
  rw [show (ByteArray.data ⟨#[47, 97, 47, 98]⟩).toList = [47, 97, 47, 98] from rfl, show (ByteArray.data ⟨#[47, 97]⟩).toList = [47, 97] from rfl, awake_within] at V
  go_enter Try.func9, Try.ntmps9
  go_wp2_with (first
    | (go_at_call 16; refine (C _).mono ?_; rintro e w1 ⟨rfl, hb1⟩)
    | (go_at_call 14; refine (V _).mono ?_; rintro e w2 ⟨rfl, hb2⟩))
  go_ret
  exact ⟨rfl, hb1.trans (hb2.mono hb1.size)⟩

set_option maxRecDepth 100000 in
set_option maxHeartbeats 1000000 in
theorem law_within (s d : ByteArray) (w : World) : Calls Try.prog 4 #[.string s, .string d] w (Ret (.bool true) w) := by
  have A := awake_any
  have P := within_any s d
  have Q := ref_within_any s d
  obtain ⟨b, hb⟩ : ∃ b, withinB s.data.toList d.data.toList = b := ⟨_, rfl⟩
  rw [hb] at P Q
  clear hb
  go_enter Try.func4, Try.ntmps4
  by_cases h1 : (2000 : Int) < (s.size : Int)
  · go_wp2_with (go_at_call 9; refine (A _).mono ?_; rintro e w1 ⟨rfl, hb1⟩)
    go_ret
    exact ⟨rfl, hb1⟩
  · have h1' : (s.size : Int) ≤ 2000 := by omega
    by_cases h2 : (2000 : Int) < (d.size : Int)
    · go_wp2_with (go_at_call 9; refine (A _).mono ?_; rintro e w1 ⟨rfl, hb1⟩)
      go_ret
      exact ⟨rfl, hb1⟩
    · have h2' : (d.size : Int) ≤ 2000 := by omega
      clear h1 h2
      go_wp2_with (first
        | (go_at_call 9; refine (A _).mono ?_; rintro e w1 ⟨rfl, hb1⟩)
        | (go_at_call 14; refine (P _).mono ?_; rintro e w2 ⟨rfl, hb2⟩)
        | (go_at_call 15; refine (Q _).mono ?_; rintro e w3 ⟨rfl, hb3⟩))
      go_ret
      exact ⟨rfl, hb1.trans ((hb2.trans (hb3.mono hb2.size)).mono hb1.size)⟩

set_option maxRecDepth 100000 in
set_option maxHeartbeats 1000000 in
theorem law_cleans (s : ByteArray) (w : World) : Calls Try.prog 6 #[.string s] w (Ret (.bool true) w) := by
  have A := awake_any
  have C := clean_any s
  have D := ref_clean_any s
  have U := up_any s
  have V := ref_up_any s
  have R := right_any s
  have S := ref_right_any s
  go_enter Try.func6, Try.ntmps6
  by_cases h1 : (2000 : Int) < (s.size : Int)
  · go_wp2_with (go_at_call 9; refine (A _).mono ?_; rintro e w1 ⟨rfl, hb1⟩)
    go_ret
    exact ⟨rfl, hb1⟩
  · have h1' : (s.size : Int) ≤ 2000 := by omega
    clear h1
    unfold cleanV at C D
    unfold upV at U V
    cases hr : rightB s.data.toList with
    | false =>
      rw [hr] at C D U V R S
      rw [if_neg (by decide)] at C D U V
      go_wp2_with (first
        | (go_at_call 9; refine (A _).mono ?_; rintro e w1 ⟨rfl, hb1⟩)
        | (go_at_call 16; refine (C _).mono ?_; rintro e w2 ⟨rfl, hb2⟩)
        | (go_at_call 18; refine (D _).mono ?_; rintro e w3 ⟨rfl, hb3⟩)
        | (go_at_call 19; refine (U _).mono ?_; rintro e w4 ⟨rfl, hb4⟩)
        | (go_at_call 20; refine (V _).mono ?_; rintro e w5 ⟨rfl, hb5⟩)
        | (go_at_call 17; refine (R _).mono ?_; rintro e w6 ⟨rfl, rfl⟩)
        | (go_at_call 21; refine (S _).mono ?_; rintro e w7 ⟨rfl, rfl⟩))
      go_ret
      exact ⟨rfl, hb1.trans ((hb2.trans ((hb3.trans ((hb4.trans (hb5.mono hb4.size)).mono hb3.size)).mono hb2.size)).mono hb1.size)⟩
    | true =>
      rw [hr] at C D U V R S
      rw [if_pos rfl] at C D U V
      obtain ⟨ca, hca⟩ : ∃ ca, strL (cleanL s.data.toList) = ca := ⟨_, rfl⟩
      obtain ⟨ua, hua⟩ : ∃ ua, strL (upL s.data.toList) = ua := ⟨_, rfl⟩
      rw [hca] at C D
      rw [hua] at U V
      clear hca hua hr
      go_wp2_with (first
        | (go_at_call 9; refine (A _).mono ?_; rintro e w1 ⟨rfl, hb1⟩)
        | (go_at_call 16; refine (C _).mono ?_; rintro e w2 ⟨rfl, hb2⟩)
        | (go_at_call 18; refine (D _).mono ?_; rintro e w3 ⟨rfl, hb3⟩)
        | (go_at_call 19; refine (U _).mono ?_; rintro e w4 ⟨rfl, hb4⟩)
        | (go_at_call 20; refine (V _).mono ?_; rintro e w5 ⟨rfl, hb5⟩)
        | (go_at_call 17; refine (R _).mono ?_; rintro e w6 ⟨rfl, rfl⟩)
        | (go_at_call 21; refine (S _).mono ?_; rintro e w7 ⟨rfl, rfl⟩))
      go_ret
      exact ⟨rfl, hb1.trans ((hb2.trans ((hb3.trans ((hb4.trans (hb5.mono hb4.size)).mono hb3.size)).mono hb2.size)).mono hb1.size)⟩
end Go.Proofs.Ytpejghinphnllaa
