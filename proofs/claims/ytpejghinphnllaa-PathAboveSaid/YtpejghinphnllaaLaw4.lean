/- PathAbove: it answers true. No conditions. -/
import Derived.Test.YtpejghinphnllaaPlain2
import Derived.Test.YtpejghinphnllaaLaw1
namespace Go.Proofs.Ytpejghinphnllaa
open Go.RowKit Go.Shelf
set_option linter.unusedVariables false
set_option linter.unusedSimpArgs false

set_option maxRecDepth 100000 in
set_option maxHeartbeats 1000000 in
theorem law_above_long (s t : ByteArray) (hs : (2000 : Int) < (s.size : Int) ∨ (2000 : Int) < (t.size : Int)) (w : World) : Calls Try.prog 7 #[.string s, .string t] w (Ret (.bool true) w) := by
  have A := awake_any
  go_enter Try.func7, Try.ntmps7
  by_cases h1 : (2000 : Int) < (s.size : Int)
  · go_wp2_with (go_at_call 9; refine (A _).mono ?_; rintro e w1 ⟨rfl, hb1⟩)
    go_ret
    exact ⟨rfl, hb1⟩
  · have h2 : (2000 : Int) < (t.size : Int) := by omega
    clear hs
    go_wp2_with (go_at_call 9; refine (A _).mono ?_; rintro e w1 ⟨rfl, hb1⟩)
    go_ret
    exact ⟨rfl, hb1⟩

set_option maxRecDepth 100000 in
set_option maxHeartbeats 1000000 in
theorem law_above_bad (s t : ByteArray) (hs : (s.size : Int) ≤ 2000) (ht : (t.size : Int) ≤ 2000) (hr : rightB s.data.toList = false) (w : World) : Calls Try.prog 7 #[.string s, .string t] w (Ret (.bool true) w) := by
  have A := awake_any
  have U := up_any s
  have V := up_any ⟨#[]⟩
  unfold upV at U V
  rw [hr, if_neg (by decide)] at U
  rw [if_neg (by decide)] at V
  go_enter Try.func7, Try.ntmps7
  go_wp2_with (first
    | (go_at_call 9; refine (A _).mono ?_; rintro e w1 ⟨rfl, hb1⟩)
    | (go_at_call 19; first | ((with_reducible refine (U _).mono ?_); rintro e w2 ⟨rfl, hb2⟩) | ((with_reducible refine (V _).mono ?_); rintro e w3 ⟨rfl, hb3⟩)))
  go_ret
  exact ⟨rfl, hb1.trans ((hb2.trans (hb3.mono hb2.size)).mono hb1.size)⟩

theorem bchain {a b c : World} {n : Nat} (h1 : Below n a b) (hn : n ≤ b.heap.size) (h2 : Below b.heap.size b c) : Below n a c := h1.trans (h2.mono hn)

set_option maxRecDepth 100000 in
set_option maxHeartbeats 2000000 in
theorem law_above_good (s t : ByteArray) (hs : (s.size : Int) ≤ 2000) (ht : (t.size : Int) ≤ 2000) (hr : rightB s.data.toList = true) (w : World) : Calls Try.prog 7 #[.string s, .string t] w (Ret (.bool true) w) := by
  have A := awake_any
  have U := up_any s
  unfold upV at U
  rw [hr, if_pos rfl] at U
  have V := up_any (strL (upL s.data.toList))
  unfold upV at V
  rw [strL_data, right_up, if_pos rfl] at V
  have W1 := within_any s s
  rw [within_self hr] at W1
  have W2 := within_any s (strL (upL s.data.toList))
  rw [strL_data, within_up hr] at W2
  have W3 := within_any s ⟨#[47]⟩
  rw [show (ByteArray.data ⟨#[47]⟩).toList = [47] from rfl, within_root hr] at W3
  have W4 := within_any (strL (upL s.data.toList)) (strL (upL (upL s.data.toList)))
  rw [strL_data, strL_data, within_up (right_up _)] at W4
  have W5 := within_any t (strL (upL s.data.toList))
  have W6 := within_any t (strL (upL (upL s.data.toList)))
  rw [strL_data] at W5 W6
  have himp : withinB t.data.toList (upL s.data.toList) = true → withinB t.data.toList (upL (upL s.data.toList)) = true := fun h => within_trans h (within_up (right_up _))
  obtain ⟨bi, hbi⟩ : ∃ b, withinB t.data.toList (upL s.data.toList) = b := ⟨_, rfl⟩
  obtain ⟨bf, hbf⟩ : ∃ b, withinB t.data.toList (upL (upL s.data.toList)) = b := ⟨_, rfl⟩
  rw [hbi] at W5 himp
  rw [hbf] at W6 himp
  obtain ⟨u, hu⟩ : ∃ u, strL (upL s.data.toList) = u := ⟨_, rfl⟩
  obtain ⟨v, hv⟩ : ∃ v, strL (upL (upL s.data.toList)) = v := ⟨_, rfl⟩
  rw [hu] at U V W2 W4 W5
  rw [hv] at V W4 W6
  clear hu hv hbi hbf hr
  cases bi with
  | false =>
    clear himp
    go_enter Try.func7, Try.ntmps7
    go_wp2_with (first
      | (go_at_call 9; refine (A _).mono ?_; rintro e w1 ⟨rfl, hb1⟩)
      | (go_at_call 19; first | ((with_reducible refine (U _).mono ?_); rintro e w2 ⟨rfl, hb2⟩) | ((with_reducible refine (V _).mono ?_); rintro e w3 ⟨rfl, hb3⟩))
      | (go_at_call 14; first | ((with_reducible refine (W1 _).mono ?_); rintro e w4 ⟨rfl, hb4⟩) | ((with_reducible refine (W2 _).mono ?_); rintro e w5 ⟨rfl, hb5⟩) | ((with_reducible refine (W3 _).mono ?_); rintro e w6 ⟨rfl, hb6⟩) | ((with_reducible refine (W4 _).mono ?_); rintro e w7 ⟨rfl, hb7⟩) | ((with_reducible refine (W5 _).mono ?_); rintro e w8 ⟨rfl, hb8⟩) | ((with_reducible refine (W6 _).mono ?_); rintro e w9 ⟨rfl, hb9⟩)))
    go_ret
    have k2 := bchain hb1 hb1.size hb2
    have k3 := bchain k2 k2.size hb3
    have k4 := bchain k3 k3.size hb4
    have k5 := bchain k4 k4.size hb5
    have k6 := bchain k5 k5.size hb6
    have k7 := bchain k6 k6.size hb7
    have k8 := bchain k7 k7.size hb8
    exact ⟨rfl, bchain k8 k8.size hb9⟩
  | true =>
    obtain rfl := himp rfl
    clear himp
    go_enter Try.func7, Try.ntmps7
    go_wp2_with (first
      | (go_at_call 9; refine (A _).mono ?_; rintro e w1 ⟨rfl, hb1⟩)
      | (go_at_call 19; first | ((with_reducible refine (U _).mono ?_); rintro e w2 ⟨rfl, hb2⟩) | ((with_reducible refine (V _).mono ?_); rintro e w3 ⟨rfl, hb3⟩))
      | (go_at_call 14; first | ((with_reducible refine (W1 _).mono ?_); rintro e w4 ⟨rfl, hb4⟩) | ((with_reducible refine (W2 _).mono ?_); rintro e w5 ⟨rfl, hb5⟩) | ((with_reducible refine (W3 _).mono ?_); rintro e w6 ⟨rfl, hb6⟩) | ((with_reducible refine (W4 _).mono ?_); rintro e w7 ⟨rfl, hb7⟩) | ((with_reducible refine (W5 _).mono ?_); rintro e w8 ⟨rfl, hb8⟩) | ((with_reducible refine (W6 _).mono ?_); rintro e w9 ⟨rfl, hb9⟩)))
    go_ret
    have k2 := bchain hb1 hb1.size hb2
    have k3 := bchain k2 k2.size hb3
    have k4 := bchain k3 k3.size hb4
    have k5 := bchain k4 k4.size hb5
    have k6 := bchain k5 k5.size hb6
    have k7 := bchain k6 k6.size hb7
    have k8 := bchain k7 k7.size hb8
    exact ⟨rfl, bchain k8 k8.size hb9⟩

theorem law_above (s t : ByteArray) (w : World) : Calls Try.prog 7 #[.string s, .string t] w (Ret (.bool true) w) := by
  by_cases h : (2000 : Int) < (s.size : Int) ∨ (2000 : Int) < (t.size : Int)
  · exact law_above_long s t h w
  · cases hr : rightB s.data.toList with
    | false => exact law_above_bad s t (by omega) (by omega) hr w
    | true => exact law_above_good s t (by omega) (by omega) hr w
end Go.Proofs.Ytpejghinphnllaa
