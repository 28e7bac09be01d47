/- awake; GlobNames: they answer true. No conditions. -/
import Derived.Test.YtcmogmplfigikaaMatch
import Derived.Test.YtcmogmplfigikaaRefName
namespace Go.Proofs.Ytcmogmplfigikaa
open Go.RowKit
attribute [local go_sem ↓] Go.wp_at_zero Go.wp_at_succ
set_option linter.unusedVariables false
set_option linter.unusedSimpArgs false

theorem names_etc_star : namesL [47, 101, 116, 99, 47, 42] = [[101, 116, 99], [42]] := by
  rw [names_cons (by decide), show ([101, 116, 99, 47, 42] : List UInt8) = [101, 116, 99] ++ 47 :: [42] from rfl, pieces_cut _ _ (by decide), pieces_one _ (by decide)]
  decide
theorem names_etc_a : namesL [47, 101, 116, 99, 47, 97] = [[101, 116, 99], [97]] := by
  rw [names_cons (by decide), show ([101, 116, 99, 47, 97] : List UInt8) = [101, 116, 99] ++ 47 :: [97] from rfl, pieces_cut _ _ (by decide), pieces_one _ (by decide)]
  decide
theorem names_etc_ab : namesL [47, 101, 116, 99, 47, 97, 47, 98] = [[101, 116, 99], [97], [98]] := by
  rw [names_cons (by decide), show ([101, 116, 99, 47, 97, 47, 98] : List UInt8) = [101, 116, 99] ++ 47 :: ([97] ++ 47 :: [98]) from rfl, pieces_cut _ _ (by decide), pieces_cut _ _ (by decide), pieces_one _ (by decide)]
  decide
theorem awake1 : globB [47, 101, 116, 99, 47, 42] [47, 101, 116, 99, 47, 97] = true := by
  unfold globB
  rw [names_etc_star, names_etc_a]
  decide
theorem awake2 : globB [47, 101, 116, 99, 47, 42] [47, 101, 116, 99, 47, 97, 47, 98] = false := by
  unfold globB
  rw [names_etc_star, names_etc_ab]
  decide

theorem bchain {a b c : World} {n : Nat} (h1 : Below n a b) (hn : n ≤ b.heap.size) (h2 : Below b.heap.size b c) : Below n a c := h1.trans (h2.mono hn)

set_option maxRecDepth 100000 in
set_option maxHeartbeats 1000000 in
theorem awake_any (w : World) : Calls Try.prog 10 #[] w (Ret (.bool true) w) := by
  have M1 := match_any ⟨#[47, 101, 116, 99, 47, 42]⟩ ⟨#[47, 101, 116, 99, 47, 97]⟩
  have M2 := match_any ⟨#[47, 101, 116, 99, 47, 42]⟩ ⟨#[47, 101, 116, 99, 47, 97, 47, 98]⟩
  have N1 := name_any ⟨#[97, 42, 99]⟩ ⟨#[97, 98, 98, 99]⟩ (by decide) (by decide)
  rw [show (ByteArray.data ⟨#[47, 101, 116, 99, 47, 42]⟩).toList = [47, 101, 116, 99, 47, 42] from rfl, show (ByteArray.data ⟨#[47, 101, 116, 99, 47, 97]⟩).toList = [47, 101, 116, 99, 47, 97] from rfl, awake1] at M1
  rw [show (ByteArray.data ⟨#[47, 101, 116, 99, 47, 42]⟩).toList = [47, 101, 116, 99, 47, 42] from rfl, show (ByteArray.data ⟨#[47, 101, 116, 99, 47, 97, 47, 98]⟩).toList = [47, 101, 116, 99, 47, 97, 47, 98] from rfl, awake2] at M2
  rw [show (ByteArray.data ⟨#[97, 42, 99]⟩).toList = [97, 42, 99] from rfl, show (ByteArray.data ⟨#[97, 98, 98, 99]⟩).toList = [97, 98, 98, 99] from rfl, show nameM [97, 42, 99] [97, 98, 98, 99] = true from by decide] at N1
  go_enter Try.func10, Try.ntmps10
  go_wp2_with (first
    | (go_at_call 13; first | ((with_reducible refine (M1 _).mono ?_); rintro e w1 ⟨rfl, hb1⟩) | ((with_reducible refine (M2 _).mono ?_); rintro e w2 ⟨rfl, hb2⟩))
    | (go_at_call 11; (with_reducible refine (N1 _).mono ?_); rintro e w3 ⟨rfl, m, rfl⟩))
  go_ret
  exact ⟨rfl, below_drewN (bchain hb1 hb1.size hb2) m⟩

set_option maxRecDepth 100000 in
set_option maxHeartbeats 1000000 in
theorem law_names (g s : ByteArray) (w : World) : Calls Try.prog 3 #[.string g, .string s] w (Ret (.bool true) w) := by
  have A := awake_any
  by_cases h1 : (100 : Int) < (g.size : Int)
  · go_enter Try.func3, Try.ntmps3
    go_wp2_with (go_at_call 10; refine (A _).mono ?_; rintro e w1 ⟨rfl, hb1⟩)
    go_ret
    exact ⟨rfl, hb1⟩
  · have h1' : (g.size : Int) ≤ 100 := by omega
    by_cases h2 : (300 : Int) < (s.size : Int)
    · clear h1
      go_enter Try.func3, Try.ntmps3
      go_wp2_with (go_at_call 10; refine (A _).mono ?_; rintro e w1 ⟨rfl, hb1⟩)
      go_ret
      exact ⟨rfl, hb1⟩
    · have h2' : (s.size : Int) ≤ 300 := by omega
      have N1 := name_any g s (by omega) (by omega)
      have N2 := ref_name_any g s (by omega) (by omega)
      obtain ⟨x, hx⟩ : ∃ x, nameM g.data.toList s.data.toList = x := ⟨_, rfl⟩
      rw [hx] at N1 N2
      clear h1 h2 hx
      go_enter Try.func3, Try.ntmps3
      go_wp2_with (first
        | (go_at_call 10; refine (A _).mono ?_; rintro e w1 ⟨rfl, hb1⟩)
        | (go_at_call 11; (with_reducible refine (N1 _).mono ?_); rintro e w2 ⟨rfl, m, rfl⟩)
        | (go_at_call 12; (with_reducible refine (N2 _).mono ?_); rintro e w3 ⟨rfl, hb3⟩))
      go_ret
      exact ⟨rfl, bchain (below_drewN hb1 m) (by simp; exact hb1.size) hb3⟩
end Go.Proofs.Ytcmogmplfigikaa
