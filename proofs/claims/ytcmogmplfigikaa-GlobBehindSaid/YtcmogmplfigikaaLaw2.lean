/- GlobMatches: it answers true. No conditions. -/
import Derived.Test.YtcmogmplfigikaaRefMatch
namespace Go.Proofs.Ytcmogmplfigikaa
open Go.RowKit
attribute [local go_sem ↓] Go.wp_at_zero Go.wp_at_succ
set_option linter.unusedVariables false
set_option linter.unusedSimpArgs false

set_option maxRecDepth 100000 in
set_option maxHeartbeats 1000000 in
theorem law_matches (g s : ByteArray) (w : World) : Calls Try.prog 4 #[.string g, .string s] w (Ret (.bool true) w) := by
  have A := awake_any
  have N1 := match_any g s
  have N2 := ref_match_any g s
  obtain ⟨x, hx⟩ : ∃ x, globB g.data.toList s.data.toList = x := ⟨_, rfl⟩
  rw [hx] at N1 N2
  clear hx
  by_cases h1 : (300 : Int) < (g.size : Int)
  · go_enter Try.func4, Try.ntmps4
    go_wp2_with (go_at_call 10; refine (A _).mono ?_; rintro e w1 ⟨rfl, hb1⟩)
    go_ret
    exact ⟨rfl, hb1⟩
  · have h1' : (g.size : Int) ≤ 300 := by omega
    by_cases h2 : (300 : Int) < (s.size : Int)
    · clear h1
      go_enter Try.func4, Try.ntmps4
      go_wp2_with (go_at_call 10; refine (A _).mono ?_; rintro e w1 ⟨rfl, hb1⟩)
      go_ret
      exact ⟨rfl, hb1⟩
    · have h2' : (s.size : Int) ≤ 300 := by omega
      clear h1 h2
      go_enter Try.func4, Try.ntmps4
      go_wp2_with (first
        | (go_at_call 10; refine (A _).mono ?_; rintro e w1 ⟨rfl, hb1⟩)
        | (go_at_call 13; (with_reducible refine (N1 _).mono ?_); rintro e w2 ⟨rfl, hb2⟩)
        | (go_at_call 14; (with_reducible refine (N2 _).mono ?_); rintro e w3 ⟨rfl, hb3⟩))
      go_ret
      have k2 := bchain hb1 hb1.size hb2
      exact ⟨rfl, bchain k2 k2.size hb3⟩
end Go.Proofs.Ytcmogmplfigikaa
