/- GlobSelf: it answers true. No conditions. -/
import Derived.Test.YtcmogmplfigikaaLaw4
namespace Go.Proofs.Ytcmogmplfigikaa
open Go.RowKit
attribute [local go_sem ↓] Go.wp_at_zero Go.wp_at_succ
set_option linter.unusedVariables false
set_option linter.unusedSimpArgs false

set_option maxRecDepth 100000 in
set_option maxHeartbeats 1000000 in
theorem law_self_long (p q : ByteArray) (h : (256 : Int) < (p.size : Int) ∨ (256 : Int) < (q.size : Int)) (w : World) : Calls Try.prog 5 #[.string p, .string q] w (Ret (.bool true) w) := by
  have A := awake_any
  by_cases h1 : (256 : Int) < (p.size : Int)
  · go_enter Try.func5, Try.ntmps5
    go_wp2_with (go_at_call 10; refine (A _).mono ?_; rintro e w1 ⟨rfl, hb1⟩)
    go_ret
    exact ⟨rfl, hb1⟩
  · have h2 : (256 : Int) < (q.size : Int) := by omega
    clear h
    go_enter Try.func5, Try.ntmps5
    go_wp2_with (go_at_call 10; refine (A _).mono ?_; rintro e w1 ⟨rfl, hb1⟩)
    go_ret
    exact ⟨rfl, hb1⟩
def PlainRel (l : List UInt8) (i : Value) : Prop := ∃ k : Nat, k ≤ l.length ∧ i = .int .i64 k ∧ ∀ j, j < k → l[j]? ≠ some 42 ∧ l[j]? ≠ some 63

set_option maxRecDepth 100000 in
set_option maxHeartbeats 4000000 in
theorem law_self_short (s q : ByteArray) (h1 : (s.size : Int) ≤ 256) (h2 : (q.size : Int) ≤ 256) (w : World) : Calls Try.prog 5 #[.string s, .string q] w (Ret (.bool true) w) := by
  have A := awake_any
  have C := clean_any s
  have D := clean_any q
  have Hlt : Hid (s.data.toList.length = s.size) := Lib.hid (size_data s).symm
  go_enter Try.func5, Try.ntmps5
  go_wp2_with (go_at_call 10; refine (A _).mono ?_; rintro e w1 ⟨rfl, hb1⟩)
  go_loop [6] (fun i => PlainRel s.data.toList i) (fun i => s.size - (intOf i).toNat)
  case atStart => exact ⟨0, Nat.zero_le _, rfl, fun j hj => by omega⟩
  case round =>
    obtain ⟨k, hk, rfl, hall⟩ := hrel
    rw [Hlt.out] at hk
    have Hall := Lib.hid hall
    clear hall
    by_cases hlt : k < s.size
    · by_cases ha : s[k] = 42
      · have hc : (((s[k]).toNat : Int) == 42) = true := by rw [ha]; rfl
        clear ha
        go_wp2
        go_ret
        exact ⟨rfl, hb1⟩
      · have hc : (((s[k]).toNat : Int) == 42) = false := byte_ne (n := 42) (by omega) ha
        have Ha := Lib.hid ha
        clear ha
        by_cases hz : s[k] = 63
        · have hc0 : (((s[k]).toNat : Int) == 63) = true := by rw [hz]; rfl
          clear hz
          go_wp2
          go_ret
          exact ⟨rfl, hb1⟩
        · have hc0 : (((s[k]).toNat : Int) == 63) = false := byte_ne (n := 63) (by omega) hz
          have Hz := Lib.hid hz
          clear hz
          go_wp2
          go_round
          case rel => exact ⟨k + 1, by rw [Hlt.out]; omega, by go_num, fun j hj => by
            by_cases hjk : j = k
            · subst hjk
              rw [get_data s j hlt]
              exact ⟨fun h => Ha.out (Option.some.inj h), fun h => Hz.out (Option.some.inj h)⟩
            · exact Hall.out j (by omega)⟩
          case measure => (simp [intOf] <;> omega)
    · obtain rfl : k = s.size := by omega
      have hP : PlainN s.data.toList := fun b hb => by
        obtain ⟨i, hi⟩ := List.getElem?_of_mem hb
        have hl := (List.getElem?_eq_some_iff.1 hi).1
        have := Hall.out i (by rw [← Hlt.out]; exact hl)
        rw [hi] at this
        exact ⟨fun h => this.1 (by rw [h]), fun h => this.2 (by rw [h])⟩
      unfold cleanV at C D
      cases hr : rightB s.data.toList with
      | false =>
        rw [hr, if_neg (by decide)] at C
        clear hP
        cases hq : rightB q.data.toList with
        | false =>
          rw [hq, if_neg (by decide)] at D
          go_wp2_with (go_at_call 15; first | ((with_reducible refine (C _).mono ?_); rintro e w2 ⟨rfl, hb2⟩) | ((with_reducible refine (D _).mono ?_); rintro e w3 ⟨rfl, hb3⟩))
          go_ret
          have k2 := bchain hb1 hb1.size hb2
          first | exact ⟨rfl, bchain k2 k2.size hb3⟩ | exact ⟨rfl, k2⟩
        | true =>
          rw [hq, if_pos rfl] at D
          go_wp2_with (go_at_call 15; first | ((with_reducible refine (C _).mono ?_); rintro e w2 ⟨rfl, hb2⟩) | ((with_reducible refine (D _).mono ?_); rintro e w3 ⟨rfl, hb3⟩))
          go_ret
          have k2 := bchain hb1 hb1.size hb2
          first | exact ⟨rfl, bchain k2 k2.size hb3⟩ | exact ⟨rfl, k2⟩
      | true =>
        rw [hr, if_pos rfl] at C
        cases hq : rightB q.data.toList with
        | false =>
          rw [hq, if_neg (by decide)] at D
          clear hP
          go_wp2_with (go_at_call 15; first | ((with_reducible refine (C _).mono ?_); rintro e w2 ⟨rfl, hb2⟩) | ((with_reducible refine (D _).mono ?_); rintro e w3 ⟨rfl, hb3⟩))
          go_ret
          have k2 := bchain hb1 hb1.size hb2
          exact ⟨rfl, bchain k2 k2.size hb3⟩
        | true =>
          rw [hq, if_pos rfl] at D
          have M1 := match_any (strL (cleanL s.data.toList)) s
          have M2 := match_any (strL (cleanL s.data.toList)) q
          rw [strL_data, glob_self hP hr] at M1
          rw [strL_data, glob_self hP hq] at M2
          have hself : (cleanL s.data.toList == cleanL s.data.toList) = true := by simp
          rw [hself] at M1
          have t1 : (strL (cleanL s.data.toList)).toList = cleanL s.data.toList := ByteArray.toList_eq _
          have t2 : (strL (cleanL q.data.toList)).toList = cleanL q.data.toList := ByteArray.toList_eq _
          obtain ⟨lc, hlc⟩ : ∃ x, cleanL s.data.toList = x := ⟨_, rfl⟩
          obtain ⟨ld, hld⟩ : ∃ x, cleanL q.data.toList = x := ⟨_, rfl⟩
          rw [hlc] at C M1 M2 t1
          rw [hld] at D M2 t2
          obtain ⟨c, hc⟩ : ∃ x, strL lc = x := ⟨_, rfl⟩
          obtain ⟨d, hd⟩ : ∃ x, strL ld = x := ⟨_, rfl⟩
          rw [hc] at C M1 M2 t1
          rw [hd] at D t2
          obtain ⟨y, hy⟩ : ∃ y, (lc == ld) = y := ⟨_, rfl⟩
          rw [hy] at M2
          clear hlc hld hc hd hself hP hr hq
          go_wp2_with (first
            | (go_at_call 15; first | (have hx := hb2; (with_reducible refine (D _).mono ?_); rintro e w3 ⟨rfl, hb3⟩) | ((with_reducible refine (C _).mono ?_); rintro e w2 ⟨rfl, hb2⟩))
            | (go_at_call 13; first | (have hx := hb4; (with_reducible refine (M2 _).mono ?_); rintro e w5 ⟨rfl, hb5⟩) | ((with_reducible refine (M1 _).mono ?_); rintro e w4 ⟨rfl, hb4⟩)))
          go_ret
          have k2 := bchain hb1 hb1.size hb2
          have k3 := bchain k2 k2.size hb3
          have k4 := bchain k3 k3.size hb4
          first | exact ⟨rfl, bchain k4 k4.size hb5⟩ | exact ⟨by simp, bchain k4 k4.size hb5⟩

theorem law_self (p q : ByteArray) (w : World) : Calls Try.prog 5 #[.string p, .string q] w (Ret (.bool true) w) := by
  by_cases h : (256 : Int) < (p.size : Int) ∨ (256 : Int) < (q.size : Int)
  · exact law_self_long p q h w
  · exact law_self_short p q (by omega) (by omega) w
end Go.Proofs.Ytcmogmplfigikaa
