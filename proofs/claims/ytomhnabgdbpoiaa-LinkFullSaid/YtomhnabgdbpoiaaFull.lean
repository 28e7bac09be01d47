/- LinkFull: it answers true. No conditions. -/
import Derived.Test.YtomhnabgdbpoiaaAwake
namespace Go.Proofs.Ytomhnabgdbpoiaa
open Go.RowKit
attribute [local go_sem ↓] Go.wp_at_zero Go.wp_at_succ
set_option linter.unusedVariables false
set_option linter.unusedSimpArgs false

/-- One row of so many frames of a byte, the other one empty. -/
def oneRow (more : Bool) (k : Nat) : St := fun u => if u = more then (List.range (min k 64)).map (fun (i : Nat) => [(i : Int)]) else []
theorem oneRow_len (more : Bool) (k : Nat) : (oneRow more k more).length = min k 64 := by simp [oneRow]
theorem oneRow_other (more : Bool) (k : Nat) : (oneRow more k (!more)).length = 0 := by cases more <;> simp [oneRow]
theorem oneRow_ok (more : Bool) (k : Nat) : sendOk (oneRow more k more) [(k : Int)] = decide ((k : Int) < 64) := by
  unfold sendOk
  rw [oneRow_len]
  by_cases h : (k : Int) < 64 <;> simp [h] <;> omega
theorem oneRow_next (more : Bool) (k : Nat) : sendP (oneRow more k) more [(k : Int)] = oneRow more (k + 1) := by
  unfold sendP
  rw [oneRow_ok]
  by_cases h : (k : Int) < 64
  · rw [if_pos (by simpa using h)]
    funext u
    by_cases hu : u = more
    · subst hu
      rw [upd_same]
      simp only [oneRow, if_pos rfl]
      rw [show min (k + 1) 64 = min k 64 + 1 by omega, List.range_succ, List.map_append, show min k 64 = k by omega]
      rfl
    · rw [upd_other _ _ _ hu]; simp [oneRow, hu]
  · rw [if_neg (by simpa using h)]
    funext u
    simp only [oneRow]
    rw [show min (k + 1) 64 = min k 64 by omega]

/-- What holds at the loop's head. -/
def FullRel (w0 : World) (g : Nat) (more : Bool) (n : Int) (u : Value) (wr : World) : Prop :=
  ∃ (k : Nat) (F : Nat → Prop), u = .int .i64 k ∧ (k : Int) ≤ n ∧ LinkAt wr g (oneRow more k) F ∧ Since w0 wr F

theorem twice_is (g : Nat) (st : St) (F : Nat → Prop) (w : World) (hL : LinkAt w g st F) (j : Int) (jr : j < 9223372036854775808) (b : Bool) (h1 : twiceB st j = b) :
    Calls Try.prog 14 #[.pointer (some ⟨g, 0, none⟩), .int .i64 j] w (Turns (.bool b) w g F (twiceP st j)) := by
  subst h1; exact twice_any g st F w hL j jr
theorem oneRow_twice (more : Bool) (k : Nat) : twiceB (oneRow more k) 0 = decide (0 < (k : Int) ∧ (k : Int) < 64) := by
  have h1 := oneRow_len more k
  have h2 := oneRow_other more k
  unfold twiceB at_
  rw [if_neg (by omega)]
  cases more with
  | true =>
    replace h2 : (oneRow true k false).length = 0 := h2
    rw [h1, h2]
    by_cases h : (0 : Int) < ((min k 64 : Nat) : Int)
    · rw [if_pos h]
      show decide ((oneRow true k true).length < 64) = _
      rw [h1]
      by_cases hk : (k : Int) < 64 <;> simp [hk] <;> omega
    · rw [if_neg h, if_neg (by omega)]
      simp; omega
  | false =>
    replace h2 : (oneRow false k true).length = 0 := h2
    rw [h1, h2]
    rw [if_neg (by omega)]
    by_cases h : (0 : Int) < ((0 : Nat) : Int) + ((min k 64 : Nat) : Int)
    · rw [if_pos h]
      show decide ((oneRow false k false).length < 64) = _
      rw [h1]
      by_cases hk : (k : Int) < 64 <;> simp [hk] <;> omega
    · rw [if_neg h]
      simp; omega

set_option maxRecDepth 100000 in
theorem full_no (n : Int) (more : Bool) (w : World) (hn : n < 0 ∨ 70 < n) : Calls Try.prog 6 #[.int .i64 n, .bool more] w (Ret (.bool true) w) := by
  rcases hn with hn | hn
  · go_enter Try.func6, Try.ntmps6
    go_wp2_with (first | (go_at_call 8; refine (awake_ok _).mono ?_; rintro e w1 ⟨rfl, hb⟩))
    go_ret
    exact ⟨rfl, hb⟩
  · have h0 : ¬ n < 0 := by omega
    go_enter Try.func6, Try.ntmps6
    go_wp2_with (first | (go_at_call 8; refine (awake_ok _).mono ?_; rintro e w1 ⟨rfl, hb⟩))
    go_ret
    exact ⟨rfl, hb⟩

set_option maxRecDepth 100000 in
theorem full_yes (n : Int) (more : Bool) (w : World) (h0 : 0 ≤ n) (h70 : n ≤ 70) : Calls Try.prog 6 #[.int .i64 n, .bool more] w (Ret (.bool true) w) := by
  have kc := fun (w : World) (C : Array Value) (n c g : Nat) (hg : g = w.heap.size) => Joins.run_convert_bytes_const_at (P := Try.prog) w 30 5 C n c g hg Try.underlying30 Try.underlying5
  go_enter Try.func6, Try.ntmps6
  go_wp2_with (first | (go_at_call 8; refine (awake_ok _).mono ?_; rintro e w1 ⟨rfl, hb⟩))
  go_loopw [7] (fun u wr => FullRel w1 w1.heap.size more n u wr) (fun u _ => (n - intOf u).toNat)
  case atStart => exact ⟨0, fun k => k = w1.heap.size, rfl, by omega, by
    have : oneRow more 0 = (fun _ => []) := by funext u; simp [oneRow]
    rw [this]; exact link_made w1, Since.made _ _⟩
  case round =>
    obtain ⟨k, F, rfl, hk, hL, hS⟩ := hrel
    by_cases hlt : (k : Int) < n
    · by_cases h64 : (k : Int) < 64
      all_goals
        have hok := oneRow_ok more k
        first | rw [decide_eq_true h64] at hok | rw [decide_eq_false h64] at hok
        have Hok := Lib.hid hok
        clear hok
        go_wp2_with (first | (go_at_call 9; refine Calls.mono (send_is w1.heap.size (oneRow more k) F more _ [(k : Int)] _ (hL.alloc _) (bytes_lit _ _ _ _ _ _ rfl) _ (oneRow more (k + 1)) Hok.out (oneRow_next more k)) ?_; rintro e w2 ⟨rfl, F2, h2, U2, G2⟩))
        go_roundw
        case rel => exact ⟨k + 1, F2, by go_num, by omega, h2, (hS.alloc _).step U2 G2⟩
        case measure => simp [intOf]; omega
    · obtain rfl : n = k := by omega
      have k1 : k ≤ 70 := by omega
      have hl1 := oneRow_len more k
      have hl2 : ((oneRow more k (!more)).length : Int) = 0 := by rw [oneRow_other]; rfl
      have htw := oneRow_twice more k
      have hc : k = 0 ∨ (0 < k ∧ k < 64) ∨ 64 ≤ k := by omega
      rcases hc with rfl | ⟨hc1, hc2⟩ | hc
      · replace hl1 : ((oneRow more 0 more).length : Int) = 0 := by rw [hl1]; rfl
        replace htw : twiceB (oneRow more 0) 0 = false := by rw [htw]; rfl
        have Hl1 := Lib.hid hl1
        have Hl2 := Lib.hid hl2
        have Htw := Lib.hid htw
        clear hl1 hl2 htw
        go_wp2_with (first
          | (go_at_call 11; have hx := h3; refine Calls.mono (len_is w1.heap.size (fun _ => []) F3 more _ h3 0 rfl) ?_; rintro e w5 ⟨rfl, rfl⟩)
          | (go_at_call 11; have hx := m1; refine Calls.mono (len_is w1.heap.size (oneRow more 0) F (!more) _ hL 0 Hl2.out) ?_; rintro e w5 ⟨rfl, rfl⟩)
          | (go_at_call 11; refine Calls.mono (len_is w1.heap.size (oneRow more 0) F more _ hL _ Hl1.out) ?_; rintro e w5 ⟨rfl, rfl⟩; have m1 : True ∨ True := .inl trivial)
          | (go_at_call 14; refine Calls.mono (twice_is w1.heap.size (oneRow more 0) F _ hL 0 (by omega) false Htw.out) ?_; rintro e w2 ⟨rfl, F2, h2, U2, G2⟩)
          | (go_at_call 16; refine Calls.mono (clear_any w1.heap.size _ F2 _ h2) ?_; rintro e w3 ⟨rfl, F3, h3, U3, G3⟩)
          | (go_at_call 9; refine Calls.mono (send_is w1.heap.size (fun _ => []) F3 more _ [97] _ (h3.alloc _) (bytes_lit _ _ _ _ _ _ rfl) true _ (by rfl) rfl) ?_; rintro e w4 ⟨rfl, F4, h4, U4, G4⟩))
        all_goals
          go_ret
          exact ⟨rfl, hb.trans (((((hS.step U2 G2).step U3 G3).alloc _).step U4 G4).below.mono hb.size)⟩
      · replace hl1 : ((oneRow more k more).length : Int) = k := by rw [hl1]; omega
        replace htw : twiceB (oneRow more k) 0 = true := by rw [htw]; simp; omega
        have x1 : (k : Int) < 64 := by omega
        have x2 : 0 < (k : Int) := by omega
        have Hl1 := Lib.hid hl1
        have Hl2 := Lib.hid hl2
        have Htw := Lib.hid htw
        clear hl1 hl2 htw
        go_wp2_with (first
          | (go_at_call 11; have hx := h3; refine Calls.mono (len_is w1.heap.size (fun _ => []) F3 more _ h3 0 rfl) ?_; rintro e w5 ⟨rfl, rfl⟩)
          | (go_at_call 11; have hx := m1; refine Calls.mono (len_is w1.heap.size (oneRow more k) F (!more) _ hL 0 Hl2.out) ?_; rintro e w5 ⟨rfl, rfl⟩)
          | (go_at_call 11; refine Calls.mono (len_is w1.heap.size (oneRow more k) F more _ hL _ Hl1.out) ?_; rintro e w5 ⟨rfl, rfl⟩; have m1 : True ∨ True := .inl trivial)
          | (go_at_call 14; refine Calls.mono (twice_is w1.heap.size (oneRow more k) F _ hL 0 (by omega) true Htw.out) ?_; rintro e w2 ⟨rfl, F2, h2, U2, G2⟩)
          | (go_at_call 16; refine Calls.mono (clear_any w1.heap.size _ F2 _ h2) ?_; rintro e w3 ⟨rfl, F3, h3, U3, G3⟩)
          | (go_at_call 9; refine Calls.mono (send_is w1.heap.size (fun _ => []) F3 more _ [97] _ (h3.alloc _) (bytes_lit _ _ _ _ _ _ rfl) true _ (by rfl) rfl) ?_; rintro e w4 ⟨rfl, F4, h4, U4, G4⟩))
        all_goals
          go_ret
          exact ⟨rfl, hb.trans (((((hS.step U2 G2).step U3 G3).alloc _).step U4 G4).below.mono hb.size)⟩
      · replace hl1 : ((oneRow more k more).length : Int) = 64 := by rw [hl1]; omega
        replace htw : twiceB (oneRow more k) 0 = false := by rw [htw]; simp; omega
        have x1 : decide ((k : Int) < 64) = false := by simp; omega
        have x3 : (64 : Int) ≤ (k : Int) := by omega
        have x2 : 0 < (k : Int) := by omega
        have Hl1 := Lib.hid hl1
        have Hl2 := Lib.hid hl2
        have Htw := Lib.hid htw
        clear hl1 hl2 htw
        go_wp2_with (first
          | (go_at_call 11; have hx := h3; refine Calls.mono (len_is w1.heap.size (fun _ => []) F3 more _ h3 0 rfl) ?_; rintro e w5 ⟨rfl, rfl⟩)
          | (go_at_call 11; have hx := m1; refine Calls.mono (len_is w1.heap.size (oneRow more k) F (!more) _ hL 0 Hl2.out) ?_; rintro e w5 ⟨rfl, rfl⟩)
          | (go_at_call 11; refine Calls.mono (len_is w1.heap.size (oneRow more k) F more _ hL _ Hl1.out) ?_; rintro e w5 ⟨rfl, rfl⟩; have m1 : True ∨ True := .inl trivial)
          | (go_at_call 14; refine Calls.mono (twice_is w1.heap.size (oneRow more k) F _ hL 0 (by omega) false Htw.out) ?_; rintro e w2 ⟨rfl, F2, h2, U2, G2⟩)
          | (go_at_call 16; refine Calls.mono (clear_any w1.heap.size _ F2 _ h2) ?_; rintro e w3 ⟨rfl, F3, h3, U3, G3⟩)
          | (go_at_call 9; refine Calls.mono (send_is w1.heap.size (fun _ => []) F3 more _ [97] _ (h3.alloc _) (bytes_lit _ _ _ _ _ _ rfl) true _ (by rfl) rfl) ?_; rintro e w4 ⟨rfl, F4, h4, U4, G4⟩))
        all_goals
          go_ret
          exact ⟨rfl, hb.trans (((((hS.step U2 G2).step U3 G3).alloc _).step U4 G4).below.mono hb.size)⟩
theorem full_any (n : Int) (more : Bool) (w : World) : Calls Try.prog 6 #[.int .i64 n, .bool more] w (Ret (.bool true) w) := by
  by_cases h : n < 0 ∨ 70 < n
  · exact full_no n more w h
  · exact full_yes n more w (by omega) (by omega)
end Go.Proofs.Ytomhnabgdbpoiaa
