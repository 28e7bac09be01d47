/- ArqAnew: it answers true. Conditions: its numbers are numbers. -/
import Derived.Test.YtocfklnoklmocaaAwake
namespace Go.Proofs.Ytocfklnoklmocaa
open Go.RowKit
set_option linter.unusedVariables false
set_option linter.unusedSimpArgs false

def one (x c : Int) : Int → Option Int := fun y => if y = x then some c else none
theorem one_upd (x c d : Int) : upd (one x c) x d = one x d := by
  funext y
  unfold upd one
  split <;> rfl
theorem none_upd (x d : Int) : upd (fun _ => none) x d = one x d := by
  funext y
  unfold upd one
  rfl
theorem one_del (x c : Int) : del (one x c) x = fun _ => none := by
  funext y
  unfold del one
  split <;> rfl
theorem one_tick (x c e : Int) : tickF e (one x c) = one x (if c = 1 then e else c - 1) := by
  funext y
  unfold tickF one
  split <;> rfl
theorem none_tick (e : Int) : tickF e (fun _ => none) = fun _ => none := rfl
theorem one_fine {x c e : Int} (h1 : 1 ≤ e) (h2 : e ≤ 1000) (h3 : 1 ≤ c) (h4 : c ≤ e) : Fine e (one x c) := ⟨h1, h2, fun y d hd => by
  unfold one at hd
  split at hd
  · cases hd; exact ⟨h3, h4⟩
  · cases hd⟩
theorem none_fine {e : Int} (h1 : 1 ≤ e) (h2 : e ≤ 1000) : Fine e (fun _ => none) := ⟨h1, h2, fun y d hd => by cases hd⟩
theorem one_still {x c : Int} {ks : List Int} (hc : c ≠ 1) (h : Keys (one x c) (fun c => c == 1) ks) : ks = [] :=
  h.same List.Pairwise.nil (fun y => by
    constructor
    · intro h; simp at h
    · rintro ⟨d, h1, h2⟩
      unfold one at h1
      split at h1
      · cases h1; simp at h2; exact absurd h2 hc
      · cases h1)
theorem one_goes {x : Int} {ks : List Int} (h : Keys (one x 1) (fun c => c == 1) ks) : ks = [x] :=
  h.same (by simp) (fun y => by
    constructor
    · intro h
      obtain rfl : y = x := by simpa using h
      exact ⟨1, by simp [one], rfl⟩
    · rintro ⟨d, h1, h2⟩
      unfold one at h1
      by_cases hx : y = x
      · simp [hx]
      · simp [hx] at h1)
theorem none_keys {p : Int → Bool} {ks : List Int} (h : Keys (fun _ => none) p ks) : ks = [] :=
  h.same List.Pairwise.nil (fun y => by
    constructor
    · intro h; simp at h
    · rintro ⟨d, h1, h2⟩; cases h1)

set_option maxRecDepth 100000 in
theorem anew_early (e a x : Int) (w : World) (h : (e < 1 ∨ 1000 < e) ∨ a < 0 ∨ 1000 < a) : Calls Try.prog 7 #[.int .i64 e, .int .i64 a, .int .u64 x] w (Ret (.bool true) w) := by
  have A0 := awake_any w
  by_cases he : e < 1 ∨ 1000 < e
  · have N := fun W => new_bad e he W
    clear h he
    go_enter Try.func7, Try.ntmps7
    go_wp2_with (first
      | (go_at_call 8; refine A0.mono ?_; rintro e w1 ⟨rfl, hb1⟩)
      | (go_at_call 11; refine (N _).mono ?_; rintro e w2 ⟨rfl, rfl⟩))
    go_ret
    exact ⟨rfl, hb1⟩
  · have N := fun W => new_ok e (by omega) (by omega) W
    by_cases ha : a < 0
    · clear h he
      go_enter Try.func7, Try.ntmps7
      go_wp2_with (first
        | (go_at_call 8; refine A0.mono ?_; rintro e w1 ⟨rfl, hb1⟩)
        | (go_at_call 11; refine (N _).mono ?_; rintro e w2 ⟨b, B, rfl, _, _, _, hb2⟩))
      go_ret
      exact ⟨rfl, bchain hb1 hb1.size hb2⟩
    · have ha' : 1000 < a := by omega
      have ha0 : 0 ≤ a := by omega
      clear h he ha
      go_enter Try.func7, Try.ntmps7
      go_wp2_with (first
        | (go_at_call 8; refine A0.mono ?_; rintro e w1 ⟨rfl, hb1⟩)
        | (go_at_call 11; refine (N _).mono ?_; rintro e w2 ⟨b, B, rfl, _, _, _, hb2⟩))
      go_ret
      exact ⟨rfl, bchain hb1 hb1.size hb2⟩

theorem upto_low {w w1 w2 : World} {B : Nat} (h : Below w.heap.size w w1) (hu : Upto (fun k => k = B) w1 w2) (hB : w.heap.size ≤ B) : Below w.heap.size w w2 :=
  h.trans (hu.toBelow h.size (fun k hk => by rw [hk]; exact hB))
def AnewRel (w : World) (b B : Nat) (e x : Int) (c : Int) (wr : World) : Prop := TimAt wr b B 1 e (one x c) ∧ Below w.heap.size w wr

set_option maxRecDepth 100000 in
set_option maxHeartbeats 8000000 in
theorem anew_late (e a : Nat) (x : Int) (w : World) (hx : U64 x) (h1 : 1 ≤ e) (h2 : e ≤ 1000) (ha : a ≤ 1000) : Calls Try.prog 7 #[.int .i64 (e : Int), .int .i64 (a : Int), .int .u64 x] w (Ret (.bool true) w) := by
  have A0 := awake_any w
  have N := fun W => new_ok e (by omega) (by omega) W
  have hewf : (Lit.int .i64 (e : Int)).wf = true := wf_small (by omega) (by omega)
  have S0 := fun b B W h => set_any b B 0 e x (fun _ => none) W hx hewf (by omega) h
  have S1 := fun b B c W h => set_any b B 1 e x (one x c) W hx hewf (by omega) h
  rw [none_upd] at S0
  simp only [one_upd] at S1
  have S1' : ∀ b B c W, TimAt W b B 1 e (one x c) → Calls Try.prog 13 #[.pointer (some ⟨b, 0, none⟩), .int .u64 x] W (fun en w' => en = .returned (.tuple #[]) ∧ TimAt w' b B 1 e (one x e) ∧ Upto (fun k => k = B) W w') := fun b B c W h => by
    have := S1 b B c W h
    have hx1 : (one x c x).isSome = true := by simp [one]
    simpa [hx1] using this
  have T := fun b B (c : Int) W (hc1 : 1 ≤ c) (hc2 : c ≤ e) h => tick_any b B 1 e (one x c) W (by omega) (one_fine (by omega) (by omega) hc1 hc2) h
  have T0 := fun b B W h => tick_any b B 1 e (fun _ => none) W (by omega) (none_fine (by omega) (by omega)) h
  have P1 : ∀ b B (c : Int) W, TimAt W b B 1 e (one x c) → Calls Try.prog 15 #[.pointer (some ⟨b, 0, none⟩), .int .u64 x] W (fun en w' => en = .returned (.bool true) ∧ TimAt w' b B 1 e (fun _ => none) ∧ Upto (fun k => k = B) W w') := fun b B c W h =>
    (stop_any b B 1 e x (one x c) W hx h).mono (fun en w' ⟨h1, h2, h3⟩ => ⟨by rw [h1]; simp [one], by rw [one_del] at h2; exact h2, h3⟩)
  have P0 : ∀ b B W, TimAt W b B 1 e (fun _ => none) → Calls Try.prog 15 #[.pointer (some ⟨b, 0, none⟩), .int .u64 x] W (fun en w' => en = .returned (.bool false) ∧ TimAt w' b B 1 e (fun _ => none) ∧ Upto (fun k => k = B) W w') := fun b B W h =>
    (stop_any b B 1 e x (fun _ => none) W hx h).mono (fun en w' ⟨h1, h2, h3⟩ => ⟨h1, by have h0 : del (fun _ => none) x = fun _ => none := (by funext y; unfold del; split <;> rfl); rw [h0] at h2; exact h2, h3⟩)
  have I0 := fun b B W h => ids_any b B 1 e (fun _ => none) W (by omega) h
  obtain ⟨r, hr⟩ : ∃ r, a % e = r := ⟨_, rfl⟩
  have hre : r < e := by rw [← hr]; exact Nat.mod_lt _ (by omega)
  have hrem : (a : Int).tmod (e : Int) = (r : Int) := by rw [← hr]; rfl
  have hS0 := Lib.hid S0
  have hS1 := Lib.hid S1'
  have hT := Lib.hid T
  have hT0 := Lib.hid T0
  have hP1 := Lib.hid P1
  have hP0 := Lib.hid P0
  have hI0 := Lib.hid I0
  have e1 : (1 : Int) ≤ e := by omega
  have e2 : (e : Int) ≤ 1000 := by omega
  have a1 : (0 : Int) ≤ a := by omega
  have a2 : (a : Int) ≤ 1000 := by omega
  have en0 : ((e : Int) == 0) = false := by simp; omega
  clear hx hewf S0 S1 S1' T T0 P1 P0 I0 hr
  go_enter Try.func7, Try.ntmps7
  go_wp2_with (first
    | (go_at_call 8; refine A0.mono ?_; rintro e w1 ⟨rfl, hb1⟩)
    | (go_at_call 11; refine (N _).mono ?_; rintro e w2 ⟨b, B, rfl, hb0, hB0, T2, hb2⟩)
    | (go_at_call 13; refine (hS0.out b B _ T2).mono ?_; rintro e w3 ⟨rfl, T3, u3⟩))
  have hBw : w.heap.size ≤ B := Nat.le_trans hb1.size hB0
  have k3 := upto_low (bchain hb1 hb1.size hb2) u3 hBw
  have HT3 := Lib.hid (show TimAt w3 b B 1 e (one x e) from T3)
  have Hk3 := Lib.hid k3
  clear T2 hb2 T3 u3 k3
  go_loopw [10] (fun iv wr => ∃ j : Nat, j ≤ r ∧ iv = .int .i64 j ∧ AnewRel w b B e x ((e : Int) - j) wr) (fun iv _ => r - (intOf iv).toNat)
  case atStart => exact ⟨0, Nat.zero_le _, rfl, by simpa using HT3.out, Hk3.out⟩
  case round =>
    obtain ⟨j, hj, rfl, hTj, hkj⟩ := hrel
    have HTj := Lib.hid hTj
    have Hkj := Lib.hid hkj
    clear hTj hkj
    by_cases hlt : j < r
    · have hlt' : (j : Int) < r := by omega
      have TT := hT.out b B ((e : Int) - j) wr (by omega) (by omega) HTj.out
      have HTT := Lib.hid TT
      clear TT
      go_wp2_with (go_at_call 18; (with_reducible refine HTT.out.mono ?_); rintro e_ w4 ⟨A, c, ks, rfl, _, hk, _, _, T4, u4⟩; obtain rfl := one_still (by omega) hk)
      go_roundw
      case rel => exact ⟨j + 1, by omega, by go_num, (by rw [one_tick, if_neg (by omega)] at T4; rw [show (e : Int) - ((j + 1 : Nat) : Int) = (e : Int) - j - 1 by omega]; exact T4), upto_low Hkj.out u4 hBw⟩
      case measure => (simp [intOf] <;> omega)
    · obtain rfl : r = j := by omega
      go_wp2_with (go_at_call 13; (with_reducible refine (hS1.out b B _ _ HTj.out).mono ?_); rintro e_ w4 ⟨rfl, T4, u4⟩)
      have HT4 := Lib.hid T4
      have Hk4 := Lib.hid (upto_low Hkj.out u4 hBw)
      clear T4 u4 HTj Hkj
      go_loopw [11] (fun iv wr => ∃ j : Nat, 1 ≤ j ∧ j ≤ e ∧ iv = .int .i64 j ∧ AnewRel w b B e x ((e : Int) - ((j : Int) - 1)) wr) (fun iv _ => e - (intOf iv).toNat)
      case atStart => exact ⟨1, by omega, by omega, rfl, by simpa using HT4.out, Hk4.out⟩
      case round =>
        obtain ⟨j, hj1, hj, rfl, hTj, hkj⟩ := hrel
        have HTj := Lib.hid hTj
        have Hkj := Lib.hid hkj
        clear hTj hkj
        by_cases hlt : j < e
        · have hlt' : (j : Int) < e := by omega
          have TT := hT.out b B ((e : Int) - ((j : Int) - 1)) wr (by omega) (by omega) HTj.out
          have HTT := Lib.hid TT
          clear TT
          go_wp2_with (go_at_call 18; (with_reducible refine HTT.out.mono ?_); rintro e_ w5 ⟨A, c, ks, rfl, _, hk, _, _, T5, u5⟩; obtain rfl := one_still (by omega) hk)
          go_roundw
          case rel => exact ⟨j + 1, by omega, by omega, by go_num, (by rw [one_tick, if_neg (by omega)] at T5; rw [show (e : Int) - (((j + 1 : Nat) : Int) - 1) = (e : Int) - ((j : Int) - 1) - 1 by omega]; exact T5), upto_low Hkj.out u5 hBw⟩
          case measure => (simp [intOf] <;> omega)
        · obtain rfl : e = j := by omega
          have hTe := HTj.out
          rw [show (e : Int) - ((e : Int) - 1) = 1 by omega] at hTe
          have TT := hT.out b B 1 wr (by omega) (by omega) hTe
          have HTT := Lib.hid TT
          clear TT hTe
          go_wp2_with (first
            | (go_at_call 18; (with_reducible refine HTT.out.mono ?_); rintro e_ w5 ⟨A, c, ks, rfl, hn, hk, _, _, T5, u5⟩; obtain rfl := one_goes hk; rw [one_tick, if_pos rfl] at T5; obtain ⟨_, _, e4, h4⟩ := hn; injection e4 with e4a e4b e4c; subst e4a; obtain ⟨g4, o4, rfl, hc4⟩ := h4 (by simp); have hx4 := hc4 0 x rfl; rw [Nat.add_zero] at hx4; have k5 := upto_low Hkj.out u5 hBw)
            | (go_at_call 15; (with_reducible refine (hP1.out b B _ _ T5).mono ?_); rintro e_ w6 ⟨rfl, T6, u6⟩; have k6 := upto_low k5 u6 hBw)
            | (go_at_call 15; (with_reducible refine (hP0.out b B _ T6).mono ?_); rintro e_ w7 ⟨rfl, T7, u7⟩; have k7 := upto_low k6 u7 hBw))
          have HT7 := Lib.hid T7
          have Hk7 := Lib.hid k7
          clear T5 T6 T7 u5 u6 u7 k5 k6 k7 hk HTj Hkj
          go_loopw [13] (fun iv wr => ∃ j : Nat, j ≤ 3 ∧ iv = .int .i64 j ∧ TimAt wr b B 1 e (fun _ => none) ∧ Below w.heap.size w wr) (fun iv _ => 3 - (intOf iv).toNat)
          case atStart => exact ⟨0, by omega, rfl, HT7.out, Hk7.out⟩
          case round =>
            obtain ⟨j, hj, rfl, hTj, hkj⟩ := hrel
            have HTj := Lib.hid hTj
            have Hkj := Lib.hid hkj
            clear hTj hkj
            by_cases hlt : j < 3
            · have hlt' : (j : Int) < 3 := by omega
              have TT := hT0.out b B wr HTj.out
              have HTT := Lib.hid TT
              clear TT
              go_wp2_with (go_at_call 18; (with_reducible refine HTT.out.mono ?_); rintro e_ w8 ⟨A8, c8, ks, rfl, _, hk, _, _, T8, u8⟩; obtain rfl := none_keys hk)
              go_roundw
              case rel => exact ⟨j + 1, by omega, by go_num, (by rw [none_tick] at T8; exact T8), upto_low Hkj.out u8 hBw⟩
              case measure => (simp [intOf] <;> omega)
            · obtain rfl : j = 3 := by omega
              have II := hI0.out b B wr HTj.out
              have HII := Lib.hid II
              clear II
              go_wp2_with (go_at_call 20; (with_reducible refine HII.out.mono ?_); rintro e_ w9 ⟨A9, c9, ks, rfl, _, hk, _, _, hb9⟩; obtain rfl := none_keys hk)
              go_ret
              exact ⟨by simp, bchain Hkj.out Hkj.out.size hb9⟩
theorem law_anew (e a x : Int) (w : World) (hx : U64 x) : Calls Try.prog 7 #[.int .i64 e, .int .i64 a, .int .u64 x] w (Ret (.bool true) w) := by
  by_cases h : (e < 1 ∨ 1000 < e) ∨ a < 0 ∨ 1000 < a
  · exact anew_early e a x w h
  · simp only [not_or] at h
    obtain ⟨m, rfl⟩ : ∃ m : Nat, e = m := ⟨e.toNat, by omega⟩
    obtain ⟨n, rfl⟩ : ∃ n : Nat, a = n := ⟨a.toNat, by omega⟩
    exact anew_late m n x w hx (by omega) (by omega) (by omega)
end Go.Proofs.Ytocfklnoklmocaa
