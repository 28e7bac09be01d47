/- ArqGoes: it answers true. Conditions: the calls can be read, its numbers are numbers. -/
import Derived.Test.YtocfklnoklmocaaLaw3
import Derived.Test.YtocfklnoklmocaaOpen
import Derived.BigQuiet
namespace Go.Proofs.Ytocfklnoklmocaa
open Go.RowKit
set_option linter.unusedVariables false
set_option linter.unusedSimpArgs false

theorem mod_step {e k : Nat} (he : 1 ≤ e) : ((k + 1) % e = 0 ∧ k % e = e - 1) ∨ ((k + 1) % e = k % e + 1 ∧ k % e < e - 1) := by
  have hr := Nat.mod_lt k (show 0 < e by omega)
  have hd := Nat.div_add_mod k e
  by_cases h : k % e = e - 1
  · left
    refine ⟨?_, h⟩
    have e1 : k + 1 = e * (k / e + 1) := by rw [Nat.mul_add]; omega
    rw [e1]; exact Nat.mul_mod_right _ _
  · right
    refine ⟨?_, by omega⟩
    have e1 : k + 1 = e * (k / e) + (k % e + 1) := by omega
    rw [e1, Nat.mul_add_mod, Nat.mod_eq_of_lt (by omega)]
theorem take_snoc' {L : List Int} {k : Nat} {y : Int} (h : L[k]? = some y) : L.take (k + 1) = L.take k ++ [y] := by rw [List.take_add_one, h]; rfl
theorem below_drewN' {B : Nat} {w w' : World} (h : Below B w w') (d : Nat) : Below B w (w'.drewN d) := ⟨h.os, h.tape, h.output, h.size, h.block⟩
/-- What timer 77 has left behind k ticks. -/
def leftAt (e k : Nat) : Int := (e : Int) - (k % e : Nat)
theorem left_bounds {e k : Nat} (he : 1 ≤ e) : 1 ≤ leftAt e k ∧ leftAt e k ≤ e := by
  have hr := Nat.mod_lt k (show 0 < e by omega)
  unfold leftAt
  omega
theorem left_one {e k : Nat} (he : 1 ≤ e) : leftAt e k = 1 ↔ (k + 1) % e = 0 := by
  have hr := Nat.mod_lt k (show 0 < e by omega)
  unfold leftAt
  rcases mod_step (k := k) he with ⟨h1, h2⟩ | ⟨h1, h2⟩ <;> omega
theorem left_tick {e k : Nat} (he : 1 ≤ e) : (if leftAt e k = 1 then (e : Int) else leftAt e k - 1) = leftAt e (k + 1) := by
  have hr := Nat.mod_lt k (show 0 < e by omega)
  rcases mod_step (k := k) he with ⟨h1, h2⟩ | ⟨h1, h2⟩
  · rw [if_pos (by unfold leftAt; omega)]
    unfold leftAt; omega
  · rw [if_neg (by unfold leftAt; omega)]
    unfold leftAt; omega

theorem ring_late (e : Int) (tk : Int) (lv : Value) (w : World) (h : e < 1 ∨ 1000 < e) : Calls Try.prog 6 #[.int .i64 e, .int .i64 tk, lv] w (Ret (.bool true) w) := by
  have A0 := awake_any w
  have N := fun W => new_bad e h W
  by_cases h1 : e < 1
  · clear h
    go_enter Try.func6, Try.ntmps6
    go_wp2_with (first
      | (go_at_call 8; refine A0.mono ?_; rintro e w1 ⟨rfl, hb1⟩)
      | (go_at_call 11; refine (N _).mono ?_; rintro e w2 ⟨rfl, rfl⟩))
    go_ret
    exact ⟨rfl, hb1⟩
  · have h2 : 1000 < e := by omega
    have h3 : 1 ≤ e := by omega
    clear h h1
    go_enter Try.func6, Try.ntmps6
    go_wp2_with (first
      | (go_at_call 8; refine A0.mono ?_; rintro e w1 ⟨rfl, hb1⟩)
      | (go_at_call 11; refine (N _).mono ?_; rintro e w2 ⟨rfl, rfl⟩))
    go_ret
    exact ⟨rfl, hb1⟩

def GoesIn (w : World) (b B e k0 : Nat) (kv : Value) (i : Nat) (wr : World) : Prop :=
  ∃ (k K : Nat) (f : Int → Option Int), kv = .int .i64 k ∧ k ≤ 300 + k0 ∧ K ≤ 1 + k ∧ TimAt wr b B K e f ∧ Fine e f ∧ f 77 = some (leftAt e i) ∧ Below w.heap.size w wr

set_option maxRecDepth 100000 in
set_option maxHeartbeats 8000000 in
theorem goes_late (e : Nat) (tk : Int) (lv : Value) (L : List Opn) (w : World) (hL : OpsAt w lv L) (h1 : 1 ≤ e) (h2 : e ≤ 1000) : Calls Try.prog 6 #[.int .i64 (e : Int), .int .i64 tk, lv] w (Ret (.bool true) w) := by
  have A0 := awake_any w
  have N := fun W => new_ok e (by omega) (by omega) W
  have hewf : (Lit.int .i64 (e : Int)).wf = true := wf_small (by omega) (by omega)
  have u77 : U64 77 := by unfold U64; decide
  have S0 := fun b B W h => set_any b B 0 e 77 (fun _ => none) W u77 hewf (by omega) h
  rw [none_upd] at S0
  have hS := Lib.hid (fun b B K x f W (hx : U64 x) (hK : K < 1000000) h => set_any b B K e x f W hx hewf hK h)
  have hP := Lib.hid (fun b B K x f W (hx : U64 x) h => stop_any b B K e x f W hx h)
  have hT := Lib.hid (fun b B K f W (hK : K ≤ 900000) hF h => tick_any b B K e f W hK hF h)
  have hS0 := Lib.hid S0
  obtain ⟨Al, cl, rfl, hlen, hcl⟩ := hL
  have Hcl := Lib.hid hcl
  obtain ⟨n, hn⟩ : ∃ n, L.length = n := ⟨_, rfl⟩
  rw [hn] at Hcl hlen ⊢
  have Hn := Lib.hid hn
  have e1 : (1 : Int) ≤ e := by omega
  have e2 : (e : Int) ≤ 1000 := by omega
  have en0 : ((e : Int) == 0) = false := by simp; omega
  clear hewf u77 S0 hcl hn
  go_enter Try.func6, Try.ntmps6
  go_wp2_with (first
    | (go_at_call 8; refine A0.mono ?_; rintro e w1 ⟨rfl, hb1⟩)
    | (go_at_call 11; refine (N _).mono ?_; rintro e w2 ⟨b, B, rfl, hb0, hB0, T2, hb2⟩)
    | (go_at_call 13; refine (hS0.out b B _ T2).mono ?_; rintro e w3 ⟨rfl, T3, u3⟩))
  have hBw : w.heap.size ≤ B := Nat.le_trans hb1.size hB0
  have k3 := upto_low (bchain hb1 hb1.size hb2) u3 hBw
  have HT3 := Lib.hid (show TimAt w3 b B 1 e (one 77 e) from T3)
  have Hk3 := Lib.hid k3
  clear T2 hb2 T3 u3 k3
  go_loopw [10, 11] (fun kv iv wr => ∃ i : Nat, i ≤ 300 ∧ iv = .int .i64 ((i : Int) + 1) ∧ GoesIn w b B e i kv i wr) (fun _ iv _ => 301 - (intOf iv).toNat)
  case atStart => exact ⟨0, by omega, rfl, 0, 1, one 77 e, rfl, by omega, by omega, HT3.out, one_fine (by omega) (by omega) (by omega) (by omega), by simp [one, leftAt], Hk3.out⟩
  case round =>
    obtain ⟨i, hi, rfl, k, K, f, rfl, hk, hK, hTj, hF, h77, hkj⟩ := hrel
    have HTj := Lib.hid hTj
    have Hkj := Lib.hid hkj
    have HF := Lib.hid hF
    have H77 := Lib.hid h77
    clear hTj hkj hF h77
    by_cases hgo : (i : Int) + 1 ≤ tk ∧ (i : Int) + 1 ≤ 300
    case neg =>
      by_cases hg1 : (i : Int) + 1 ≤ tk
      · have hg2 : (300 : Int) < (i : Int) + 1 := by omega
        clear hgo
        go_wp2
        go_ret
        exact ⟨rfl, Hkj.out⟩
      · have hg2 : tk < (i : Int) + 1 := by omega
        clear hgo hg1
        go_wp2
        go_ret
        exact ⟨rfl, Hkj.out⟩
    obtain ⟨hg1, hg2⟩ := hgo
    go_wp2
    go_loopw [10] (fun kv wr => GoesIn w b B e i kv i wr) (fun kv _ => n - (intOf kv).toNat)
    case atStart => exact ⟨k, K, f, rfl, hk, hK, HTj.out, HF.out, H77.out, Hkj.out⟩
    case round =>
      obtain ⟨k, K, f, rfl, hk, hK, hTj, hF, h77, hkj⟩ := hrel
      have HTj := Lib.hid hTj
      have Hkj := Lib.hid hkj
      have HF := Lib.hid hF
      have H77 := Lib.hid h77
      have HTT := Lib.hid (hT.out b B K f wr (by omega) hF hTj)
      clear hTj hkj hF h77
      by_cases hin : k < n ∧ k < 300
      case neg =>
        by_cases hkn : k < n
        · have hk1 : (k : Int) < n := by omega
          have hk2 : (300 : Int) ≤ k := by omega
          clear hin
          go_wp2_with (go_at_call 18; (with_reducible refine HTT.out.mono ?_); rintro e_ w5 ⟨A, c, ks, rfl, n5, hk5, _, hkK, T5, u5⟩)
          have hkw := upto_low Hkj.out u5 hBw
          have h77' : tickF e f 77 = some (leftAt e (i + 1)) := by unfold tickF; rw [H77.out]; exact congrArg some (left_tick h1)
          have hmem : decide (77 ∈ ks) = decide ((i + 1) % e = 0) := by
            have : 77 ∈ ks ↔ (i + 1) % e = 0 := by
              rw [hk5.2 77, H77.out]
              constructor
              · rintro ⟨d, hd, hd2⟩
                cases hd
                exact (left_one h1).1 (by simpa using hd2)
              · intro h
                exact ⟨leftAt e i, rfl, by simpa using (left_one (k := i) h1).2 h⟩
            simp [this]
          have HREL : Hid (GoesIn w b B e (i + 1) (.int .i64 ((k + 1 : Nat) : Int)) (i + 1) w5) := Lib.hid ⟨k + 1, K, tickF e f, rfl, by omega, by omega, T5, HF.out.tick, h77', hkw⟩
          have Hkw := Lib.hid hkw
          have Hmem := Lib.hid hmem
          have Hsort := Lib.hid hk5.1
          obtain ⟨m, hm⟩ : ∃ m, ks.length = m := ⟨_, rfl⟩
          rw [hm] at n5 hkK ⊢
          have hm7 : m ≤ 700 := by omega
          have Hm := Lib.hid hm
          have Hn5 := Lib.hid n5
          clear hkK T5 u5 hkw h77' hmem hm hk5 n5 HTT HTj Hkj HF H77
          go_loopw [13, 14] (fun tv jv wx => ∃ j : Nat, j ≤ m ∧ jv = .int .i64 j ∧ tv = .bool (decide (77 ∈ ks.take j)) ∧ Below w5.heap.size w5 wx) (fun _ jv _ => m - (intOf jv).toNat)
          case atStart => exact ⟨0, Nat.zero_le _, rfl, by simp, Below.refl _ _⟩
          case round =>
            obtain ⟨j, hj, rfl, rfl, hbx⟩ := hrel
            by_cases hjm : j < m
            · have hjm' : (j : Int) < m := by omega
              obtain ⟨y, hy⟩ : ∃ y, ks[j]? = some y := ⟨_, List.getElem?_eq_getElem (by rw [Hm.out]; exact hjm)⟩
              obtain ⟨_, _, e4, h4⟩ := Hn5.out
              injection e4 with e4a e4b e4c
              subst e4a
              obtain ⟨g4, o4, rfl, hc4⟩ := h4 (by rw [Hm.out]; omega)
              have hcy := keep_cell hbx (hc4 j y hy)
              have hts := take_snoc' hy
              have HBX := Lib.hid hbx
              have hcz : ∀ (z : Int), ks[j - 1]? = some z → w5.cell? ⟨g4, o4 + (j - 1), none⟩ = some (.int .u64 z) := fun z hz => hc4 (j - 1) z hz
              have Hcz := Lib.hid hcz
              have HT' : Hid (decide (77 ∈ ks.take (j + 1)) = (decide (77 ∈ ks.take j) || decide (y = 77))) := Lib.hid (by rw [hts]; simp [eq_comm])
              have Hy := Lib.hid hy
              obtain ⟨t, ht⟩ : ∃ t, decide (77 ∈ ks.take j) = t := ⟨_, rfl⟩
              rw [ht] at HT' ⊢
              clear hts hc4 h4 e4b e4c hcz hbx ht hy
              by_cases hj0 : j = 0
              · subst hj0
                rw [Nat.add_zero] at hcy
                by_cases hy7 : y = 77
                · subst hy7
                  cases t <;> (
                    go_wp2
                    go_quiet (fail)
                    go_wp2
                    go_roundw
                    case rel => exact ⟨0 + 1, by omega, by go_num, by rw [HT'.out]; rfl, below_drewN' HBX.out _⟩
                    case measure => (simp [intOf] <;> omega))
                · have hyE : (y == 77) = false := by simpa using hy7
                  have HT2 : Hid (decide (y = 77) = false) := Lib.hid (by simp [hy7])
                  clear hy7
                  cases t <;> (
                    go_wp2
                    go_quiet (fail)
                    go_wp2
                    go_roundw
                    case rel => exact ⟨0 + 1, by omega, by go_num, by rw [HT'.out, HT2.out]; rfl, below_drewN' HBX.out _⟩
                    case measure => (simp [intOf] <;> omega))
              · obtain ⟨j', hj'⟩ : ∃ j', j = j' + 1 := ⟨j - 1, by omega⟩
                obtain ⟨z, hz⟩ : ∃ z, ks[j']? = some z := ⟨_, List.getElem?_eq_getElem (by rw [Hm.out]; omega)⟩
                have hcz := keep_cell HBX.out (Hcz.out z (by rw [show j - 1 = j' by omega]; exact hz))
                rw [show j - 1 = j' by omega] at hcz
                have hzy : z < y := by
                  obtain ⟨a1, a2⟩ := List.getElem?_eq_some_iff.1 hz
                  obtain ⟨b1, b2⟩ := List.getElem?_eq_some_iff.1 Hy.out
                  have := (List.pairwise_iff_getElem.1 Hsort.out) j' j a1 b1 (by omega)
                  rw [a2, b2] at this; exact this
                have hjp0 : 0 < j := by omega
                have hjd : decide (0 < j) = true := by simp; omega
                have hjw : wrap64 ((j : Int) - 1) = (j' : Int) := by unfold wrap64; omega
                have hsub : (j : Int) - 1 = (j' : Int) := by omega
                have hjm2 : (j' : Int) < m := by omega
                have hjm4 : (0 : Int) ≤ (j' : Int) := by omega
                have hle : decide (y ≤ z) = false := by simp; omega
                clear hz hj0 hj'
                by_cases hy7 : y = 77
                · subst hy7
                  cases t <;> (
                    go_wp2
                    go_quiet (fail)
                    go_wp2
                    go_roundw
                    case rel => exact ⟨j + 1, by omega, by go_num, by rw [HT'.out]; rfl, below_drewN' HBX.out _⟩
                    case measure => (simp [intOf] <;> omega))
                · have hyE : (y == 77) = false := by simpa using hy7
                  have HT2 : Hid (decide (y = 77) = false) := Lib.hid (by simp [hy7])
                  clear hy7
                  cases t <;> (
                    go_wp2
                    go_quiet (fail)
                    go_wp2
                    go_roundw
                    case rel => exact ⟨j + 1, by omega, by go_num, by rw [HT'.out, HT2.out]; rfl, below_drewN' HBX.out _⟩
                    case measure => (simp [intOf] <;> omega))
            · obtain rfl : m = j := by omega
              have hall : ks.take m = ks := List.take_of_length_le (by rw [Hm.out]; exact Nat.le_refl _)
              rw [hall, Hmem.out]
              obtain ⟨q, hq⟩ : ∃ q, (i + 1) % e = q := ⟨_, rfl⟩
              have hrem : ((i : Int) + 1).tmod (e : Int) = (q : Int) := by rw [← hq]; rfl
              rw [hq]
              have hREL2 : Hid (GoesIn w b B e (i + 1) (.int .i64 ((k : Int) + 1)) (i + 1) wr) := Lib.hid (by
                obtain ⟨k2, K2, f2, a1, a2, a3, a4, a5, a6, a7⟩ := HREL.out
                exact ⟨k2, K2, f2, by rw [← a1]; go_num, a2, a3, a4.below hbx, a5, a6, bchain a7 a7.size hbx⟩)
              clear hall hq hbx HREL Hmem
              by_cases hq0 : q = 0
              · subst hq0
                have hqE : (((0 : Nat) : Int) == 0) = true := by simp
                go_wp2
                go_roundw
                case rel => exact ⟨i + 1, by omega, by go_num, by simpa using hREL2.out⟩
                case measure => (simp [intOf] <;> omega)
              · have hqE : ((q : Int) == 0) = false := by simp; omega
                have hqd : decide (q = 0) = false := by simp [hq0]
                rw [hqd]
                clear hq0
                go_wp2
                go_roundw
                case rel => exact ⟨i + 1, by omega, by go_num, by simpa using hREL2.out⟩
                case measure => (simp [intOf] <;> omega)
        · have hk1 : (n : Int) ≤ k := by omega
          clear hin hkn
          go_wp2_with (go_at_call 18; (with_reducible refine HTT.out.mono ?_); rintro e_ w5 ⟨A, c, ks, rfl, n5, hk5, _, hkK, T5, u5⟩)
          have hkw := upto_low Hkj.out u5 hBw
          have h77' : tickF e f 77 = some (leftAt e (i + 1)) := by unfold tickF; rw [H77.out]; exact congrArg some (left_tick h1)
          have hmem : decide (77 ∈ ks) = decide ((i + 1) % e = 0) := by
            have : 77 ∈ ks ↔ (i + 1) % e = 0 := by
              rw [hk5.2 77, H77.out]
              constructor
              · rintro ⟨d, hd, hd2⟩
                cases hd
                exact (left_one h1).1 (by simpa using hd2)
              · intro h
                exact ⟨leftAt e i, rfl, by simpa using (left_one (k := i) h1).2 h⟩
            simp [this]
          have HREL : Hid (GoesIn w b B e (i + 1) (.int .i64 ((k + 1 : Nat) : Int)) (i + 1) w5) := Lib.hid ⟨k + 1, K, tickF e f, rfl, by omega, by omega, T5, HF.out.tick, h77', hkw⟩
          have Hkw := Lib.hid hkw
          have Hmem := Lib.hid hmem
          have Hsort := Lib.hid hk5.1
          obtain ⟨m, hm⟩ : ∃ m, ks.length = m := ⟨_, rfl⟩
          rw [hm] at n5 hkK ⊢
          have hm7 : m ≤ 700 := by omega
          have Hm := Lib.hid hm
          have Hn5 := Lib.hid n5
          clear hkK T5 u5 hkw h77' hmem hm hk5 n5 HTT HTj Hkj HF H77
          go_loopw [13, 14] (fun tv jv wx => ∃ j : Nat, j ≤ m ∧ jv = .int .i64 j ∧ tv = .bool (decide (77 ∈ ks.take j)) ∧ Below w5.heap.size w5 wx) (fun _ jv _ => m - (intOf jv).toNat)
          case atStart => exact ⟨0, Nat.zero_le _, rfl, by simp, Below.refl _ _⟩
          case round =>
            obtain ⟨j, hj, rfl, rfl, hbx⟩ := hrel
            by_cases hjm : j < m
            · have hjm' : (j : Int) < m := by omega
              obtain ⟨y, hy⟩ : ∃ y, ks[j]? = some y := ⟨_, List.getElem?_eq_getElem (by rw [Hm.out]; exact hjm)⟩
              obtain ⟨_, _, e4, h4⟩ := Hn5.out
              injection e4 with e4a e4b e4c
              subst e4a
              obtain ⟨g4, o4, rfl, hc4⟩ := h4 (by rw [Hm.out]; omega)
              have hcy := keep_cell hbx (hc4 j y hy)
              have hts := take_snoc' hy
              have HBX := Lib.hid hbx
              have hcz : ∀ (z : Int), ks[j - 1]? = some z → w5.cell? ⟨g4, o4 + (j - 1), none⟩ = some (.int .u64 z) := fun z hz => hc4 (j - 1) z hz
              have Hcz := Lib.hid hcz
              have HT' : Hid (decide (77 ∈ ks.take (j + 1)) = (decide (77 ∈ ks.take j) || decide (y = 77))) := Lib.hid (by rw [hts]; simp [eq_comm])
              have Hy := Lib.hid hy
              obtain ⟨t, ht⟩ : ∃ t, decide (77 ∈ ks.take j) = t := ⟨_, rfl⟩
              rw [ht] at HT' ⊢
              clear hts hc4 h4 e4b e4c hcz hbx ht hy
              by_cases hj0 : j = 0
              · subst hj0
                rw [Nat.add_zero] at hcy
                by_cases hy7 : y = 77
                · subst hy7
                  cases t <;> (
                    go_wp2
                    go_quiet (fail)
                    go_wp2
                    go_roundw
                    case rel => exact ⟨0 + 1, by omega, by go_num, by rw [HT'.out]; rfl, below_drewN' HBX.out _⟩
                    case measure => (simp [intOf] <;> omega))
                · have hyE : (y == 77) = false := by simpa using hy7
                  have HT2 : Hid (decide (y = 77) = false) := Lib.hid (by simp [hy7])
                  clear hy7
                  cases t <;> (
                    go_wp2
                    go_quiet (fail)
                    go_wp2
                    go_roundw
                    case rel => exact ⟨0 + 1, by omega, by go_num, by rw [HT'.out, HT2.out]; rfl, below_drewN' HBX.out _⟩
                    case measure => (simp [intOf] <;> omega))
              · obtain ⟨j', hj'⟩ : ∃ j', j = j' + 1 := ⟨j - 1, by omega⟩
                obtain ⟨z, hz⟩ : ∃ z, ks[j']? = some z := ⟨_, List.getElem?_eq_getElem (by rw [Hm.out]; omega)⟩
                have hcz := keep_cell HBX.out (Hcz.out z (by rw [show j - 1 = j' by omega]; exact hz))
                rw [show j - 1 = j' by omega] at hcz
                have hzy : z < y := by
                  obtain ⟨a1, a2⟩ := List.getElem?_eq_some_iff.1 hz
                  obtain ⟨b1, b2⟩ := List.getElem?_eq_some_iff.1 Hy.out
                  have := (List.pairwise_iff_getElem.1 Hsort.out) j' j a1 b1 (by omega)
                  rw [a2, b2] at this; exact this
                have hjp0 : 0 < j := by omega
                have hjd : decide (0 < j) = true := by simp; omega
                have hjw : wrap64 ((j : Int) - 1) = (j' : Int) := by unfold wrap64; omega
                have hsub : (j : Int) - 1 = (j' : Int) := by omega
                have hjm2 : (j' : Int) < m := by omega
                have hjm4 : (0 : Int) ≤ (j' : Int) := by omega
                have hle : decide (y ≤ z) = false := by simp; omega
                clear hz hj0 hj'
                by_cases hy7 : y = 77
                · subst hy7
                  cases t <;> (
                    go_wp2
                    go_quiet (fail)
                    go_wp2
                    go_roundw
                    case rel => exact ⟨j + 1, by omega, by go_num, by rw [HT'.out]; rfl, below_drewN' HBX.out _⟩
                    case measure => (simp [intOf] <;> omega))
                · have hyE : (y == 77) = false := by simpa using hy7
                  have HT2 : Hid (decide (y = 77) = false) := Lib.hid (by simp [hy7])
                  clear hy7
                  cases t <;> (
                    go_wp2
                    go_quiet (fail)
                    go_wp2
                    go_roundw
                    case rel => exact ⟨j + 1, by omega, by go_num, by rw [HT'.out, HT2.out]; rfl, below_drewN' HBX.out _⟩
                    case measure => (simp [intOf] <;> omega))
            · obtain rfl : m = j := by omega
              have hall : ks.take m = ks := List.take_of_length_le (by rw [Hm.out]; exact Nat.le_refl _)
              rw [hall, Hmem.out]
              obtain ⟨q, hq⟩ : ∃ q, (i + 1) % e = q := ⟨_, rfl⟩
              have hrem : ((i : Int) + 1).tmod (e : Int) = (q : Int) := by rw [← hq]; rfl
              rw [hq]
              have hREL2 : Hid (GoesIn w b B e (i + 1) (.int .i64 ((k : Int) + 1)) (i + 1) wr) := Lib.hid (by
                obtain ⟨k2, K2, f2, a1, a2, a3, a4, a5, a6, a7⟩ := HREL.out
                exact ⟨k2, K2, f2, by rw [← a1]; go_num, a2, a3, a4.below hbx, a5, a6, bchain a7 a7.size hbx⟩)
              clear hall hq hbx HREL Hmem
              by_cases hq0 : q = 0
              · subst hq0
                have hqE : (((0 : Nat) : Int) == 0) = true := by simp
                go_wp2
                go_roundw
                case rel => exact ⟨i + 1, by omega, by go_num, by simpa using hREL2.out⟩
                case measure => (simp [intOf] <;> omega)
              · have hqE : ((q : Int) == 0) = false := by simp; omega
                have hqd : decide (q = 0) = false := by simp [hq0]
                rw [hqd]
                clear hq0
                go_wp2
                go_roundw
                case rel => exact ⟨i + 1, by omega, by go_num, by simpa using hREL2.out⟩
                case measure => (simp [intOf] <;> omega)
      obtain ⟨hin1, hin2⟩ := hin
      have hin1' : (k : Int) < n := by omega
      have hin2' : (k : Int) < 300 := by omega
      obtain ⟨p, hp⟩ : ∃ p, L[k]? = some p := ⟨_, List.getElem?_eq_getElem (by rw [Hn.out]; exact hin1)⟩
      obtain ⟨gl, ol, rfl, hcl⟩ := Hcl.out (by omega)
      obtain ⟨q0, q1, qU⟩ := hcl k p hp
      obtain ⟨pd, px⟩ := p
      simp only at q0 q1 qU
      have c0 : wr.cell? ⟨gl, ol + k * 2, none⟩ = some (.int .i64 pd) := keep_cell Hkj.out q0
      have c1 : wr.cell? ⟨gl, ol + k * 2 + 1, none⟩ = some (.int .u64 px) := keep_cell Hkj.out q1
      have QU := Lib.hid qU
      clear hcl q0 q1 qU hp
      by_cases hd3 : (3 : Int) ≤ pd
      · skip
        go_wp2_with (go_at_call 18; (with_reducible refine HTT.out.mono ?_); rintro e_ w5 ⟨A, c, ks, rfl, n5, hk5, _, hkK, T5, u5⟩)
        have hkw := upto_low Hkj.out u5 hBw
        have h77' : tickF e f 77 = some (leftAt e (i + 1)) := by unfold tickF; rw [H77.out]; exact congrArg some (left_tick h1)
        have hmem : decide (77 ∈ ks) = decide ((i + 1) % e = 0) := by
          have : 77 ∈ ks ↔ (i + 1) % e = 0 := by
            rw [hk5.2 77, H77.out]
            constructor
            · rintro ⟨d, hd, hd2⟩
              cases hd
              exact (left_one h1).1 (by simpa using hd2)
            · intro h
              exact ⟨leftAt e i, rfl, by simpa using (left_one (k := i) h1).2 h⟩
          simp [this]
        have HREL : Hid (GoesIn w b B e (i + 1) (.int .i64 ((k + 1 : Nat) : Int)) (i + 1) w5) := Lib.hid ⟨k + 1, K, tickF e f, rfl, by omega, by omega, T5, HF.out.tick, h77', hkw⟩
        have Hkw := Lib.hid hkw
        have Hmem := Lib.hid hmem
        have Hsort := Lib.hid hk5.1
        obtain ⟨m, hm⟩ : ∃ m, ks.length = m := ⟨_, rfl⟩
        rw [hm] at n5 hkK ⊢
        have hm7 : m ≤ 700 := by omega
        have Hm := Lib.hid hm
        have Hn5 := Lib.hid n5
        clear hkK T5 u5 hkw h77' hmem hm hk5 n5 HTT HTj Hkj HF H77
        go_loopw [13, 14] (fun tv jv wx => ∃ j : Nat, j ≤ m ∧ jv = .int .i64 j ∧ tv = .bool (decide (77 ∈ ks.take j)) ∧ Below w5.heap.size w5 wx) (fun _ jv _ => m - (intOf jv).toNat)
        case atStart => exact ⟨0, Nat.zero_le _, rfl, by simp, Below.refl _ _⟩
        case round =>
          obtain ⟨j, hj, rfl, rfl, hbx⟩ := hrel
          by_cases hjm : j < m
          · have hjm' : (j : Int) < m := by omega
            obtain ⟨y, hy⟩ : ∃ y, ks[j]? = some y := ⟨_, List.getElem?_eq_getElem (by rw [Hm.out]; exact hjm)⟩
            obtain ⟨_, _, e4, h4⟩ := Hn5.out
            injection e4 with e4a e4b e4c
            subst e4a
            obtain ⟨g4, o4, rfl, hc4⟩ := h4 (by rw [Hm.out]; omega)
            have hcy := keep_cell hbx (hc4 j y hy)
            have hts := take_snoc' hy
            have HBX := Lib.hid hbx
            have hcz : ∀ (z : Int), ks[j - 1]? = some z → w5.cell? ⟨g4, o4 + (j - 1), none⟩ = some (.int .u64 z) := fun z hz => hc4 (j - 1) z hz
            have Hcz := Lib.hid hcz
            have HT' : Hid (decide (77 ∈ ks.take (j + 1)) = (decide (77 ∈ ks.take j) || decide (y = 77))) := Lib.hid (by rw [hts]; simp [eq_comm])
            have Hy := Lib.hid hy
            obtain ⟨t, ht⟩ : ∃ t, decide (77 ∈ ks.take j) = t := ⟨_, rfl⟩
            rw [ht] at HT' ⊢
            clear hts hc4 h4 e4b e4c hcz hbx ht hy
            by_cases hj0 : j = 0
            · subst hj0
              rw [Nat.add_zero] at hcy
              by_cases hy7 : y = 77
              · subst hy7
                cases t <;> (
                  go_wp2
                  go_quiet (fail)
                  go_wp2
                  go_roundw
                  case rel => exact ⟨0 + 1, by omega, by go_num, by rw [HT'.out]; rfl, below_drewN' HBX.out _⟩
                  case measure => (simp [intOf] <;> omega))
              · have hyE : (y == 77) = false := by simpa using hy7
                have HT2 : Hid (decide (y = 77) = false) := Lib.hid (by simp [hy7])
                clear hy7
                cases t <;> (
                  go_wp2
                  go_quiet (fail)
                  go_wp2
                  go_roundw
                  case rel => exact ⟨0 + 1, by omega, by go_num, by rw [HT'.out, HT2.out]; rfl, below_drewN' HBX.out _⟩
                  case measure => (simp [intOf] <;> omega))
            · obtain ⟨j', hj'⟩ : ∃ j', j = j' + 1 := ⟨j - 1, by omega⟩
              obtain ⟨z, hz⟩ : ∃ z, ks[j']? = some z := ⟨_, List.getElem?_eq_getElem (by rw [Hm.out]; omega)⟩
              have hcz := keep_cell HBX.out (Hcz.out z (by rw [show j - 1 = j' by omega]; exact hz))
              rw [show j - 1 = j' by omega] at hcz
              have hzy : z < y := by
                obtain ⟨a1, a2⟩ := List.getElem?_eq_some_iff.1 hz
                obtain ⟨b1, b2⟩ := List.getElem?_eq_some_iff.1 Hy.out
                have := (List.pairwise_iff_getElem.1 Hsort.out) j' j a1 b1 (by omega)
                rw [a2, b2] at this; exact this
              have hjp0 : 0 < j := by omega
              have hjd : decide (0 < j) = true := by simp; omega
              have hjw : wrap64 ((j : Int) - 1) = (j' : Int) := by unfold wrap64; omega
              have hsub : (j : Int) - 1 = (j' : Int) := by omega
              have hjm2 : (j' : Int) < m := by omega
              have hjm4 : (0 : Int) ≤ (j' : Int) := by omega
              have hle : decide (y ≤ z) = false := by simp; omega
              clear hz hj0 hj'
              by_cases hy7 : y = 77
              · subst hy7
                cases t <;> (
                  go_wp2
                  go_quiet (fail)
                  go_wp2
                  go_roundw
                  case rel => exact ⟨j + 1, by omega, by go_num, by rw [HT'.out]; rfl, below_drewN' HBX.out _⟩
                  case measure => (simp [intOf] <;> omega))
              · have hyE : (y == 77) = false := by simpa using hy7
                have HT2 : Hid (decide (y = 77) = false) := Lib.hid (by simp [hy7])
                clear hy7
                cases t <;> (
                  go_wp2
                  go_quiet (fail)
                  go_wp2
                  go_roundw
                  case rel => exact ⟨j + 1, by omega, by go_num, by rw [HT'.out, HT2.out]; rfl, below_drewN' HBX.out _⟩
                  case measure => (simp [intOf] <;> omega))
          · obtain rfl : m = j := by omega
            have hall : ks.take m = ks := List.take_of_length_le (by rw [Hm.out]; exact Nat.le_refl _)
            rw [hall, Hmem.out]
            obtain ⟨q, hq⟩ : ∃ q, (i + 1) % e = q := ⟨_, rfl⟩
            have hrem : ((i : Int) + 1).tmod (e : Int) = (q : Int) := by rw [← hq]; rfl
            rw [hq]
            have hREL2 : Hid (GoesIn w b B e (i + 1) (.int .i64 ((k : Int) + 1)) (i + 1) wr) := Lib.hid (by
              obtain ⟨k2, K2, f2, a1, a2, a3, a4, a5, a6, a7⟩ := HREL.out
              exact ⟨k2, K2, f2, by rw [← a1]; go_num, a2, a3, a4.below hbx, a5, a6, bchain a7 a7.size hbx⟩)
            clear hall hq hbx HREL Hmem
            by_cases hq0 : q = 0
            · subst hq0
              have hqE : (((0 : Nat) : Int) == 0) = true := by simp
              go_wp2
              go_roundw
              case rel => exact ⟨i + 1, by omega, by go_num, by simpa using hREL2.out⟩
              case measure => (simp [intOf] <;> omega)
            · have hqE : ((q : Int) == 0) = false := by simp; omega
              have hqd : decide (q = 0) = false := by simp [hq0]
              rw [hqd]
              clear hq0
              go_wp2
              go_roundw
              case rel => exact ⟨i + 1, by omega, by go_num, by simpa using hREL2.out⟩
              case measure => (simp [intOf] <;> omega)
      have hd3' : pd < 3 := by omega
      clear hd3 HTT
      by_cases hx7 : px = 77
      · subst hx7
        go_wp2
        go_roundw
        case rel => exact ⟨k + 1, K, f, by go_num, by omega, by omega, HTj.out, HF.out, H77.out, Hkj.out⟩
        case measure => (simp [intOf] <;> omega)
      have hxE : (px == 77) = false := by simpa using hx7
      have hx7' : ¬ (77 : Int) = px := fun h => hx7 h.symm
      have Hx7 := Lib.hid hx7'
      clear hx7 hx7'
      by_cases hd2 : pd < 2
      · have hs := hS.out b B K px f wr QU.out (by omega) HTj.out
        have HS := Lib.hid hs
        clear hs
        go_wp2_with (go_at_call 13; (with_reducible refine HS.out.mono ?_); rintro e_ w5 ⟨rfl, T5, u5⟩)
        go_roundw
        case rel => exact ⟨k + 1, _, _, by go_num, by omega, (by split <;> omega), T5, HF.out.upd px, (by unfold upd; rw [if_neg Hx7.out]; exact H77.out), upto_low Hkj.out u5 hBw⟩
        case measure => (simp [intOf] <;> omega)
      · have hd2' : (2 : Int) ≤ pd := by omega
        clear hd2
        have hs := hP.out b B K px f wr QU.out HTj.out
        have HS := Lib.hid hs
        clear hs
        go_wp2_with (go_at_call 15; (with_reducible refine HS.out.mono ?_); rintro e_ w5 ⟨rfl, T5, u5⟩)
        go_roundw
        case rel => exact ⟨k + 1, _, _, by go_num, by omega, by omega, T5, HF.out.del px, (by unfold del; rw [if_neg Hx7.out]; exact H77.out), upto_low Hkj.out u5 hBw⟩
        case measure => (simp [intOf] <;> omega)
theorem law_goes (e tk : Int) (lv : Value) (L : List Opn) (w : World) (hL : OpsAt w lv L) : Calls Try.prog 6 #[.int .i64 e, .int .i64 tk, lv] w (Ret (.bool true) w) := by
  by_cases h : e < 1 ∨ 1000 < e
  · exact ring_late e tk lv w h
  · obtain ⟨m, rfl⟩ : ∃ m : Nat, e = m := ⟨e.toNat, by omega⟩
    exact goes_late m tk lv L w hL (by omega) (by omega)
end Go.Proofs.Ytocfklnoklmocaa
