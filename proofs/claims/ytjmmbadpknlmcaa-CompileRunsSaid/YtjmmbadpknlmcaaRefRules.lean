/- Which rules may be shown, of the reference. Condition: the rules can be read. -/
import Derived.Test.YtjmmbadpknlmcaaRules
namespace Go.Proofs.Ytjmmbadpknlmcaa
open Go.RowKit
attribute [local go_sem ↓] Go.wp_at_zero Go.wp_at_succ
set_option linter.unusedVariables false
set_option linter.unusedSimpArgs false

set_option maxRecDepth 100000 in
set_option maxHeartbeats 4000000 in
theorem ref_rules_any (k a : Int) (lv : Value) (L : List Rul) (w : World) (hL : RulsAt w lv L) :
    Calls Try.prog 24 #[.agg #[.int .i64 k, .int .i64 a, lv]] w (Ret (.bool (rulesB k a L)) w) := by
  obtain ⟨A, c, rfl, hnl, hnc⟩ := hL
  have Act := ref_act_any k a
  obtain ⟨F, hF⟩ : ∃ F, rulesB k a L = F := ⟨_, rfl⟩
  rw [hF]
  unfold rulesB at hF
  obtain ⟨y, hy⟩ : ∃ y, actB k a = y := ⟨_, rfl⟩
  rw [hy] at Act hF
  obtain ⟨n, hnn⟩ : ∃ n, L.length = n := ⟨_, rfl⟩
  rw [hnn] at hF hnl hnc ⊢
  have HF := Lib.hid hF
  have Hnc := Lib.hid hnc
  clear hF hnc hy
  have hbox := below_alloc w (.cells #[.int .i64 k, .int .i64 a, .slice A n c] 26)
  go_enter Try.func24, Try.ntmps24
  cases y with
  | false =>
    go_wp2_with (go_at_call 40; refine (Act _).mono ?_; rintro e w1 ⟨rfl, hb1⟩)
    go_ret
    exact ⟨by rw [← HF.out]; simp, bchain hbox hbox.size hb1⟩
  | true =>
  by_cases q : n ≤ 64
  case neg =>
    have q' : (64 : Int) < n := by omega
    go_wp2_with (go_at_call 40; refine (Act _).mono ?_; rintro e w1 ⟨rfl, hb1⟩; have d2 : w1.cell? ⟨w.heap.size, 2, none⟩ = some (.slice A n c) := keep_cell hb1 (by go_keep))
    go_ret
    exact ⟨by rw [← HF.out, decide_eq_false q]; simp, bchain hbox hbox.size hb1⟩
  have q' : ¬ (64 : Int) < n := by omega
  go_wp2_with (go_at_call 40; refine (Act _).mono ?_; rintro e wa ⟨rfl, hb1⟩; have b2 : wa.cell? ⟨w.heap.size, 2, none⟩ = some (.slice A n c) := keep_cell hb1 (by go_keep))
  have hwa : Below w.heap.size w wa := bchain hbox hbox.size hb1
  clear hb1 hbox
  go_loopw [3] (fun i wr => LR n wa (fun j => L.all fineR = (L.drop j).all fineR) i wr) (fun i _ => n - (intOf i).toNat)
  case atStart => exact ⟨0, by omega, rfl, Below.refl _ _, rfl⟩
  case round =>
    obtain ⟨j, hj, rfl, hb, hf⟩ := hrel
    have d2 : wr.cell? ⟨w.heap.size, 2, none⟩ = some (.slice A n c) := keep_cell hb b2
    have hwr : Below w.heap.size w wr := bchain hwa hwa.size hb
    by_cases hlt : j < n
    case neg =>
      obtain rfl : j = n := by omega
      rw [List.drop_eq_nil_of_le (by omega)] at hf
      have Hf := Lib.hid hf
      clear hf
      go_wp2
      go_ret
      exact ⟨by rw [← HF.out, Hf.out]; simp; omega, hwr⟩
    obtain ⟨gl, o, rfl, hcell⟩ := Hnc.out (by omega)
    obtain ⟨x, hx⟩ : ∃ x, L[j]? = some x := ⟨_, List.getElem?_eq_getElem (by omega)⟩
    obtain ⟨nv, cv, e0, e1, e2, e3, hns, hcs⟩ := RulQ.below hwr (hcell j x hx)
    rw [all_at hx] at hf
    have hlt' : (j : Int) < n := by omega
    obtain ⟨rk, ra, ns, cs⟩ := x
    have e0' : wr.cell? ⟨gl, o + j * 4, none⟩ = some (.int .i64 rk) := e0
    have e1' : wr.cell? ⟨gl, o + j * 4 + 1, none⟩ = some (.int .i64 ra) := e1
    have e2' : wr.cell? ⟨gl, o + j * 4 + 2, none⟩ = some nv := e2
    have e3' : wr.cell? ⟨gl, o + j * 4 + 3, none⟩ = some cv := e3
    have hns' : StrsAt wr nv ns := hns
    have hcs' : CndsAt wr cv cs := hcs
    have hf : L.all fineR = (fineB rk ra ns cs && (L.drop (j + 1)).all fineR) := hf
    clear hns hcs e0 e1 e2 e3 hcell hx
    obtain ⟨A1, c1, rfl, hl1, hc1⟩ := hns'
    obtain ⟨A2, c2, rfl, hl2, hc2⟩ := hcs'
    unfold fineB at hf
    have RAct := ref_act_any rk ra
    obtain ⟨z, hz⟩ : ∃ z, actB rk ra = z := ⟨_, rfl⟩
    rw [hz] at RAct hf
    obtain ⟨n1, hn1⟩ : ∃ n1, ns.length = n1 := ⟨_, rfl⟩
    obtain ⟨m1, hm1⟩ : ∃ m1, cs.length = m1 := ⟨_, rfl⟩
    rw [hn1] at hf hl1 hc1 e2'
    rw [hm1] at hf hl2 hc2 e3'
    have Hf := Lib.hid hf
    have Hc1 := Lib.hid hc1
    have Hc2 := Lib.hid hc2
    clear hz hf hc1 hc2
    have hal := below_alloc wr (.cells #[.int .i64 rk, .int .i64 ra, .slice A1 n1 c1, .slice A2 m1 c2] 44)
    have hal2 : Below w.heap.size w (wr.alloc (.cells #[.int .i64 rk, .int .i64 ra, .slice A1 n1 c1, .slice A2 m1 c2] 44)) := bchain hwr hwr.size hal
    cases z with
    | false =>
      go_wp2_with (go_at_call 40; refine (RAct _).mono ?_; rintro e w1 ⟨rfl, hb5⟩)
      go_ret
      exact ⟨by rw [← HF.out, Hf.out]; simp, bchain hal2 hal2.size hb5⟩
    | true =>
    by_cases hlen : 1 ≤ n1 ∧ n1 ≤ 16 ∧ m1 ≤ 8
    case neg =>
      have hF2 : F = false := by rw [← HF.out, Hf.out, decide_eq_false hlen]; simp
      subst hF2
      by_cases q1 : (n1 : Int) < 1
      · go_wp2_with (go_at_call 40; refine (RAct _).mono ?_; rintro e w1 ⟨rfl, hb5⟩; have f2 : w1.cell? ⟨wr.heap.size, 2, none⟩ = some (.slice A1 n1 c1) := keep_cell hb5 (by go_keep))
        go_ret
        exact ⟨rfl, bchain hal2 hal2.size hb5⟩
      · by_cases q2 : (16 : Int) < n1
        · go_wp2_with (go_at_call 40; refine (RAct _).mono ?_; rintro e w1 ⟨rfl, hb5⟩; have f2 : w1.cell? ⟨wr.heap.size, 2, none⟩ = some (.slice A1 n1 c1) := keep_cell hb5 (by go_keep))
          go_ret
          exact ⟨rfl, bchain hal2 hal2.size hb5⟩
        · have q3 : (8 : Int) < m1 := by omega
          go_wp2_with (go_at_call 40; refine (RAct _).mono ?_; rintro e w1 ⟨rfl, hb5⟩; have f2 : w1.cell? ⟨wr.heap.size, 2, none⟩ = some (.slice A1 n1 c1) := keep_cell hb5 (by go_keep); have f3 : w1.cell? ⟨wr.heap.size, 3, none⟩ = some (.slice A2 m1 c2) := keep_cell hb5 (by go_keep))
          go_ret
          exact ⟨rfl, bchain hal2 hal2.size hb5⟩
    obtain ⟨q1, q2, q3⟩ := hlen
    have q1' : ¬ (n1 : Int) < 1 := by omega
    have q2' : ¬ (16 : Int) < n1 := by omega
    have q3' : ¬ (8 : Int) < m1 := by omega
    go_wp2_with (go_at_call 40; refine (RAct _).mono ?_; rintro e wb ⟨rfl, hb5⟩; have f2 : wb.cell? ⟨wr.heap.size, 2, none⟩ = some (.slice A1 n1 c1) := keep_cell hb5 (by go_keep); have f3 : wb.cell? ⟨wr.heap.size, 3, none⟩ = some (.slice A2 m1 c2) := keep_cell hb5 (by go_keep))
    have hwab : Below wa.heap.size wa wb := by
      have k1 := bchain hb hb.size hal
      exact bchain k1 k1.size hb5
    have hrb : Below wr.heap.size wr wb := bchain hal hal.size hb5
    have hwb : Below w.heap.size w wb := bchain hwa hwa.size hwab
    clear hb5 hal hal2
    obtain ⟨wo, hwo⟩ : ∃ wo, wo = wr := ⟨_, rfl⟩
    subst hwo
    have g2 : wb.cell? ⟨w.heap.size, 2, none⟩ = some (.slice (some ⟨gl, o, none⟩) n c) := keep_cell hrb d2
    go_loopw [5] (fun i wq => LR n1 wb (fun p => ns.all wordB = (ns.drop p).all wordB) i wq) (fun i _ => n1 - (intOf i).toNat)
    case atStart => exact ⟨0, by omega, rfl, Below.refl _ _, rfl⟩
    case round =>
      obtain ⟨p, hp, rfl, hb6, hf6⟩ := hrel
      have g2 : wr.cell? ⟨wo.heap.size, 2, none⟩ = some (.slice A1 n1 c1) := keep_cell hb6 f2
      have g3 : wr.cell? ⟨wo.heap.size, 3, none⟩ = some (.slice A2 m1 c2) := keep_cell hb6 f3
      by_cases hlt6 : p < n1
      · obtain ⟨gl1, o1, rfl, hcell1⟩ := Hc1.out (by omega)
        obtain ⟨x, hx⟩ : ∃ x, ns[p]? = some x := ⟨_, List.getElem?_eq_getElem (by omega)⟩
        obtain ⟨h0, hxs⟩ := hcell1 p x hx
        have h1 : wr.cell? ⟨gl1, o1 + p, none⟩ = some (.string x) := by rw [Nat.mul_one] at h0; exact keep_cell hb6 (keep_cell hrb h0)
        rw [all_at hx] at hf6
        have hlt' : (p : Int) < n1 := by omega
        have I := ref_is_any x hxs
        obtain ⟨z, hz⟩ : ∃ z, wordB x = z := ⟨_, rfl⟩
        rw [hz] at I hf6
        have Hf6 := Lib.hid hf6
        clear hcell1 h0 hx hz hf6
        cases z with
        | true =>
          go_wp2_with (go_at_call 41; (with_reducible refine (I _).mono ?_); rintro e w5 ⟨rfl, hb7⟩)
          go_roundw
          case rel => exact ⟨p + 1, by omega, by go_num, bchain hb6 hb6.size hb7, Hf6.out⟩
          case measure => (simp [intOf] <;> omega)
        | false =>
          go_wp2_with (go_at_call 41; (with_reducible refine (I _).mono ?_); rintro e w5 ⟨rfl, hb7⟩)
          go_ret
          exact ⟨by rw [← HF.out, Hf.out, Hf6.out]; simp, (by have k1 := bchain hwb hwb.size hb6; exact bchain k1 k1.size hb7)⟩
      · obtain rfl : p = n1 := by omega
        rw [List.drop_eq_nil_of_le (by omega)] at hf6
        have Hf6 := Lib.hid hf6
        clear hf6
        go_wp2
        obtain ⟨wc, hwc⟩ : ∃ wc, wc = wr := ⟨_, rfl⟩
        subst hwc
        have hbc : Below w.heap.size w wc := bchain hwb hwb.size hb6
        have hrc : Below wo.heap.size wo wc := bchain hrb hrb.size hb6
        have hac : Below wa.heap.size wa wc := bchain hwab hwab.size hb6
        go_loopw [6] (fun i wq => LR m1 wc (fun p => cs.all (fun c => rightB c.a c.o) = (cs.drop p).all fun c => rightB c.a c.o) i wq) (fun i _ => m1 - (intOf i).toNat)
        case atStart => exact ⟨0, by omega, rfl, Below.refl _ _, rfl⟩
        case round =>
          obtain ⟨i, hi, rfl, hb8, hf8⟩ := hrel
          have k3 : wr.cell? ⟨wo.heap.size, 3, none⟩ = some (.slice A2 m1 c2) := keep_cell hb8 g3
          by_cases hlt8 : i < m1
          · obtain ⟨gl2, o2, rfl, hcell2⟩ := Hc2.out (by omega)
            obtain ⟨x, hx⟩ : ∃ x, cs[i]? = some x := ⟨_, List.getElem?_eq_getElem (by omega)⟩
            obtain ⟨h0, h1, h2, h3⟩ := hcell2 i x hx
            obtain ⟨ca, co, cm, cv⟩ := x
            have i0 : wr.cell? ⟨gl2, o2 + i * 4, none⟩ = some (.int .i64 ca) := keep_cell hb8 (keep_cell hrc h0)
            have i1 : wr.cell? ⟨gl2, o2 + i * 4 + 1, none⟩ = some (.int .i64 co) := keep_cell hb8 (keep_cell hrc h1)
            have i2 : wr.cell? ⟨gl2, o2 + i * 4 + 2, none⟩ = some (.int .u64 cm) := keep_cell hb8 (keep_cell hrc h2)
            have i3 : wr.cell? ⟨gl2, o2 + i * 4 + 3, none⟩ = some (.int .u64 cv) := keep_cell hb8 (keep_cell hrc h3)
            rw [all_at hx] at hf8
            have hlt' : (i : Int) < m1 := by omega
            have I := right2_any ca co cm cv
            obtain ⟨z, hz⟩ : ∃ z, rightB ca co = z := ⟨_, rfl⟩
            have hz' : rightB (Cnd.mk ca co cm cv).a (Cnd.mk ca co cm cv).o = z := hz
            rw [hz] at I
            rw [hz'] at hf8
            have Hf8 := Lib.hid hf8
            clear hcell2 h0 h1 h2 h3 hx hz hz' hf8
            cases z with
            | true =>
              go_wp2_with (go_at_call 42; (with_reducible refine (I _).mono ?_); rintro e w5 ⟨rfl, hb9⟩)
              go_roundw
              case rel => exact ⟨i + 1, by omega, by go_num, bchain hb8 hb8.size hb9, Hf8.out⟩
              case measure => (simp [intOf] <;> omega)
            | false =>
              go_wp2_with (go_at_call 42; (with_reducible refine (I _).mono ?_); rintro e w5 ⟨rfl, hb9⟩)
              go_ret
              refine ⟨by rw [← HF.out, Hf.out, Hf8.out]; simp, ?_⟩
              have k1 := bchain hbc hbc.size hb8
              exact bchain k1 k1.size hb9
          · obtain rfl : i = m1 := by omega
            rw [List.drop_eq_nil_of_le (by omega)] at hf8
            have Hf8 := Lib.hid hf8
            clear hf8
            go_wp2
            go_roundw
            case rel => exact ⟨j + 1, by omega, by go_num, bchain hac hac.size hb8, by rw [Hf.out, Hf6.out, Hf8.out, decide_eq_true ⟨q1, q2, q3⟩]; simp⟩
            case measure => (simp [intOf] <;> omega)
end Go.Proofs.Ytjmmbadpknlmcaa
