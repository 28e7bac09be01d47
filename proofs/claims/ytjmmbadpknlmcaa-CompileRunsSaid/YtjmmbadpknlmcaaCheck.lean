/- Why rules mean nothing. Condition: the rules can be read. -/
import Derived.Test.YtjmmbadpknlmcaaWrong
namespace Go.Proofs.Ytjmmbadpknlmcaa
open Go.RowKit
attribute [local go_sem ↓] Go.wp_at_zero Go.wp_at_succ
set_option linter.unusedVariables false
set_option linter.unusedSimpArgs false

def checkL : List Rul → Nat → Int × Int
  | [], _ => (0, -1)
  | r :: L, i => if wrongI r.ns = 0 then checkL L (i + 1) else (wrongI r.ns, (i : Int))
def checkV (k a : Int) (L : List Rul) : Int × Int := if rulesB k a L then checkL L 0 else (1, -1)
def pairT (p : Int × Int) : Value := .tuple #[.int .i64 p.1, .int .i64 p.2]
theorem checkL_at {L : List Rul} {k : Nat} {x : Rul} (h : L[k]? = some x) (j : Nat) : checkL (L.drop k) j = if wrongI x.ns = 0 then checkL (L.drop (k + 1)) (j + 1) else (wrongI x.ns, (j : Int)) := by
  have hl := (List.getElem?_eq_some_iff.1 h).1
  rw [List.drop_eq_getElem_cons hl, (List.getElem?_eq_some_iff.1 h).2]
  rfl
theorem rulesB_names {k a : Int} {L : List Rul} (h : rulesB k a L = true) {x : Rul} (hx : x ∈ L) : x.ns.length ≤ 16 ∧ x.cs.length ≤ 8 := by
  unfold rulesB at h
  simp only [Bool.and_eq_true, List.all_eq_true] at h
  have := h.2 x hx
  unfold fineR fineB at this
  simp only [Bool.and_eq_true, decide_eq_true_eq] at this
  exact ⟨this.1.2.2.1, this.1.2.2.2⟩
theorem rulesB_len {k a : Int} {L : List Rul} (h : rulesB k a L = true) : L.length ≤ 64 := by
  unfold rulesB at h
  simp only [Bool.and_eq_true, decide_eq_true_eq] at h
  exact h.1.2
def CheckRel (n : Nat) (wa : World) (p : Nat → Prop) (i : Value) (wr : World) : Prop := LR n wa p i wr

set_option maxRecDepth 100000 in
set_option maxHeartbeats 4000000 in
theorem check_any (k a : Int) (lv : Value) (L : List Rul) (w : World) (hL : RulsAt w lv L) :
    Calls Try.prog 18 #[.agg #[.int .i64 k, .int .i64 a, lv]] w (Ret (pairT (checkV k a L)) w) := by
  obtain ⟨A0, c0, rfl⟩ := hL.form
  have hbox := below_alloc w (.cells #[.int .i64 k, .int .i64 a, .slice A0 L.length c0] 26)
  have R := rules_any k a _ L _ (ruls_below hbox hL)
  obtain ⟨A, c, hv, hnl, hnc⟩ := hL
  cases hv
  obtain ⟨F, hF⟩ : ∃ F, checkV k a L = F := ⟨_, rfl⟩
  rw [hF]
  unfold checkV at hF
  obtain ⟨y, hy⟩ : ∃ y, rulesB k a L = y := ⟨_, rfl⟩
  rw [hy] at R hF
  have hnames : y = true → ∀ x ∈ L, x.ns.length ≤ 16 := fun h x hx => (rulesB_names (by rw [hy, h]) hx).1
  have Hnames := Lib.hid hnames
  obtain ⟨n, hnn⟩ : ∃ n, L.length = n := ⟨_, rfl⟩
  rw [hnn] at hnl hnc hbox R ⊢
  have HF := Lib.hid hF
  have Hnc := Lib.hid hnc
  clear hF hnc hy hnames
  go_enter Try.func18, Try.ntmps18
  cases y with
  | false =>
    go_wp2_with (go_at_call 30; refine R.mono ?_; rintro e w1 ⟨rfl, hb1⟩)
    go_ret2
    exact ⟨by rw [← HF.out]; rfl, bchain hbox hbox.size hb1⟩
  | true =>
  go_wp2_with (go_at_call 30; refine R.mono ?_; rintro e wa ⟨rfl, hb1⟩; have b2 : wa.cell? ⟨w.heap.size, 2, none⟩ = some (.slice A0 n c0) := keep_cell hb1 (by go_keep))
  have hwa : Below w.heap.size w wa := bchain hbox hbox.size hb1
  clear hb1 hbox
  go_loopw [13] (fun i wr => LR n wa (fun j => checkL L 0 = checkL (L.drop j) j) i wr) (fun i _ => n - (intOf i).toNat)
  case atStart => exact ⟨0, by omega, rfl, Below.refl _ _, rfl⟩
  case round =>
    obtain ⟨j, hj, rfl, hb, hf⟩ := hrel
    have hwr : Below w.heap.size w wr := bchain hwa hwa.size hb
    by_cases hlt : j < n
    case neg =>
      obtain rfl : j = n := by omega
      rw [List.drop_eq_nil_of_le (by omega)] at hf
      have Hf := Lib.hid hf
      clear hf
      go_wp2
      go_ret2
      exact ⟨by rw [← HF.out, if_pos trivial, Hf.out]; rfl, hwr⟩
    obtain ⟨gl, o, rfl, hcell⟩ := Hnc.out (by omega)
    obtain ⟨x, hx⟩ : ∃ x, L[j]? = some x := ⟨_, List.getElem?_eq_getElem (by omega)⟩
    obtain ⟨nv, cv, e0, e1, e2, e3, hns, hcs⟩ := RulQ.below hwr (hcell j x hx)
    have hx16 := Hnames.out trivial x (List.mem_of_getElem? hx)
    rw [checkL_at hx] at hf
    have hlt' : (j : Int) < n := by omega
    obtain ⟨rk, ra, ns, cs⟩ := x
    have e0' : wr.cell? ⟨gl, o + j * 4, none⟩ = some (.int .i64 rk) := e0
    have e1' : wr.cell? ⟨gl, o + j * 4 + 1, none⟩ = some (.int .i64 ra) := e1
    have e2' : wr.cell? ⟨gl, o + j * 4 + 2, none⟩ = some nv := e2
    have e3' : wr.cell? ⟨gl, o + j * 4 + 3, none⟩ = some cv := e3
    have hns' : StrsAt wr nv ns := hns
    have hcs' : CndsAt wr cv cs := hcs
    have hx16' : ns.length ≤ 16 := hx16
    have hf : checkL L 0 = if wrongI ns = 0 then checkL (L.drop (j + 1)) (j + 1) else (wrongI ns, (j : Int)) := hf
    obtain ⟨A1, c1, rfl⟩ := hns'.form
    obtain ⟨A2, c2, rfl⟩ := hcs'.form
    have hal := below_alloc wr (.cells #[.int .i64 rk, .int .i64 ra, .slice A1 ns.length c1, .slice A2 cs.length c2] 44)
    have W := wrong_any _ ns _ (strs_below hal hns') (by omega)
    obtain ⟨z, hz⟩ : ∃ z, wrongI ns = z := ⟨_, rfl⟩
    rw [hz] at W hf
    clear hns hcs e0 e1 e2 e3 hcell hx hx16 hx16' hns' hcs' hz
    have hal2 := bchain hwr hwr.size hal
    have hal3 := bchain hb hb.size hal
    by_cases h0 : z = 0
    · rw [if_pos h0] at hf
      subst h0
      have Hf := Lib.hid hf
      clear hf
      go_wp2_with (go_at_call 31; (with_reducible refine W.mono ?_); rintro e w5 ⟨rfl, hb5⟩)
      go_roundw
      case rel => exact ⟨j + 1, by omega, by go_num, bchain hal3 hal3.size hb5, Hf.out⟩
      case measure => (simp [intOf] <;> omega)
    · rw [if_neg h0] at hf
      have Hf := Lib.hid hf
      clear hf
      go_wp2_with (go_at_call 31; (with_reducible refine W.mono ?_); rintro e w5 ⟨rfl, hb5⟩)
      go_ret2
      exact ⟨by rw [← HF.out, if_pos trivial, Hf.out]; rfl, bchain hal2 hal2.size hb5⟩
end Go.Proofs.Ytjmmbadpknlmcaa
