/- How much rules are, of the program and of the reference. Condition: the rules can be read and are light. -/
import Derived.Test.YtjmmbadpknlmcaaNums
import Derived.BigQuiet
namespace Go.Proofs.Ytjmmbadpknlmcaa
open Go.RowKit
attribute [local go_sem ↓] Go.wp_at_zero Go.wp_at_succ
set_option linter.unusedVariables false
set_option linter.unusedSimpArgs false

theorem below_drewR {B : Nat} {w wr : World} (h : Below B w wr) (n : Nat) : Below B w (wr.drewN n) := ⟨h.os, h.tape, h.output, h.size, h.block⟩
def wtR (r : Rul) : Nat := r.ns.length * 8 * (r.cs.length + 1)
def wtN (L : List Rul) : Nat := 8 + (L.map wtR).sum
theorem wtN_succ {L : List Rul} {k : Nat} {x : Rul} (h : L[k]? = some x) : wtN (L.take (k + 1)) = wtN (L.take k) + wtR x := by
  unfold wtN
  rw [List.take_add_one, h]
  simp [List.sum_append]
  omega
theorem light_len {L : List Rul} (hl : lightB L = true) : L.length ≤ 70 ∧ ∀ x ∈ L, x.ns.length ≤ 40 ∧ x.cs.length ≤ 40 := by
  unfold lightB at hl
  simp only [Bool.and_eq_true, decide_eq_true_eq, List.all_eq_true] at hl
  refine ⟨hl.1, fun x hx => ?_⟩
  have := hl.2 x hx
  unfold lightR at this
  simp only [Bool.and_eq_true, decide_eq_true_eq] at this
  exact this.1
theorem wt_le {p c : Nat} (h1 : p ≤ 40) (h2 : c ≤ 40) : p * 8 * (c + 1) ≤ 13120 := by
  have := Nat.mul_le_mul (show p * 8 ≤ 320 by omega) (show c + 1 ≤ 41 by omega)
  omega

set_option maxRecDepth 100000 in
set_option maxHeartbeats 4000000 in
theorem ref_weight_any (k a : Int) (lv : Value) (L : List Rul) (w : World) (hL : RulsAt w lv L) (hl : lightB L = true) :
    Calls Try.prog 12 #[.agg #[.int .i64 k, .int .i64 a, lv]] w (Ret (.int .i64 (wtN L)) w) := by
  obtain ⟨A0, c0, rfl, hnl, hnc⟩ := hL
  obtain ⟨n, hnn⟩ : ∃ n, L.length = n := ⟨_, rfl⟩
  obtain ⟨h70, hall⟩ := light_len hl
  rw [hnn] at hnl hnc h70 ⊢
  have Hnc := Lib.hid hnc
  have Hnn := Lib.hid hnn
  have Hall := Lib.hid hall
  clear hnc hnn hall hl
  have hbox := below_alloc w (.cells #[.int .i64 k, .int .i64 a, .slice A0 n c0] 26)
  have b2 := new_cell w #[.int .i64 k, .int .i64 a, .slice A0 n c0] 26 2 rfl
  go_enter Try.func12, Try.ntmps12
  go_wp2
  obtain ⟨wa, hwa0⟩ : ∃ wa, w.alloc (.cells #[.int .i64 k, .int .i64 a, .slice A0 n c0] 26) = wa := ⟨_, rfl⟩
  rw [hwa0] at hbox b2 ⊢
  clear hwa0
  go_loopw [3, 4] (fun s i wr => ∃ j W : Nat, j ≤ n ∧ i = .int .i64 j ∧ s = .int .i64 W ∧ W = wtN (L.take j) ∧ W ≤ 8 + 13120 * j ∧ Below wa.heap.size wa wr) (fun _ i _ => n - (intOf i).toNat)
  case atStart => exact ⟨0, 8, by omega, rfl, rfl, by simp [wtN], by omega, Below.refl _ _⟩
  case round =>
    obtain ⟨j, W, hj, rfl, rfl, hW, hWl, hb0⟩ := hrel
    have hb : Below w.heap.size w wr := bchain hbox hbox.size hb0
    have b2r : wr.cell? ⟨w.heap.size, 2, none⟩ = some (.slice A0 n c0) := keep_cell hb0 b2
    have HW := Lib.hid hW
    clear hW
    by_cases hlt : j < n
    case neg =>
      obtain rfl : j = n := by omega
      go_wp2
      go_ret
      exact ⟨by have h := HW.out; rw [List.take_of_length_le (by rw [Hnn.out]; exact Nat.le_refl _)] at h; rw [← h]; rfl, hb⟩
    obtain ⟨gl, o, rfl, hcell⟩ := Hnc.out (by omega)
    obtain ⟨x, hx⟩ : ∃ x, L[j]? = some x := ⟨_, List.getElem?_eq_getElem (by rw [Hnn.out]; omega)⟩
    obtain ⟨nv, cv, e0, e1, e2, e3, hns, hcs⟩ := RulQ.below hb (hcell j x hx)
    have hlen := Hall.out x (List.mem_of_getElem? hx)
    have hsucc := wtN_succ hx
    obtain ⟨rk, ra, ns, cs⟩ := x
    have hns' : StrsAt wr nv ns := hns
    have hcs' : CndsAt wr cv cs := hcs
    obtain ⟨A1, c1, rfl⟩ := hns'.form
    obtain ⟨A2, c2, rfl⟩ := hcs'.form
    have hlen' : ns.length ≤ 40 ∧ cs.length ≤ 40 := hlen
    have hsucc' : wtN (L.take (j + 1)) = wtN (L.take j) + ns.length * 8 * (cs.length + 1) := hsucc
    obtain ⟨p, hp⟩ : ∃ p, ns.length = p := ⟨_, rfl⟩
    obtain ⟨c, hc⟩ : ∃ c, cs.length = c := ⟨_, rfl⟩
    have e0' : wr.cell? ⟨gl, o + j * 4, none⟩ = some (.int .i64 rk) := e0
    have e1' : wr.cell? ⟨gl, o + j * 4 + 1, none⟩ = some (.int .i64 ra) := e1
    have e2' : wr.cell? ⟨gl, o + j * 4 + 2, none⟩ = some (.slice A1 ns.length c1) := e2
    have e3' : wr.cell? ⟨gl, o + j * 4 + 3, none⟩ = some (.slice A2 cs.length c2) := e3
    rw [hp] at e2' hlen' hsucc'
    rw [hc] at e3' hlen' hsucc'
    have hM1 := wt_le hlen'.1 hlen'.2
    obtain ⟨hp40, hc40⟩ := hlen'
    obtain ⟨M, hM⟩ : ∃ M, p * 8 * (c + 1) = M := ⟨_, rfl⟩
    rw [hM] at hM1 hsucc'
    have hM' : (p : Int) * (8 * (c : Int) + 8) = M := by rw [← hM, Nat.mul_assoc, show 8 * (c + 1) = 8 * c + 8 by omega]; push_cast; rfl
    have Hsucc := Lib.hid hsucc'
    have hlt' : (j : Int) < n := by omega
    have hd := Lib.hid hb0
    clear hcell hx e0 e1 e2 e3 hns hcs hns' hcs' hlen hsucc hsucc' hM hp hc
    go_wp2
    go_quiet (fail)
    go_wp2
    go_roundw
    case rel => exact ⟨j + 1, W + M, by omega, by go_num, by go_num, by rw [Hsucc.out, HW.out], by omega, below_drewR hb0 _⟩
    case measure => (simp [intOf] <;> omega)
end Go.Proofs.Ytjmmbadpknlmcaa
