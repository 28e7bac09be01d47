/- Whether rules are light, of the reference. Condition: the rules can be read. -/
import Derived.Test.YtjmmbadpknlmcaaRules
namespace Go.Proofs.Ytjmmbadpknlmcaa
open Go.RowKit
attribute [local go_sem ↓] Go.wp_at_zero Go.wp_at_succ
set_option linter.unusedVariables false
set_option linter.unusedSimpArgs false

def shortB (s : ByteArray) : Bool := decide (s.size ≤ 500)
def lightR (r : Rul) : Bool := decide (r.ns.length ≤ 40 ∧ r.cs.length ≤ 40) && r.ns.all shortB
def lightB (L : List Rul) : Bool := decide (L.length ≤ 70) && L.all lightR

set_option maxRecDepth 100000 in
set_option maxHeartbeats 2000000 in
theorem light_any (k a : Int) (lv : Value) (L : List Rul) (w : World) (hL : RulsAt w lv L) :
    Calls Try.prog 9 #[.agg #[.int .i64 k, .int .i64 a, lv]] w (Ret (.bool (lightB L)) w) := by
  obtain ⟨A0, c0, rfl, hnl, hnc⟩ := hL
  obtain ⟨F, hF⟩ : ∃ F, lightB L = F := ⟨_, rfl⟩
  rw [hF]
  unfold lightB at hF
  obtain ⟨n, hnn⟩ : ∃ n, L.length = n := ⟨_, rfl⟩
  rw [hnn] at hF hnl hnc ⊢
  have HF := Lib.hid hF
  have Hnc := Lib.hid hnc
  clear hF hnc
  have hbox := below_alloc w (.cells #[.int .i64 k, .int .i64 a, .slice A0 n c0] 26)
  have b2 := new_cell w #[.int .i64 k, .int .i64 a, .slice A0 n c0] 26 2 rfl
  go_enter Try.func9, Try.ntmps9
  by_cases h70 : n ≤ 70
  case neg =>
    have h70' : (70 : Int) < n := by omega
    go_wp2
    go_ret
    exact ⟨by rw [← HF.out, decide_eq_false h70]; simp, hbox⟩
  have h70' : ¬ (70 : Int) < n := by omega
  go_wp2
  obtain ⟨wa, hwa0⟩ : ∃ wa, w.alloc (.cells #[.int .i64 k, .int .i64 a, .slice A0 n c0] 26) = wa := ⟨_, rfl⟩
  rw [hwa0] at hbox b2 ⊢
  clear hwa0
  go_loopw [3] (fun i wr => LR n wa (fun j => L.all lightR = (L.drop j).all lightR) i wr) (fun i _ => n - (intOf i).toNat)
  case atStart => exact ⟨0, by omega, rfl, Below.refl _ _, rfl⟩
  case round =>
    obtain ⟨j, hj, rfl, hb, hf⟩ := hrel
    have hwr : Below w.heap.size w wr := bchain hbox hbox.size hb
    have b2r : wr.cell? ⟨w.heap.size, 2, none⟩ = some (.slice A0 n c0) := keep_cell hb b2
    by_cases hlt : j < n
    case neg =>
      obtain rfl : j = n := by omega
      rw [List.drop_eq_nil_of_le (by omega)] at hf
      have Hf := Lib.hid hf
      clear hf
      go_wp2
      go_ret
      exact ⟨by rw [← HF.out, Hf.out, decide_eq_true h70]; simp, hwr⟩
    obtain ⟨gl, o, rfl, hcell⟩ := Hnc.out (by omega)
    obtain ⟨x, hx⟩ : ∃ x, L[j]? = some x := ⟨_, List.getElem?_eq_getElem (by omega)⟩
    obtain ⟨nv, cv, e0, e1, e2, e3, hns, hcs⟩ := RulQ.below hwr (hcell j x hx)
    rw [all_at hx] at hf
    have hlt' : (j : Int) < n := by omega
    obtain ⟨rk, ra, ns, cs⟩ := x
    have e2' : wr.cell? ⟨gl, o + j * 4 + 2, none⟩ = some nv := e2
    have e3' : wr.cell? ⟨gl, o + j * 4 + 3, none⟩ = some cv := e3
    have hns' : StrsAt wr nv ns := hns
    have hcs' : CndsAt wr cv cs := hcs
    have hf : L.all lightR = (decide (ns.length ≤ 40 ∧ cs.length ≤ 40) && ns.all shortB && (L.drop (j + 1)).all lightR) := hf
    obtain ⟨A1, c1, rfl, hl1, hc1⟩ := hns'
    obtain ⟨A2, c2, rfl⟩ := hcs'.form
    obtain ⟨n1, hn1⟩ : ∃ n1, ns.length = n1 := ⟨_, rfl⟩
    obtain ⟨m1, hm1⟩ : ∃ m1, cs.length = m1 := ⟨_, rfl⟩
    rw [hn1] at hl1 hc1 e2' hf
    rw [hm1] at e3' hf
    have Hc1 := Lib.hid hc1
    have Hf := Lib.hid hf
    clear hns hcs hcs' e0 e1 e2 e3 hcell hx hc1 hf
    by_cases q1 : n1 ≤ 40
    case neg =>
      have q1' : (40 : Int) < n1 := by omega
      have d1 : decide ((40 : Int) < n1) = true := by simpa using q1'
      go_wp2
      go_ret
      exact ⟨by rw [← HF.out, Hf.out]; simp [q1], hwr⟩
    have q1' : ¬ (40 : Int) < n1 := by omega
    have d1 : decide ((40 : Int) < n1) = false := by simpa using q1'
    by_cases q2 : m1 ≤ 40
    case neg =>
      have q2' : (40 : Int) < m1 := by omega
      go_wp2
      go_ret
      exact ⟨by rw [← HF.out, Hf.out]; simp [q2], hwr⟩
    have q2' : ¬ (40 : Int) < m1 := by omega
    go_wp2
    obtain ⟨wo, hwo⟩ : ∃ wo, wo = wr := ⟨_, rfl⟩
    subst hwo
    go_loopw [4] (fun i wq => LR n1 wo (fun p => ns.all shortB = (ns.drop p).all shortB) i wq) (fun i _ => n1 - (intOf i).toNat)
    case atStart => exact ⟨0, by omega, rfl, Below.refl _ _, rfl⟩
    case round =>
      obtain ⟨p, hp, rfl, hb6, hf6⟩ := hrel
      have b2q : wr.cell? ⟨w.heap.size, 2, none⟩ = some (.slice (some ⟨gl, o, none⟩) n c0) := keep_cell hb6 b2r
      have e2q : wr.cell? ⟨gl, o + j * 4 + 2, none⟩ = some (.slice A1 n1 c1) := keep_cell hb6 e2'
      have hwq : Below w.heap.size w wr := bchain hwr hwr.size hb6
      have hbq := bchain hb hb.size hb6
      by_cases hlt6 : p < n1
      · obtain ⟨gl1, o1, rfl, hcell1⟩ := Hc1.out (by omega)
        obtain ⟨x, hx⟩ : ∃ x, ns[p]? = some x := ⟨_, List.getElem?_eq_getElem (by omega)⟩
        obtain ⟨h0, hxs⟩ := hcell1 p x hx
        have h1 : wr.cell? ⟨gl1, o1 + p, none⟩ = some (.string x) := by rw [Nat.mul_one] at h0; exact keep_cell hb6 h0
        rw [all_at hx] at hf6
        have hlt' : (p : Int) < n1 := by omega
        have Hf6 := Lib.hid hf6
        clear hcell1 h0 hx hf6
        by_cases hz : x.size ≤ 500
        · have hz' : ¬ (500 : Int) < x.size := by omega
          go_wp2
          go_roundw
          case rel => exact ⟨p + 1, by omega, by go_num, hb6, by show _ = (ns.drop (p + 1)).all shortB; rw [Hf6.out, show shortB x = true from decide_eq_true hz]; rfl⟩
          case measure => (simp [intOf] <;> omega)
        · have hz' : (500 : Int) < x.size := by omega
          go_wp2
          go_ret
          refine ⟨?_, hwq⟩
          rw [← HF.out, Hf.out, Hf6.out, show shortB x = false from decide_eq_false hz]
          simp
      · obtain rfl : p = n1 := by omega
        rw [List.drop_eq_nil_of_le (by omega)] at hf6
        have Hf6 := Lib.hid hf6
        clear hf6
        go_wp2
        go_roundw
        case rel => exact ⟨j + 1, by omega, by go_num, hbq, by show _ = (L.drop (j + 1)).all lightR; rw [Hf.out, Hf6.out]; simp [q1, q2]⟩
        case measure => (simp [intOf] <;> omega)
end Go.Proofs.Ytjmmbadpknlmcaa
