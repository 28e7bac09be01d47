/- Which rules may be shown. Condition: the rules can be read. -/
import Derived.Test.YtjmmbadpknlmcaaFine
namespace Go.Proofs.Ytjmmbadpknlmcaa
open Go.RowKit
attribute [local go_sem ↓] Go.wp_at_zero Go.wp_at_succ
set_option linter.unusedVariables false
set_option linter.unusedSimpArgs false

def fineR (r : Rul) : Bool := fineB r.k r.a r.ns r.cs
def rulesB (k a : Int) (L : List Rul) : Bool := actB k a && decide (L.length ≤ 64) && L.all fineR

theorem ListAt.form {α : Type} {sz : Nat} {Q : World → Nat → Nat → α → Prop} {w : World} {v : Value} {L : List α} (h : ListAt sz Q w v L) : ∃ A c, v = .slice A L.length c := by
  obtain ⟨A, c, h, _⟩ := h
  exact ⟨A, c, h⟩
theorem new_cell (w : World) (cs : Array Value) (t : TypeId) (j : Nat) {v : Value} (h : cs[j]? = some v) : (w.alloc (.cells cs t)).cell? ⟨w.heap.size, j, none⟩ = some v := by
  rw [World.cell?_alloc_new]; exact h
set_option maxRecDepth 100000 in
set_option maxHeartbeats 2000000 in
theorem rules_any (k a : Int) (lv : Value) (L : List Rul) (w : World) (hL : RulsAt w lv L) :
    Calls Try.prog 30 #[.agg #[.int .i64 k, .int .i64 a, lv]] w (Ret (.bool (rulesB k a L)) w) := by
  obtain ⟨A, c, rfl, hnl, hnc⟩ := hL
  have Act := act_any k a
  obtain ⟨F, hF⟩ : ∃ F, rulesB k a L = F := ⟨_, rfl⟩
  rw [hF]
  unfold rulesB at hF
  obtain ⟨y, hy⟩ : ∃ y, actB k a = y := ⟨_, rfl⟩
  rw [hy] at Act hF
  obtain ⟨n, hnn⟩ : ∃ n, L.length = n := ⟨_, rfl⟩
  rw [hnn] at hF hnl hnc ⊢
  have HF := Lib.hid hF
  have Hnc := Lib.hid hnc
  clear hF hnc hy
  have hbox := below_alloc w (.cells #[.int .i64 k, .int .i64 a, .slice A n c] 26)
  go_enter Try.func30, Try.ntmps30
  go_wp2
  generalize hwa : w.alloc (.cells #[.int .i64 k, .int .i64 a, .slice A n c] 26) = wa
  have b0 := new_cell w #[.int .i64 k, .int .i64 a, .slice A n c] 26 0 rfl
  have b1 := new_cell w #[.int .i64 k, .int .i64 a, .slice A n c] 26 1 rfl
  have b2 := new_cell w #[.int .i64 k, .int .i64 a, .slice A n c] 26 2 rfl
  rw [hwa] at hbox b0 b1 b2
  clear hwa
  go_loopw [8] (fun i wr => LR n wa (fun j => L.all fineR = (L.drop j).all fineR) i wr) (fun i _ => n - (intOf i).toNat)
  case atStart => exact ⟨0, by omega, rfl, Below.refl _ _, rfl⟩
  case round =>
    obtain ⟨j, hj, rfl, hb, hf⟩ := hrel
    by_cases hlt : j < n
    · obtain ⟨gl, o, rfl, hcell⟩ := Hnc.out (by omega)
      obtain ⟨x, hx⟩ : ∃ x, L[j]? = some x := ⟨_, List.getElem?_eq_getElem (by omega)⟩
      obtain ⟨nv, cv, e0, e1, e2, e3, hns, hcs⟩ := RulQ.below hb (RulQ.below hbox (hcell j x hx))
      rw [all_at hx] at hf
      have hlt' : (j : Int) < n := by omega
      obtain ⟨rk, ra, ns, cs⟩ := x
      obtain ⟨z, hz⟩ : ∃ z, fineB rk ra ns cs = z := ⟨_, rfl⟩
      have hz' : fineR ⟨rk, ra, ns, cs⟩ = z := hz
      have hns' : StrsAt wr nv ns := hns
      have hcs' : CndsAt wr cv cs := hcs
      have e2' : wr.cell? ⟨gl, o + j * 4 + 2, none⟩ = some nv := e2
      have e3' : wr.cell? ⟨gl, o + j * 4 + 3, none⟩ = some cv := e3
      clear hns hcs e2 e3
      obtain ⟨A1, c1, rfl⟩ := hns'.form
      obtain ⟨A2, c2, rfl⟩ := hcs'.form
      have hal := below_alloc wr (.cells #[.int .i64 rk, .int .i64 ra, .slice A1 ns.length c1, .slice A2 cs.length c2] 44)
      have I := fine_any rk ra _ _ ns cs _ (strs_below hal hns') (cnds_below hal hcs')
      rw [hz] at I
      rw [hz'] at hf
      have Hf := Lib.hid hf
      have e0' : wr.cell? ⟨gl, o + j * 4, none⟩ = some (.int .i64 rk) := e0
      have e1' : wr.cell? ⟨gl, o + j * 4 + 1, none⟩ = some (.int .i64 ra) := e1
      clear hcell e0 e1 hx hz hz' hf hns' hcs'
      cases z with
      | true =>
        go_wp2_with (go_at_call 51; (with_reducible refine I.mono ?_); rintro e w5 ⟨rfl, hb5⟩)
        go_roundw
        case rel => exact ⟨j + 1, by omega, by go_num, (by have k1 := hb.trans (hal.mono hb.size); exact bchain k1 k1.size hb5), Hf.out⟩
        case measure => (simp [intOf] <;> omega)
      | false =>
        go_wp2_with (go_at_call 51; (with_reducible refine I.mono ?_); rintro e w5 ⟨rfl, hb5⟩)
        go_ret
        refine ⟨by rw [← HF.out, Hf.out]; simp, ?_⟩
        have k0 := bchain hbox hbox.size hb
        have k1 := bchain k0 k0.size hal
        exact bchain k1 k1.size hb5
    · obtain rfl : j = n := by omega
      rw [List.drop_eq_nil_of_le (by omega)] at hf
      have Hf := Lib.hid hf
      clear hf
      have d0 := keep_cell hb b0
      have d1 := keep_cell hb b1
      have d2 := keep_cell hb b2
      have hwr := bchain hbox hbox.size hb
      cases y with
      | true =>
        by_cases q : (j : Int) ≤ 64
        · go_wp2_with (go_at_call 32; refine (Act _).mono ?_; rintro e w1 ⟨rfl, hb1⟩; have d3 : w1.cell? ⟨w.heap.size, 2, none⟩ = some (.slice A j c) := keep_cell hb1 d2)
          go_ret
          exact ⟨by rw [← HF.out, Hf.out]; simp; omega, bchain hwr hwr.size hb1⟩
        · go_wp2_with (go_at_call 32; refine (Act _).mono ?_; rintro e w1 ⟨rfl, hb1⟩; have d3 : w1.cell? ⟨w.heap.size, 2, none⟩ = some (.slice A j c) := keep_cell hb1 d2)
          go_ret
          exact ⟨by rw [← HF.out, Hf.out]; simp; omega, bchain hwr hwr.size hb1⟩
      | false =>
        go_wp2_with (go_at_call 32; refine (Act _).mono ?_; rintro e w1 ⟨rfl, hb1⟩)
        go_ret
        exact ⟨by rw [← HF.out]; simp, bchain hwr hwr.size hb1⟩
end Go.Proofs.Ytjmmbadpknlmcaa
