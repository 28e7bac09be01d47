/- The reference's Check: what is wrong with a tree. Condition: the nodes can be read. -/
import Derived.Test.YtnjpodbefcfdhaaDoorWrong
namespace Go.Proofs.YtnjpodbefcfdhaaDoor
open Go.RowKit
attribute [local go_sem ↓] Go.wp_at_zero Go.wp_at_succ
set_option linter.unusedVariables false
set_option linter.unusedSimpArgs false

def pairT (p : Int × Int) : Value := .tuple #[.int .i64 p.1, .int .i64 p.2]
def CheckRel (L : List Nod) (w : World) (i : Value) (wr : World) : Prop :=
  ∃ k : Nat, k ≤ L.length ∧ i = .int .i64 k ∧ Below w.heap.size w wr ∧ checkR [] L = checkR (L.take k) (L.drop k)
theorem drew_below (w : World) : Below w.heap.size w w.drew := (Below.refl _ w).drew

set_option maxRecDepth 100000 in
set_option maxHeartbeats 4000000 in
theorem ref_check_any (v : Value) (L : List Nod) (w : World) (hN : NodesAt w v L) : Calls Tryd.prog 20 #[v] w (Ret2 (pairT (checkV L)) w) := by
  have HN := Lib.hid hN
  obtain ⟨A, c, rfl, hlc, hc63, hcells⟩ := hN
  have Hcells := Lib.hid hcells
  obtain ⟨F, hF⟩ : ∃ F, checkV L = F := ⟨_, rfl⟩
  rw [hF]
  unfold checkV at hF
  obtain ⟨n, hn⟩ : ∃ n, L.length = n := ⟨_, rfl⟩
  rw [hn] at hF hlc HN ⊢
  have Hn := Lib.hid hn
  clear hcells hn
  by_cases h64 : 64 < n
  · rw [if_pos h64] at hF
    have h64' : (64 : Int) < n := by omega
    subst hF
    clear h64
    go_enter Tryd.func20, Tryd.ntmps20
    go_wp2
    go_ret2
    exact ⟨rfl, Below.refl _ _⟩
  · rw [if_neg h64] at hF
    have h64' : (n : Int) ≤ 64 := by omega
    have HF := Lib.hid hF
    clear h64 hF
    go_enter Tryd.func20, Tryd.ntmps20
    go_wp2
    go_loopw [4] (fun i wr => CheckRel L w i wr) (fun i _ => n - (intOf i).toNat)
    case atStart => exact ⟨0, Nat.zero_le _, rfl, Below.refl _ _, rfl⟩
    case round =>
      obtain ⟨k, hk, rfl, hb, hf⟩ := hrel
      rw [Hn.out] at hk
      by_cases hlt : k < n
      · obtain ⟨gl, o, rfl, hcell⟩ := Hcells.out (by rw [Hn.out]; omega)
        obtain ⟨x, hx⟩ : ∃ x, L[k]? = some x := ⟨_, List.getElem?_eq_getElem (by rw [Hn.out]; exact hlt)⟩
        obtain ⟨e0, e1, e2⟩ := (hcell k x hx).below hb
        rw [checkR_at hx] at hf
        have hlt' : (k : Int) < n := by omega
        have hk0 : (0 : Int) ≤ (k : Int) := by omega
        have hkn : (k : Int) ≤ (n : Int) := by omega
        have hkc : (k : Int) ≤ (c : Int) := by omega
        have hkc2 : k ≤ c := by omega
        have W := wrong_any (.slice (some ⟨gl, o, none⟩) k c) (L.take k) x wr.drew ((HN.out.below (bchain hb hb.size (drew_below wr))).take k (by rw [Hn.out]; omega)) (by simp; omega)
        obtain ⟨z, hz⟩ : ∃ z, wrongN (L.take k) x = z := ⟨_, rfl⟩
        rw [hz] at hf W
        unfold nodV at W
        obtain ⟨xp, xk, xt⟩ := x
        simp only at e0 e1 e2 W
        obtain ⟨u, hu⟩ : ∃ u, strL xp = u := ⟨_, rfl⟩
        obtain ⟨t, ht⟩ : ∃ t, strL xt = t := ⟨_, rfl⟩
        rw [hu] at e0 W
        rw [ht] at e2 W
        have Hf := Lib.hid hf
        clear hcell hx hz hu ht hf
        have hd := drew_below wr
        by_cases h0 : z = 0
        · subst h0
          go_wp2
          go_region_held3 (fun w' => w'.cell? ⟨gl, o + k * 3, none⟩ = some (.string u) ∧ w'.cell? ⟨gl, o + k * 3 + 1, none⟩ = some (.int .i64 xk) ∧ w'.cell? ⟨gl, o + k * 3 + 2, none⟩ = some (.string t))
            (refine ⟨?_, ?_, ?_⟩ <;> first | assumption | exact keep_cell hb7 (by assumption) | (show World.cell? wr _ = _; assumption)) (first | (go_at_call 32; refine W.mono ?_; rintro e w5 ⟨rfl, hb7⟩))
          go_wp2
          go_roundw
          case rel => exact ⟨k + 1, by rw [Hn.out]; omega, by go_num, bchain (bchain hb hb.size hd) (Nat.le_trans hb.size hd.size) hb7, by rw [Hf.out, if_pos trivial]⟩
          case measure => (simp [intOf] <;> omega)
        · have hz0 : (z == 0) = false := by simpa using h0
          go_wp2
          go_region_held3 (fun w' => w'.cell? ⟨gl, o + k * 3, none⟩ = some (.string u) ∧ w'.cell? ⟨gl, o + k * 3 + 1, none⟩ = some (.int .i64 xk) ∧ w'.cell? ⟨gl, o + k * 3 + 2, none⟩ = some (.string t))
            (refine ⟨?_, ?_, ?_⟩ <;> first | assumption | exact keep_cell hb7 (by assumption) | (show World.cell? wr _ = _; assumption)) (first | (go_at_call 32; refine W.mono ?_; rintro e w5 ⟨rfl, hb7⟩))
          go_wp2
          go_ret2
          exact ⟨by rw [← HF.out, Hf.out, if_neg h0]; rfl, bchain (bchain hb hb.size hd) (Nat.le_trans hb.size hd.size) hb7⟩
      · obtain rfl : k = n := by omega
        rw [List.drop_eq_nil_of_le (by rw [Hn.out]; exact Nat.le_refl _)] at hf
        have Hf := Lib.hid hf
        clear hf
        go_wp2
        go_ret2
        exact ⟨by rw [← HF.out, Hf.out]; simp [checkR, pairT], hb⟩
end Go.Proofs.YtnjpodbefcfdhaaDoor
