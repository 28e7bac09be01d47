/- awake, light: the law's own small functions. Conditions: the nodes can be read. -/
import Derived.Test.YtnjpodbefcfdhaaDoorResolve
import Derived.Test.YtnjpodbefcfdhaaDoorNodesB
namespace Go.Proofs.YtnjpodbefcfdhaaDoor
open Go.RowKit
attribute [local go_sem ↓] Go.wp_at_zero Go.wp_at_succ
set_option linter.unusedVariables false
set_option linter.unusedSimpArgs false

theorem join_ne {ns : List (List UInt8)} (h : Good ns) (h0 : ns ≠ []) : joinL ns ≠ [47] := by
  cases ns with
  | nil => exact absurd rfl h0
  | cons n t =>
    have hn := h n (by simp)
    rw [join_cons]
    intro e
    injection e with _ e
    exact hn.1 (List.append_eq_nil_iff.1 e).1
theorem wrong_ok {A : List Nod} {ns : List (List UInt8)} {k : Int} {t : List UInt8} {y : Nod} (h : Good ns) (h0 : ns ≠ []) (ht : total ns ≤ 256) (hf : formB ⟨joinL ns, k, t⟩ = true)
    (h1 : findL A (joinL ns) = none) (h2 : findL A (joinL (ns.take (ns.length - 1))) = some y) (h3 : y.k = 2) : wrongN A ⟨joinL ns, k, t⟩ = 0 := by
  have hfine : fineN ⟨joinL ns, k, t⟩ = true := (fineN_form (x := ⟨joinL ns, k, t⟩) (right_join h ht) (by show cleanL (joinL ns) = joinL ns; unfold cleanL; rw [left_join h ht]) (join_ne h h0)).trans hf
  have hu : upL (joinL ns) = joinL (ns.take (ns.length - 1)) := up_join h ht
  exact (wrongN_some (x := ⟨joinL ns, k, t⟩) (y := y) hfine h1 (by show findL A (upL (joinL ns)) = _; rw [hu]; exact h2)).trans (if_pos h3)
def awL : List Nod := [⟨[47, 97], 2, []⟩, ⟨[47, 97, 47, 102], 1, []⟩, ⟨[47, 108], 3, [97]⟩]
theorem g1 : Good [[97]] := by
  intro n hn
  obtain rfl : n = [97] := (by simpa using hn)
  exact ⟨by decide, by decide, by decide, by decide, by decide⟩
theorem g2 : Good [[97], [102]] := by
  intro n hn
  simp at hn
  rcases hn with rfl | rfl <;> exact ⟨by decide, by decide, by decide, by decide, by decide⟩
theorem g3 : Good [[108]] := by
  intro n hn
  obtain rfl : n = [108] := (by simpa using hn)
  exact ⟨by decide, by decide, by decide, by decide, by decide⟩
theorem g4 : Good [[108], [102]] := by
  intro n hn
  simp at hn
  rcases hn with rfl | rfl <;> exact ⟨by decide, by decide, by decide, by decide, by decide⟩
theorem aw_ok : OkL awL := by
  intro k x hx
  match k, hx with
  | 0, hx => cases hx; exact wrong_ok (A := []) (ns := [[97]]) (y := rootN) g1 (by simp) (by decide) (by decide) (by rfl) (by rfl) (by decide)
  | 1, hx => cases hx; exact wrong_ok (A := awL.take 1) (ns := [[97], [102]]) (y := ⟨[47, 97], 2, []⟩) g2 (by simp) (by decide) (by decide) (by rfl) (by rfl) (by decide)
  | 2, hx => cases hx; exact wrong_ok (A := awL.take 2) (ns := [[108]]) (y := rootN) g3 (by simp) (by decide) (by rfl) (by rfl) (by rfl) (by decide)
  | k + 3, hx => simp [awL] at hx
theorem aw_check : checkV awL = (0, -1) := checkV_all (by decide) aw_ok
theorem aw_resolve : resolveV awL [47, 108, 47, 102] = ([47, 97, 47, 102], 1, 0) := by
  have hr : rightB [47, 108, 47, 102] = true := right_join g4 (by decide)
  have hn : namesL [47, 108, 47, 102] = [[108], [102]] := names_join g4 (by decide)
  have hp : partsL [97] = [[97]] := by
    unfold partsL
    rw [pieces_one [97] (by decide)]; rfl
  have f1 : findL awL (joinL ([] ++ [[108]])) = some ⟨[47, 108], 3, [97]⟩ := by rfl
  have f2 : findL awL (joinL ([] ++ [[97]])) = some ⟨[47, 97], 2, []⟩ := by rfl
  have f3 : findL awL (joinL (([] ++ [[97]]) ++ [[102]])) = some ⟨[47, 97, 47, 102], 1, []⟩ := by rfl
  unfold resolveV
  rw [aw_check, if_pos rfl, if_pos hr, hn, walkH_eq, walk1_link (by decide) f1 rfl]
  show walkH awL 7 (nextA [97] []) (partsL [97] ++ [[102]]) = _
  rw [hp, show nextA [97] [] = [] from rfl, walkH_eq]
  show walk1 awL _ [] [[97], [102]] = _
  rw [walk1_go (by decide) f2 (by decide) (by decide), walk1_go (by decide) f3 (by simp) (by decide)]
  have f4 : kindOf awL (joinL (([] ++ [[97]]) ++ [[102]])) = 1 := by rfl
  simp only [walk1]
  rw [f4]
  rfl

set_option maxRecDepth 100000 in
set_option maxHeartbeats 4000000 in
theorem awake_any (w : World) : Calls Tryd.prog 8 #[] w (Ret (.bool true) w) := by
  have R := fun v W h => resolve_any v awL (strL [47, 108, 47, 102]) W h (fun x hx => by
    unfold awL at hx
    simp at hx
    rcases hx with rfl | rfl | rfl <;> exact ⟨by decide, by decide⟩)
  simp only [strL_data, aw_resolve] at R
  have C := fun v W h => check_any v awL W h (fun x hx => by
    unfold awL at hx
    simp at hx
    rcases hx with rfl | rfl | rfl <;> exact ⟨by decide, by decide⟩)
  rw [aw_check] at C
  unfold resT at R
  unfold pairT at C
  simp only at R C
  have e1 : strL [47, 108, 47, 102] = ⟨#[47, 108, 47, 102]⟩ := rfl
  have e2 : strL [47, 97, 47, 102] = ⟨#[47, 97, 47, 102]⟩ := rfl
  rw [e1, e2] at R
  have hal := below_alloc w (.cells #[.string ⟨#[47, 97]⟩, .int .i64 2, .string ⟨#[]⟩, .string ⟨#[47, 97, 47, 102]⟩, .int .i64 1, .string ⟨#[]⟩, .string ⟨#[47, 108]⟩, .int .i64 3, .string ⟨#[97]⟩] 32)
  have hc := fun j v h => new_cell w #[.string ⟨#[47, 97]⟩, .int .i64 2, .string ⟨#[]⟩, .string ⟨#[47, 97, 47, 102]⟩, .int .i64 1, .string ⟨#[]⟩, .string ⟨#[47, 108]⟩, .int .i64 3, .string ⟨#[97]⟩] 32 j (v := v) h
  obtain ⟨wa, hwa⟩ : ∃ wa, w.alloc (.cells #[.string ⟨#[47, 97]⟩, .int .i64 2, .string ⟨#[]⟩, .string ⟨#[47, 97, 47, 102]⟩, .int .i64 1, .string ⟨#[]⟩, .string ⟨#[47, 108]⟩, .int .i64 3, .string ⟨#[97]⟩] 32) = wa := ⟨_, rfl⟩
  rw [hwa] at hal
  simp only [hwa] at hc
  have hN : NodesAt wa (.slice (some ⟨w.heap.size, 0, none⟩) 3 3) awL := ⟨_, 3, rfl, by decide, by decide, fun _ => ⟨_, 0, rfl, fun i x hx => by
    match i, hx with
    | 0, hx => cases hx; exact ⟨hc 0 _ rfl, hc 1 _ rfl, hc 2 _ rfl⟩
    | 1, hx => cases hx; exact ⟨hc 3 _ rfl, hc 4 _ rfl, hc 5 _ rfl⟩
    | 2, hx => cases hx; exact ⟨hc 6 _ rfl, hc 7 _ rfl, hc 8 _ rfl⟩
    | i + 3, hx => simp [awL] at hx⟩⟩
  have HN := Lib.hid hN
  have R0 := R _ wa hN
  clear hc hN R
  go_enter Tryd.func8, Tryd.ntmps8
  go_wp2_with (first
    | (go_at_call 10; refine R0.mono ?_; rintro e w1 ⟨rfl, hb1⟩)
    | (go_at_call 14; refine (C _ _ (HN.out.below hb1)).mono ?_; rintro e w2 ⟨rfl, hb2⟩))
  go_ret
  exact ⟨rfl, bchain (bchain hal hal.size hb1) (Nat.le_trans hal.size hb1.size) hb2⟩

def lightN (x : Nod) : Bool := decide ((x.p.length : Int) ≤ 400) && decide ((x.t.length : Int) ≤ 400)
def lightB (L : List Nod) : Bool := L.all lightN && decide ((L.length : Int) ≤ 70)
theorem all_at {p : Nod → Bool} {L : List Nod} {k : Nat} {x : Nod} (h : L[k]? = some x) : (L.drop k).all p = (p x && (L.drop (k + 1)).all p) := by
  have hl := (List.getElem?_eq_some_iff.1 h).1
  rw [List.drop_eq_getElem_cons hl, (List.getElem?_eq_some_iff.1 h).2]
  rfl
def LightRel (L : List Nod) (i : Value) : Prop := ∃ k : Nat, k ≤ L.length ∧ i = .int .i64 k ∧ L.all lightN = (L.drop k).all lightN
set_option maxRecDepth 100000 in
set_option maxHeartbeats 4000000 in
theorem light_any (v : Value) (L : List Nod) (w : World) (hN : NodesAt w v L) : Calls Tryd.prog 9 #[v] w (Same (.bool (lightB L)) w) := by
  obtain ⟨A, c, rfl, hlc, hc63, hcells⟩ := hN
  have Hcells := Lib.hid hcells
  obtain ⟨F, hF⟩ : ∃ F, lightB L = F := ⟨_, rfl⟩
  rw [hF]
  unfold lightB at hF
  obtain ⟨n, hn⟩ : ∃ n, L.length = n := ⟨_, rfl⟩
  rw [hn] at hF hlc ⊢
  have Hn := Lib.hid hn
  have HF := Lib.hid hF
  clear hcells hn hF
  have hn63 : (n : Int) ≤ 9223372036854775807 := by omega
  go_enter Tryd.func9, Tryd.ntmps9
  go_wp2
  go_loop [3] (fun i => LightRel L i) (fun i => n - (intOf i).toNat)
  case atStart => exact ⟨0, Nat.zero_le _, rfl, rfl⟩
  case round =>
    obtain ⟨k, hk, rfl, hf⟩ := hrel
    rw [Hn.out] at hk
    by_cases hlt : k < n
    · obtain ⟨gl, o, rfl, hcell⟩ := Hcells.out (by rw [Hn.out]; omega)
      obtain ⟨x, hx⟩ : ∃ x, L[k]? = some x := ⟨_, List.getElem?_eq_getElem (by rw [Hn.out]; exact hlt)⟩
      obtain ⟨e0, e1, e2⟩ := hcell k x hx
      rw [all_at hx] at hf
      have hlt' : (k : Int) < n := by omega
      obtain ⟨xp, xk, xt⟩ := x
      simp only at e0 e1 e2
      have sp : (strL xp).size = xp.length := strL_size xp
      have st : (strL xt).size = xt.length := strL_size xt
      obtain ⟨u, hu⟩ : ∃ u, strL xp = u := ⟨_, rfl⟩
      obtain ⟨t, ht⟩ : ∃ u, strL xt = u := ⟨_, rfl⟩
      rw [hu] at e0 sp
      rw [ht] at e2 st
      have hl2 : lightN ⟨xp, xk, xt⟩ = (decide ((u.size : Int) ≤ 400) && decide ((t.size : Int) ≤ 400)) := by unfold lightN; rw [sp, st]
      rw [hl2] at hf
      have Hf := Lib.hid hf
      clear hcell hx hu ht hf hl2 sp st
      by_cases h1 : (u.size : Int) ≤ 400
      · have d1 : decide (400 < (u.size : Int)) = false := by simp; omega
        have D1 : decide ((u.size : Int) ≤ 400) = true := decide_eq_true h1
        by_cases h2 : (t.size : Int) ≤ 400
        · have d2 : decide (400 < (t.size : Int)) = false := by simp; omega
          have D2 : decide ((t.size : Int) ≤ 400) = true := decide_eq_true h2
          have Hd := Lib.hid (show (decide ((u.size : Int) ≤ 400) && decide ((t.size : Int) ≤ 400)) = true by rw [D1, D2]; rfl)
          clear D1 D2
          go_wp2
          go_round
          case rel => exact ⟨k + 1, by rw [Hn.out]; omega, by go_num, by rw [Hf.out, Hd.out]; rfl⟩
          case measure => (simp [intOf] <;> omega)
        · have d2 : decide (400 < (t.size : Int)) = true := by simp; omega
          have Hd := Lib.hid (show (decide ((u.size : Int) ≤ 400) && decide ((t.size : Int) ≤ 400)) = false by rw [decide_eq_false h2]; simp)
          clear D1
          go_wp2
          go_ret
          exact ⟨by rw [← HF.out, Hf.out, Hd.out]; rfl, rfl⟩
      · have d1 : decide (400 < (u.size : Int)) = true := by simp; omega
        have Hd := Lib.hid (show (decide ((u.size : Int) ≤ 400) && decide ((t.size : Int) ≤ 400)) = false by rw [decide_eq_false h1]; rfl)
        go_wp2
        go_ret
        exact ⟨by rw [← HF.out, Hf.out, Hd.out]; rfl, rfl⟩
    · obtain rfl : k = n := by omega
      rw [List.drop_eq_nil_of_le (by rw [Hn.out]; exact Nat.le_refl _)] at hf
      have Hf := Lib.hid hf
      clear hf
      go_wp2
      go_ret
      exact ⟨by rw [← HF.out, Hf.out]; rfl, rfl⟩
end Go.Proofs.YtnjpodbefcfdhaaDoor
