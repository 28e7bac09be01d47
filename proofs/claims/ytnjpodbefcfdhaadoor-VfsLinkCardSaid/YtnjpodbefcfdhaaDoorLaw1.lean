/- VfsResolves, VfsLeads: they answer true. Conditions: the nodes can be read; their strings are no longer than strings can be. -/
import Derived.Test.YtnjpodbefcfdhaaDoorAwake
namespace Go.Proofs.YtnjpodbefcfdhaaDoor
open Go.RowKit
attribute [local go_sem ↓] Go.wp_at_zero Go.wp_at_succ
set_option linter.unusedVariables false
set_option linter.unusedSimpArgs false

theorem light_len {L : List Nod} (h : lightB L = true) : L.length ≤ 70 := by
  unfold lightB at h
  simp only [Bool.and_eq_true, decide_eq_true_eq] at h
  omega
set_option maxRecDepth 100000 in
set_option maxHeartbeats 4000000 in
theorem resolves_early (nv : Value) (L : List Nod) (s : ByteArray) (w : World) (hN : NodesAt w nv L) (h : lightB L = false ∨ (1000 : Int) < (s.size : Int)) : Calls Tryd.prog 3 #[nv, .string s] w (Ret (.bool true) w) := by
  have A := awake_any
  have Lt := fun W hW => light_any nv L W hW
  have HN := Lib.hid hN
  obtain ⟨An, c, rfl⟩ := hN.form
  cases hl : lightB L with
  | false =>
    rw [hl] at Lt
    clear h hl hN
    go_enter Tryd.func3, Tryd.ntmps3
    go_wp2_with (first
      | (go_at_call 8; refine (A _).mono ?_; rintro e w1 ⟨rfl, hb1⟩)
      | (go_at_call 9; refine (Lt _ (HN.out.below hb1)).mono ?_; rintro e w2 ⟨rfl, rfl⟩))
    go_ret
    exact ⟨rfl, hb1⟩
  | true =>
    rw [hl] at Lt h
    have hlt : (1000 : Int) < (s.size : Int) := by simpa using h
    clear h hl hN
    go_enter Tryd.func3, Tryd.ntmps3
    go_wp2_with (first
      | (go_at_call 8; refine (A _).mono ?_; rintro e w1 ⟨rfl, hb1⟩)
      | (go_at_call 9; refine (Lt _ (HN.out.below hb1)).mono ?_; rintro e w2 ⟨rfl, rfl⟩))
    go_ret
    exact ⟨rfl, hb1⟩
set_option maxRecDepth 100000 in
set_option maxHeartbeats 4000000 in
theorem resolves_late (nv : Value) (L : List Nod) (s : ByteArray) (w : World) (hN : NodesAt w nv L) (hS : ∀ x ∈ L, SizedN x) (hl : lightB L = true) (hs : (s.size : Int) ≤ 1000) : Calls Tryd.prog 3 #[nv, .string s] w (Ret (.bool true) w) := by
  have A := awake_any
  have Lt := fun W hW => light_any nv L W hW
  have R1 := fun W hW => resolve_any nv L s W hW hS
  have R2 := fun W hW => ref_resolve_any nv L s W hW (by have := light_len hl; omega)
  have HN := Lib.hid hN
  obtain ⟨An, c, rfl⟩ := hN.form
  rw [hl] at Lt
  obtain ⟨r, hr⟩ : ∃ r, resolveV L s.data.toList = r := ⟨_, rfl⟩
  rw [hr] at R1 R2
  obtain ⟨p, k, e0⟩ := r
  unfold resT at R1 R2
  simp only at R1 R2
  have tp : (strL p).toList = p := ByteArray.toList_eq _
  obtain ⟨u, hu⟩ : ∃ u, strL p = u := ⟨_, rfl⟩
  rw [hu] at R1 R2 tp
  have hE : (p == p) = true := by simp
  have hk : (k == k) = true := by simp
  have he : (e0 == e0) = true := by simp
  clear hl hN hr hu hS
  go_enter Tryd.func3, Tryd.ntmps3
  go_wp2_with (first
    | (go_at_call 8; refine (A _).mono ?_; rintro e w1 ⟨rfl, hb1⟩)
    | (go_at_call 9; refine (Lt _ (HN.out.below hb1)).mono ?_; rintro e w2 ⟨rfl, rfl⟩)
    | (go_at_call 10; refine (R1 _ (HN.out.below hb1)).mono ?_; rintro e w3 ⟨rfl, hb3⟩; have k3 := bchain hb1 hb1.size hb3)
    | (go_at_call 11; refine (R2 _ (HN.out.below k3)).mono ?_; rintro e w4 ⟨rfl, hb4⟩; have k4 := bchain k3 k3.size hb4))
  go_ret
  exact ⟨rfl, k4⟩
theorem law_resolves (nv : Value) (L : List Nod) (s : ByteArray) (w : World) (hN : NodesAt w nv L) (hS : ∀ x ∈ L, SizedN x) : Calls Tryd.prog 3 #[nv, .string s] w (Ret (.bool true) w) := by
  by_cases h : lightB L = false ∨ (1000 : Int) < (s.size : Int)
  · exact resolves_early nv L s w hN h
  · simp only [not_or, Bool.not_eq_false] at h
    exact resolves_late nv L s w hN hS h.1 (by omega)
set_option maxRecDepth 100000 in
set_option maxHeartbeats 4000000 in
theorem leads_early (nv : Value) (L : List Nod) (s : ByteArray) (w : World) (hN : NodesAt w nv L) (h : lightB L = false ∨ (1000 : Int) < (s.size : Int)) : Calls Tryd.prog 4 #[nv, .string s] w (Ret (.bool true) w) := by
  have A := awake_any
  have Lt := fun W hW => light_any nv L W hW
  have HN := Lib.hid hN
  obtain ⟨An, c, rfl⟩ := hN.form
  cases hl : lightB L with
  | false =>
    rw [hl] at Lt
    clear h hl hN
    go_enter Tryd.func4, Tryd.ntmps4
    go_wp2_with (first
      | (go_at_call 8; refine (A _).mono ?_; rintro e w1 ⟨rfl, hb1⟩)
      | (go_at_call 9; refine (Lt _ (HN.out.below hb1)).mono ?_; rintro e w2 ⟨rfl, rfl⟩))
    go_ret
    exact ⟨rfl, hb1⟩
  | true =>
    rw [hl] at Lt h
    have hlt : (1000 : Int) < (s.size : Int) := by simpa using h
    clear h hl hN
    go_enter Tryd.func4, Tryd.ntmps4
    go_wp2_with (first
      | (go_at_call 8; refine (A _).mono ?_; rintro e w1 ⟨rfl, hb1⟩)
      | (go_at_call 9; refine (Lt _ (HN.out.below hb1)).mono ?_; rintro e w2 ⟨rfl, rfl⟩))
    go_ret
    exact ⟨rfl, hb1⟩
set_option maxRecDepth 100000 in
set_option maxHeartbeats 8000000 in
theorem leads_late (nv : Value) (L : List Nod) (s : ByteArray) (w : World) (hN : NodesAt w nv L) (hS : ∀ x ∈ L, SizedN x) (hl : lightB L = true) (hs : (s.size : Int) ≤ 1000) : Calls Tryd.prog 4 #[nv, .string s] w (Ret (.bool true) w) := by
  have A := awake_any
  have Lt := fun W hW => light_any nv L W hW
  have R1 := fun W hW => resolve_any nv L s W hW hS
  have R2 := fun q W hW => resolve_any nv L q W hW hS
  have Fd := fun q W hW => find_any nv L q W hW (by have := light_len hl; omega)
  have HN := Lib.hid hN
  obtain ⟨An, c, rfl⟩ := hN.form
  rw [hl] at Lt
  have bad := leads_bad (L := L) (p := s.data.toList)
  have good : ∀ a k, resolveV L s.data.toList = (a, k, 0) → _ := fun a k h => leads_plain h
  obtain ⟨r, hr⟩ : ∃ r, resolveV L s.data.toList = r := ⟨_, rfl⟩
  rw [hr] at R1 bad
  simp only [hr] at good
  obtain ⟨p, k, e0⟩ := r
  unfold resT at R1
  simp only at R1 bad
  by_cases h0 : e0 = 0
  · subst h0
    obtain ⟨⟨hrb, hcl⟩, hself, ⟨x, hx, hxk⟩, hkk⟩ := good p k rfl
    have C := clean_any (strL p)
    rw [strL_data] at C
    unfold cleanV at C
    rw [hrb, if_pos rfl, hcl] at C
    have R3 := R2 (strL p)
    rw [strL_data, hself] at R3
    unfold resT at R3
    simp only at R3
    have Fx := Fd p
    rw [hx] at Fx
    unfold findV nodV at Fx
    obtain ⟨xp, xk, xt⟩ := x
    simp only at Fx hxk
    subst hxk
    have tp : (strL p).toList = p := ByteArray.toList_eq _
    obtain ⟨u, hu⟩ : ∃ u, strL p = u := ⟨_, rfl⟩
    obtain ⟨xps, hxps⟩ : ∃ u, strL xp = u := ⟨_, rfl⟩
    obtain ⟨xts, hxts⟩ : ∃ u, strL xt = u := ⟨_, rfl⟩
    rw [hu] at R1 C R3 tp
    simp only [hu, hxps, hxts] at Fx
    have hE : (p == p) = true := by simp
    have hk : (xk == xk) = true := by simp
    have hk12 : ((xk == 1) || (xk == 2)) = true := by rcases hkk with h | h <;> rw [h] <;> rfl
    clear hl hN hr hu hS good bad R2 Fd hrb hcl hself hx hxps hxts
    rcases hkk with rfl | rfl
    all_goals
      go_enter Tryd.func4, Tryd.ntmps4
      go_wp2_with (first
        | (go_at_call 8; refine (A _).mono ?_; rintro e w1 ⟨rfl, hb1⟩)
        | (go_at_call 9; refine (Lt _ (HN.out.below hb1)).mono ?_; rintro e w2 ⟨rfl, rfl⟩)
        | (go_at_call 10; (with_reducible refine (R1 _ (HN.out.below hb1)).mono ?_); rintro e w3 ⟨rfl, hb3⟩; have k3 := bchain hb1 hb1.size hb3)
        | (go_at_call 12; refine (C _).mono ?_; rintro e w4 ⟨rfl, hb4⟩; have k4 := bchain k3 k3.size hb4)
        | (go_at_call 10; (with_reducible refine (R3 _ (HN.out.below k4)).mono ?_); rintro e w5 ⟨rfl, hb5⟩; have k5 := bchain k4 k4.size hb5)
        | (go_at_call 13; (with_reducible refine (Fx _ (HN.out.below k5)).mono ?_); rintro e w6 ⟨rfl, hb6⟩; have k6 := bchain k5 k5.size hb6))
      go_ret
      exact ⟨rfl, k6.alloc k6.size _⟩
  · obtain ⟨b1, b2⟩ := bad h0
    subst b1 b2
    have e1 : strL [] = ⟨#[]⟩ := rfl
    rw [e1] at R1
    have hE0 : (e0 == 0) = false := by simpa using h0
    clear hl hN hr hS good bad R2 Fd h0
    go_enter Tryd.func4, Tryd.ntmps4
    go_wp2_with (first
      | (go_at_call 8; refine (A _).mono ?_; rintro e w1 ⟨rfl, hb1⟩)
      | (go_at_call 9; refine (Lt _ (HN.out.below hb1)).mono ?_; rintro e w2 ⟨rfl, rfl⟩)
      | (go_at_call 10; (with_reducible refine (R1 _ (HN.out.below hb1)).mono ?_); rintro e w3 ⟨rfl, hb3⟩; have k3 := bchain hb1 hb1.size hb3))
    go_ret
    exact ⟨rfl, k3⟩
theorem law_leads (nv : Value) (L : List Nod) (s : ByteArray) (w : World) (hN : NodesAt w nv L) (hS : ∀ x ∈ L, SizedN x) : Calls Tryd.prog 4 #[nv, .string s] w (Ret (.bool true) w) := by
  by_cases h : lightB L = false ∨ (1000 : Int) < (s.size : Int)
  · exact leads_early nv L s w hN h
  · simp only [not_or, Bool.not_eq_false] at h
    exact leads_late nv L s w hN hS h.1 (by omega)
end Go.Proofs.YtnjpodbefcfdhaaDoor
