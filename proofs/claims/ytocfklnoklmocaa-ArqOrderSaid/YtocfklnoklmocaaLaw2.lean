/- ArqOrder: it answers true. Conditions: the row can be read, its numbers are numbers. -/
import Derived.Test.YtocfklnoklmocaaLaw1
namespace Go.Proofs.Ytocfklnoklmocaa
open Go.RowKit
set_option linter.unusedVariables false
set_option linter.unusedSimpArgs false

def turnL (L : List Int) (t j : Nat) : List Int := (List.range j).map (fun i => L.getD ((i + t) % L.length) 0)
theorem turnL_succ (L : List Int) (t j : Nat) {x : Int} (h : L[(j + t) % L.length]? = some x) : turnL L t (j + 1) = turnL L t j ++ [x] := by
  unfold turnL
  rw [List.range_succ, List.map_append]
  simp [List.getD, h]
theorem mem_turnL {L : List Int} {t : Nat} (ht : t < L.length) {y : Int} : y ∈ turnL L t L.length ↔ y ∈ L := by
  unfold turnL
  rw [List.mem_map]
  constructor
  · rintro ⟨i, hi, rfl⟩
    have hlt : (i + t) % L.length < L.length := Nat.mod_lt _ (by omega)
    simp [List.getD, hlt]
  · intro hy
    obtain ⟨k, hk, rfl⟩ := List.mem_iff_getElem.1 hy
    by_cases h : t ≤ k
    · refine ⟨k - t, by simp; omega, ?_⟩
      have e : (k - t + t) % L.length = k := by rw [Nat.sub_add_cancel h, Nat.mod_eq_of_lt hk]
      rw [e]; simp [List.getD, hk]
    · refine ⟨k + L.length - t, by simp; omega, ?_⟩
      have e : (k + L.length - t + t) % L.length = k := by rw [Nat.sub_add_cancel (by omega), Nat.add_mod_right, Nat.mod_eq_of_lt hk]
      rw [e]; simp [List.getD, hk]
theorem nodup_seenL (L : List Int) : (seenL L).Nodup := by
  suffices h : ∀ (L acc : List Int), acc.Nodup → (L.foldl addL acc).Nodup from h L [] List.nodup_nil
  intro L
  induction L with
  | nil => intro acc h; exact h
  | cons a L ih =>
    intro acc h
    refine ih _ ?_
    unfold addL
    split
    · exact h
    · rename_i hn
      exact List.nodup_append.2 ⟨h, by simp, fun x hx y hy => by simp at hy; subst hy; exact fun e => hn (e ▸ hx)⟩
theorem turn_len {L : List Int} {t : Nat} (ht : t < L.length) : (seenL (turnL L t L.length)).length = (seenL L).length :=
  ((List.perm_ext_iff_of_nodup (nodup_seenL _) (nodup_seenL _)).2 fun x => by rw [mem_seenL, mem_seenL, mem_turnL ht]).length_eq

theorem order_early (lv : Value) (L : List Int) (tn : Int) (w : World) (hN : NumsAt w lv L) (h : (200 : Int) < L.length ∨ tn < 0 ∨ L.length = 0) : Calls Try.prog 4 #[lv, .int .i64 tn] w (Ret (.bool true) w) := by
  have A0 := awake_any w
  obtain ⟨A, c, rfl, hcl⟩ := hN
  obtain ⟨n, hn⟩ : ∃ n, L.length = n := ⟨_, rfl⟩
  rw [hn] at h ⊢
  clear hcl hn
  by_cases h1 : (200 : Int) < n
  · clear h
    go_enter Try.func4, Try.ntmps4
    go_wp2_with (go_at_call 8; refine A0.mono ?_; rintro e w1 ⟨rfl, hb1⟩)
    go_ret
    exact ⟨rfl, hb1⟩
  · have h1' : (n : Int) ≤ 200 := by omega
    by_cases h2 : tn < 0
    · clear h h1
      go_enter Try.func4, Try.ntmps4
      go_wp2_with (go_at_call 8; refine A0.mono ?_; rintro e w1 ⟨rfl, hb1⟩)
      go_ret
      exact ⟨rfl, hb1⟩
    · obtain rfl : n = 0 := by omega
      have h2' : 0 ≤ tn := by omega
      clear h h1 h2 h1'
      go_enter Try.func4, Try.ntmps4
      go_wp2_with (go_at_call 8; refine A0.mono ?_; rintro e w1 ⟨rfl, hb1⟩)
      go_ret
      exact ⟨rfl, hb1⟩

def OrdRel (n t : Nat) (L : List Int) (b1 b2 : Nat) (w1 : World) (nv mv iv : Value) (wr : World) : Prop :=
  ∃ (j : Nat) (M1 M2 : Option Nat), j ≤ n ∧ iv = .int .i64 j ∧ nv = .int .i64 (seenL (L.take j)).length ∧ mv = .int .i64 (seenL (turnL L t j)).length ∧ SeenAt wr b1 M1 (seenL (L.take j)) ∧ SeenAt wr b2 M2 (seenL (turnL L t j)) ∧
    (∀ B, M1 = some B → b2 < B) ∧ (∀ B, M2 = some B → b2 < B) ∧ (∀ B, M1 = some B → M2 = some B → False) ∧ Below w1.heap.size w1 wr

set_option maxRecDepth 100000 in
set_option maxHeartbeats 4000000 in
theorem order_late (lv : Value) (L : List Int) (tn : Nat) (w : World) (hN : NumsAt w lv L) (hU : ∀ x ∈ L, U64 x) (h200 : L.length ≤ 200) (h0 : 0 < L.length) (htn : (tn : Int) ≤ 9223372036854775807) : Calls Try.prog 4 #[lv, .int .i64 (tn : Int)] w (Ret (.bool true) w) := by
  have A0 := awake_any w
  obtain ⟨A, c, rfl, hcl⟩ := hN
  obtain ⟨g, o, rfl, hc⟩ := hcl h0
  have HU := Lib.hid hU
  have Hc := Lib.hid hc
  obtain ⟨t, ht⟩ : ∃ t, tn % L.length = t := ⟨_, rfl⟩
  have htl : t < L.length := by rw [← ht]; exact Nat.mod_lt _ h0
  have hfin := turn_len htl
  have Hfin := Lib.hid hfin
  obtain ⟨n, hn⟩ : ∃ n, L.length = n := ⟨_, rfl⟩
  rw [hn] at Hfin ht htl h200 h0 ⊢
  have hrem : (tn : Int).tmod (n : Int) = (t : Int) := by rw [← ht]; rfl
  have Hn := Lib.hid hn
  have h200' : (n : Int) ≤ 200 := by omega
  have hn0 : ((n : Int) == 0) = false := by simp; omega
  have htn0 : (0 : Int) ≤ tn := by omega
  have htl' : (t : Int) < n := by omega
  clear hcl hU hn hc ht hfin
  go_enter Try.func4, Try.ntmps4
  go_wp2_with (go_at_call 8; refine A0.mono ?_; rintro e w1 ⟨rfl, hb1⟩)
  have S1 := (SeenAt.new w1).below (below_alloc _ (.cells #[.map none] 26))
  have S2 := SeenAt.new (w1.alloc (.cells #[.map none] 26))
  rw [World.size_alloc] at S2
  have hba := (below_alloc w1 (.cells #[.map none] 26)).alloc (by simp) (.cells #[.map none] 26)
  have HS1 := Lib.hid S1
  have HS2 := Lib.hid S2
  have Hba := Lib.hid hba
  have Hb1 := Lib.hid hb1
  clear S1 S2 hba hb1
  go_loopw [8, 9, 10] (fun nv mv iv wr => OrdRel n t L w1.heap.size (w1.heap.size + 1) w1 nv mv iv wr) (fun _ _ iv _ => n - (intOf iv).toNat)
  case atStart => exact ⟨0, none, none, Nat.zero_le _, rfl, rfl, rfl, HS1.out, HS2.out, (fun B e => by cases e), (fun B e => by cases e), (fun B e => by cases e), Hba.out⟩
  case round =>
    obtain ⟨W, rfl⟩ : ∃ W : World, W = wr := ⟨wr, rfl⟩
    obtain ⟨j, M1, M2, hj, rfl, rfl, rfl, hS1, hS2, hM1, hM2, hM3, hb⟩ := hrel
    have HM1 := Lib.hid hM1
    have HM2 := Lib.hid hM2
    have HM3 := Lib.hid hM3
    have HB := Lib.hid hb
    have HS1 := Lib.hid hS1
    have HS2 := Lib.hid hS2
    have h1l := Nat.le_trans (len_seenL (L.take j)) (List.length_take_le _ _)
    have h2l := len_seenL (turnL L t j)
    have h2l' : (turnL L t j).length = j := by unfold turnL; simp
    by_cases hlt : j < n
    case neg =>
      obtain rfl : n = j := by omega
      have hall : L.take n = L := List.take_of_length_le (by rw [Hn.out]; exact Nat.le_refl _)
      have hA := many_any _ _ _ W hS1
      have hB := many_any _ _ _ W hS2
      obtain ⟨m, hm⟩ : ∃ m, (seenL L).length = m := ⟨_, rfl⟩
      have e1 : (seenL (L.take n)).length = m := by rw [hall, hm]
      have e2 : (seenL (turnL L t n)).length = m := by rw [Hfin.out, hm]
      rw [e1] at hA ⊢
      rw [e2] at hB ⊢
      clear hM1 hM2 hM3 hb hS1 hS2 h1l h2l h2l' hlt hall hm e1 e2
      go_wp2_with (first
        | (go_at_call 10; (with_reducible refine hA.mono ?_); rintro e w4 ⟨rfl, rfl⟩)
        | (go_at_call 10; (with_reducible refine hB.mono ?_); rintro e w4 ⟨rfl, rfl⟩))
      go_ret
      exact ⟨by simp, bchain Hb1.out Hb1.out.size HB.out⟩
    have hlt' : (j : Int) < n := by omega
    obtain ⟨x, hx⟩ : ∃ x, L[j]? = some x := ⟨_, List.getElem?_eq_getElem (by rw [Hn.out]; exact hlt)⟩
    obtain ⟨p, hp⟩ : ∃ p, (j + t) % n = p := ⟨_, rfl⟩
    have hpl : p < n := by rw [← hp]; exact Nat.mod_lt _ (by omega)
    obtain ⟨y, hy⟩ : ∃ y, L[p]? = some y := ⟨_, List.getElem?_eq_getElem (by rw [Hn.out]; exact hpl)⟩
    have hrem2 : ((j : Int) + (t : Int)).tmod (n : Int) = (p : Int) := by rw [← hp]; rfl
    have hcx : W.cell? ⟨g, o + j, none⟩ = some (.int .u64 x) := keep_cell HB.out (keep_cell Hb1.out (Hc.out j x hx))
    have hcy : W.cell? ⟨g, o + p, none⟩ = some (.int .u64 y) := keep_cell HB.out (keep_cell Hb1.out (Hc.out p y hy))
    have hgl : g < w1.heap.size := World.block_lt_of_cell? _ _ (keep_cell Hb1.out (Hc.out j x hx))
    have hts := take_snoc hx
    have htt := turnL_succ L t j (x := y) (by rw [Hn.out, hp]; exact hy)
    have hxU := HU.out x (List.mem_of_getElem? hx)
    have hyU := HU.out y (List.mem_of_getElem? hy)
    have hsx : seenL (L.take (j + 1)) = addL (seenL (L.take j)) x := by rw [hts, seenL_snoc]
    have hsy : seenL (turnL L t (j + 1)) = addL (seenL (turnL L t j)) y := by rw [htt, seenL_snoc]
    obtain ⟨s1, hs1⟩ : ∃ s, seenL (L.take j) = s := ⟨_, rfl⟩
    obtain ⟨s2, hs2⟩ : ∃ s, seenL (turnL L t j) = s := ⟨_, rfl⟩
    rw [hs1] at hsx HS1 h1l ⊢
    rw [hs2] at hsy HS2 h2l ⊢
    have hl1 := len_addL s1 x
    have hl2 := len_addL s2 y
    obtain ⟨m1, hm1⟩ : ∃ m, s1.length = m := ⟨_, rfl⟩
    obtain ⟨m2, hm2⟩ : ∃ m, s2.length = m := ⟨_, rfl⟩
    have TA := take_any _ M1 s1 x W hxU (by omega) HS1.out
    have TB := fun w3 h => take_any (w1.heap.size + 1) M2 s2 y w3 hyU (by omega) h
    unfold TakePost at TA TB
    have hl1' : (addL s1 x).length = if (!decide (x ∈ s1)) then m1 + 1 else m1 := by rw [hl1, hm1]; by_cases h : x ∈ s1 <;> simp [h]
    have hl2' : (addL s2 y).length = if (!decide (y ∈ s2)) then m2 + 1 else m2 := by rw [hl2, hm2]; by_cases h : y ∈ s2 <;> simp [h]
    obtain ⟨v1, hv1⟩ : ∃ v, (!decide (x ∈ s1)) = v := ⟨_, rfl⟩
    obtain ⟨v2, hv2⟩ : ∃ v, (!decide (y ∈ s2)) = v := ⟨_, rfl⟩
    rw [hv1] at TA hl1'
    simp only [hv2] at TB hl2'
    rw [hm1, hm2]
    have Hsx := Lib.hid hsx
    have Hsy := Lib.hid hsy
    have Hl1 := Lib.hid hl1'
    have Hl2 := Lib.hid hl2'
    have hm1b : m1 ≤ 200 := by omega
    have hm2b : m2 ≤ 200 := by omega
    have hpl' : (p : Int) < n := by omega
    have hp0 : (0 : Int) ≤ p := by omega
    clear hS1 hS2 hM1 hM2 hM3 hb h1l h2l h2l' hx hy hts htt hxU hyU hsx hsy hs1 hs2 hl1 hl2 hm1 hm2 hl1' hl2' hv1 hv2 hp
    cases v1 <;> cases v2 <;> (
      go_wp2_with (first
        | (go_at_call 9; (with_reducible refine TA.mono ?_); rintro e w3 ⟨rfl, B3, S3, hM3, u3⟩; have cy3 : w3.cell? ⟨g, o + p, none⟩ = some (.int .u64 y) := u3.cell (fun h => by
              rcases h with h | h
              · have h : g = w1.heap.size := h
                omega
              · have := HM1.out _ h; have : w1.heap.size + 1 < g := this; omega) hcy; have S3b := HS2.out.upto u3 (fun h => by
              rcases h with h | h
              · have h : w1.heap.size + 1 = w1.heap.size := h
                omega
              · have := HM1.out _ h; omega) (fun B hB h => by
              rcases h with h | h
              · have := HM2.out _ hB; have h : B = w1.heap.size := h; omega
              · exact HM3.out _ h hB))
        | (go_at_call 9; (with_reducible refine (TB _ S3b).mono ?_); rintro e w4 ⟨rfl, B4, S4, hM4, u4⟩))
      go_roundw
      case rel =>
        have l2 := HS2.out.1.lt
        have g3 : w1.heap.size + 1 < B3 := by
          rcases hM3 with h | h
          · exact HM1.out _ h
          · omega
        have sz3 := u3.size
        have g4 : w1.heap.size + 1 < B4 := by
          rcases hM4 with h | h
          · exact HM2.out _ h
          · omega
        have hbW := HB.out.size
        have ne : B3 ≠ B4 := by
          intro e
          rcases hM4 with h | h
          · rcases hM3 with h' | h'
            · exact HM3.out _ h' (by rw [e]; exact h)
            · have := (HS2.out.2.2 _ h).2.lt; omega
          · have := (S3.2.2 _ rfl).2.lt; omega
        have S5 := S3.upto u4 (fun h => by
          rcases h with h | h
          · have h : w1.heap.size = w1.heap.size + 1 := h
            omega
          · have := HM2.out _ h; omega) (fun B hB h => by
          cases hB
          rcases h with h | h
          · have h : B3 = w1.heap.size + 1 := h
            omega
          · rcases hM4 with h' | h'
            · rw [h] at h'; cases h'; exact ne rfl
            · rcases hM3 with h'' | h''
              · exact HM3.out _ h'' h
              · have := (HS2.out.2.2 _ h).2.lt; omega)
        refine ⟨j + 1, some B3, some B4, by omega, by go_num, by rw [Hsx.out, Hl1.out]; (first | rfl | go_num), by rw [Hsy.out, Hl2.out]; (first | rfl | go_num), by rw [Hsx.out]; exact S5, by rw [Hsy.out]; exact S4, fun B e => by cases e; exact g3, fun B e => by cases e; exact g4, fun B e e' => by cases e; cases e'; exact ne rfl, ?_⟩
        refine (HB.out.trans (u3.toBelow hbW (fun q hq => ?_))).trans (u4.toBelow (Nat.le_trans hbW sz3) (fun q hq => ?_))
        · rcases hq with h | h
          · rw [h]; exact Nat.le_refl _
          · have := HM1.out _ h; omega
        · rcases hq with h | h
          · rw [h]; omega
          · have := HM2.out _ h; omega
      case measure => (simp [intOf] <;> omega))
theorem law_order (lv : Value) (L : List Int) (tn : Int) (w : World) (hN : NumsAt w lv L) (hU : ∀ x ∈ L, U64 x) (htn : tn ≤ 9223372036854775807) : Calls Try.prog 4 #[lv, .int .i64 tn] w (Ret (.bool true) w) := by
  by_cases h : (200 : Int) < L.length ∨ tn < 0 ∨ L.length = 0
  · exact order_early lv L tn w hN h
  · simp only [not_or] at h
    obtain ⟨m, rfl⟩ : ∃ m : Nat, tn = m := ⟨tn.toNat, by omega⟩
    refine order_late lv L m w hN hU (by omega) (by omega) ?_
    omega
end Go.Proofs.Ytocfklnoklmocaa
