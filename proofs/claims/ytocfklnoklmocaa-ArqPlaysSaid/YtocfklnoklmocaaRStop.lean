/- Stop of the document's timers, where there is one. Conditions: they can be read; they are no more than a million. -/
import Derived.Test.YtocfklnoklmocaaRef
import Derived.Deep.RegionLaw
import Derived.BigRegion
import Derived.Deep.DeepCutAuto
import Derived.Outline
namespace Go.Proofs.Ytocfklnoklmocaa
open Go.RowKit
set_option linter.unusedVariables false
set_option linter.unusedSimpArgs false

theorem src_take {w : World} {g n cap i : Nat} {xs : List Value} (hc : ∀ (j : Nat) u, xs[j]? = some u → w.cell? ⟨g, j, none⟩ = some u) (h1 : ∀ u ∈ xs, u.oneCell' = true) (hi : i ≤ xs.length) : SrcAt w 1 (some ⟨g, 0, none⟩) i (xs.take i) := by
  refine ⟨by simp; omega, fun h0 => ⟨g, 0, rfl, fun j u hu => ?_⟩, fun u hu => h1 u (List.mem_of_mem_take hu)⟩
  rw [Nat.zero_add]
  have hj : j < i := by have := (List.getElem?_eq_some_iff.1 hu).1; simp at this; omega
  rw [List.getElem?_take_of_lt hj] at hu
  exact hc j u hu
theorem src_drop {w : World} {g n i : Nat} {xs : List Value} {A : Option Addr} (hc : ∀ (j : Nat) u, xs[j]? = some u → w.cell? ⟨g, j, none⟩ = some u) (h1 : ∀ u ∈ xs, u.oneCell' = true) (hn : xs.length = n) (hA : i + 1 < n → A = some ⟨g, i + 1, none⟩) : SrcAt w 1 A (n - (i + 1)) (xs.drop (i + 1)) := by
  refine ⟨by simp; omega, fun h0 => ⟨g, i + 1, hA (by omega), fun j u hu => ?_⟩, fun u hu => h1 u (List.mem_of_mem_drop hu)⟩
  rw [List.getElem?_drop] at hu
  exact hc _ u hu
theorem one_U (l : List Int) : ∀ u ∈ U l, u.oneCell' = true := fun u hu => by
  unfold U at hu
  obtain ⟨x, _, rfl⟩ := List.mem_map.1 hu
  rfl
theorem one_I (l : List Int) : ∀ u ∈ I l, u.oneCell' = true := fun u hu => by
  unfold I at hu
  obtain ⟨x, _, rfl⟩ := List.mem_map.1 hu
  rfl

theorem frozen_keep {w w1 : World} (hb : Below w.heap.size w w1) {a : Addr} {v : Value} (h : w.cell? a = some v) (hz : w.frozen? a = false) : w1.frozen? a = false := by
  have hl := World.block_lt_of_cell? w a h
  unfold World.frozen? at *
  rw [hb.block a.block hl]
  exact hz
/-- Between the two stores of Stop. -/
def MidStop (w wx : World) (b : Nat) (e : Int) (vL : Value) (n : Nat) (xs : List Value) : Prop :=
  ∃ vI, Trio wx b (.int .i64 e) vI vL ∧ wx.ownsRow (b + 1) 27 1 vI n xs ∧ Upto (fun k => k = b) w wx
theorem mid_of {w w6 : World} {b n c6 : Nat} {e : Int} {vI vL : Value} {A6 : Option Addr} {xs : List Value} (hT : Trio w b (.int .i64 e) vI vL) (k : Below w.heap.size w w6) (ho : w6.ownsRow (b + 1) 27 1 (.slice A6 n c6) n xs) (hb : b < w.heap.size) :
    MidStop w (w6.setCell ⟨b, 1, none⟩ (.slice A6 n c6)) b e vL n xs :=
  ⟨_, (hT.below k).set1 _, ownsRow_setCell_below ho (Nat.lt_succ_self b) _, Upto.setCell (S := fun k => k = b) (below_upto k) (p := ⟨b, 1, none⟩) (.inl rfl) _⟩
theorem stop_close {w wc w6 : World} {b m c6 : Nat} {e : Int} {vI vL : Value} {A6 : Option Addr} {xs ys : List Value} {ii ll : List Int} (hq : ∀ k, (Value.slice A6 m c6).ownBlock = some k → wc.heap.size ≤ k) (hT : Trio wc b (.int .i64 e) vI vL) (hI : wc.ownsRow (b + 1) 27 1 vI m xs) (hU : Upto (fun k => k = b) w wc) (k : Below wc.heap.size wc w6)
    (ho : w6.ownsRow (b + 1) 3 1 (.slice A6 m c6) m ys) (hb : b < w.heap.size) (hxs : xs = U ii) (hys : ys = I ll) (hm : ii.length = m) (hm2 : ll.length = m) :
    RefAt (w6.setCell ⟨b, 2, none⟩ (.slice A6 m c6)) b e ii ll ∧ Below b w (w6.setCell ⟨b, 2, none⟩ (.slice A6 m c6)) := by
  subst hxs hys
  refine ⟨⟨_, _, (hT.below k).set2 _, hm.trans hm2.symm, ?_, ?_, fun k h1 h2 => ?_⟩, ?_⟩
  · rw [hm]; exact ownsRow_setCell_below (upto_row hI (below_upto (S := fun _ => False) k) (fun _ h => h.elim)) (Nat.lt_succ_self b) _
  · rw [hm2]; exact ownsRow_setCell_below ho (Nat.lt_succ_self b) _
  · have := (own_lt hI h1).1; have := hq k h2; omega
  · exact (Upto.setCell (S := fun k => k = b) (hU.below k) (p := ⟨b, 2, none⟩) (.inl rfl) _).toBelow (Nat.le_of_lt hb) (fun k hk => by have hk : k = b := hk; omega)
theorem mapcut {α β : Type} (f : α → β) (l : List α) (i : Nat) : (l.map f).take i ++ (l.map f).drop (i + 1) = (l.take i ++ l.drop (i + 1)).map f := by
  rw [List.map_append, List.map_take, List.map_drop]
theorem below_alloc_drew (w : World) (o : Obj) : Below w.heap.size w (w.alloc o).drew := (below_alloc w o).drew
theorem owns_form {w : World} {b e size n : Nat} {v : Value} {xs : List Value} (h : w.ownsRow b e size v n xs) : ∃ A c, v = .slice A n c := by
  rcases h.2 with ⟨rfl, h0⟩ | ⟨g, cap, cur, rfl, _⟩
  · exact ⟨none, 0, by rw [h0]⟩
  · exact ⟨_, _, rfl⟩
set_option maxRecDepth 100000 in
set_option maxHeartbeats 8000000 in
theorem rstop_some (b : Nat) (e x : Int) (ids lefts : List Int) (i : Nat) (w : World) (hN : ids.length ≤ 1000000) (hi : ids[i]? = some x) (hb4 : ∀ (j : Nat) y, j < i → ids[j]? = some y → y ≠ x) (h : RefAt w b e ids lefts) :
    Calls Try.prog 16 #[.pointer (some ⟨b, 0, none⟩), .int .u64 x] w (fun en w' => en = .returned (.bool true) ∧ RefAt w' b e (ids.take i ++ ids.drop (i + 1)) (lefts.take i ++ lefts.drop (i + 1)) ∧ Below b w w') := by
  obtain ⟨vI, vL, hT, hl, hI, hL, hA⟩ := h
  obtain ⟨n, hn⟩ : ∃ n, ids.length = n := ⟨_, rfl⟩
  have hin : i < n := by rw [← hn]; exact (List.getElem?_eq_some_iff.1 hi).1
  rw [← hl] at hL
  rw [hn] at hI hL hN
  obtain ⟨g, cap, rfl, hg1, hg2, hcap, hc, hfz⟩ := own_cell hI (by omega)
  obtain ⟨g2, cap2, rfl, hg3, hg4, hcap2, hc2, hfz2⟩ := own_cell hL (by omega)
  have c1 := hT.c1
  have c2 := hT.c2
  have z1 := hT.fz 1
  have z2 := hT.fz 2
  have hbl := hT.lt
  have HT := Lib.hid hT
  have HI := Lib.hid hI
  have HL := Lib.hid hL
  have Hc := Lib.hid hc
  have Hc2 := Lib.hid hc2
  have Hn := Lib.hid hn
  have Hl := Lib.hid hl
  have Hi := Lib.hid hi
  have Hb4 := Lib.hid hb4
  obtain ⟨i0, hi0, hz0, hz1, hz2⟩ := info_parts info27
  obtain ⟨i3, hi3, hy0, hy1, hy2⟩ := info_parts info3
  clear hT hl hI hL hA hn hc hc2 hi hb4 hfz hfz2
  go_enter Try.func16, Try.ntmps16
  go_wp2
  go_loopw [5] (fun iv wr => ∃ j : Nat, j ≤ i ∧ iv = .int .i64 j ∧ wr = w) (fun iv _ => i + 1 - (intOf iv).toNat)
  case atStart => exact ⟨0, Nat.zero_le _, rfl, rfl⟩
  case round =>
    obtain ⟨j, hj, rfl, hwr⟩ := hrel
    subst hwr
    have hjn : (j : Int) < n := by omega
    obtain ⟨y, hy⟩ : ∃ y, ids[j]? = some y := ⟨_, List.getElem?_eq_getElem (by rw [Hn.out]; omega)⟩
    have hcy := Hc.out j (.int .u64 y) (by unfold U; rw [List.getElem?_map, hy]; rfl)
    by_cases hlt : j < i
    · have hne : (y == x) = false := by simpa using Hb4.out j y hlt hy
      clear hy
      go_wp2
      go_roundw
      case rel => exact ⟨j + 1, by omega, by go_num, trivial⟩
      case measure => (simp [intOf] <;> omega)
    · obtain rfl : j = i := by omega
      obtain rfl : y = x := by rw [Hi.out] at hy; cases hy; rfl
      have hE : (y == y) = true := by simp
      have hjc : (j : Int) ≤ cap := by omega
      have hjc1 : (j : Int) + 1 ≤ n := by omega
      have hjc2 : (j : Int) + 1 ≤ cap := by omega
      have hnc : (n : Int) ≤ cap := by omega
      clear hy hlt
      obtain ⟨ad, had⟩ : ∃ ad, (if cap = j + 1 then some (⟨g, 0, none⟩ : Addr) else some ⟨g, j + 1, none⟩) = some ad := by
        by_cases h1 : cap = j + 1
        · exact ⟨_, by rw [if_pos h1]⟩
        · exact ⟨_, by rw [if_neg h1]⟩
      obtain ⟨ad2, had2⟩ : ∃ ad, (if cap2 = j + 1 then some (⟨g2, 0, none⟩ : Addr) else some ⟨g2, j + 1, none⟩) = some ad := by
        by_cases h1 : cap2 = j + 1
        · exact ⟨_, by rw [if_pos h1]⟩
        · exact ⟨_, by rw [if_neg h1]⟩
      have hjp1 : (0 : Int) ≤ (j : Int) + 1 := by omega
      have hjd : (j : Int) ≤ cap2 := by omega
      have hnd : (n : Int) ≤ cap2 := by omega
      go_wp2
      go_cut [] from 6 to 61 (fun wx => MidStop wr wx b e (.slice (some ⟨g2, 0, none⟩) n cap2) (j + (n - (j + 1))) ((U ids).take j ++ (U ids).drop (j + 1)))
      case first =>
        have hsa5 : ∀ W, Below wr.heap.size wr W → SrcAt W 1 (some ⟨g, 0, none⟩) j ((U ids).take j) := fun W hW => (src_take (n := n) (cap := cap) Hc.out (one_U ids) (by unfold U; rw [List.length_map, Hn.out]; omega)).below hW
        have hsb5 : ∀ W, Below wr.heap.size wr W → SrcAt W 1 (some ad) (n - (j + 1)) ((U ids).drop (j + 1)) := fun W hW => (src_drop Hc.out (one_U ids) (by unfold U; rw [List.length_map, Hn.out]) (fun h => by rw [← had, if_neg (by omega)])).below hW
        have HSa5 := Lib.hid hsa5
        have HSb5 := Lib.hid hsb5
        have HBA5 := Lib.hid (below_alloc_drew wr (.cells #[] 27))
        have HP5 : Hid ((wr.alloc (.cells #[] 27)).drew.heap[wr.heap.size]? = some (.cells #[] 27 (0, 0))) := Lib.hid (World.alloc_heap_new wr _)
        clear hsa5 hsb5
        have hwr : IntKind.i64.wrap ((j : Int) + 1) = (j : Int) + 1 := IntWalk.i64_in _ (by omega)
        go_region_law (first
            | (refine step_append_src _ (by rfl) (Operand.tmp 25) (Operand.tmp 31) _ (by rfl) (b + 1) 27 i0 (.int .u64 0) 1 8 under22 hi0 hz0 hz1 hz2 rfl (by decide) (.slice (some ⟨wr.heap.size, 0, none⟩) 0 0) 0 [] (by rfl) (own_empty (by omega) HP5.out) (some ⟨g, 0, none⟩) j cap ((U ids).take j) (by rfl) (HSa5.out _ (by first | exact HBA5.out | exact HBA5.out.drew | exact HBA5.out.drew.drew)) (by unfold maxLen; omega) (by omega) (Nat.le_trans (show b + 1 ≤ wr.heap.size by omega) HBA5.out.size) ?_; intro v5 w5 hown5 hgrow5 hat5; rw [Nat.zero_add, List.nil_append] at hown5; obtain ⟨A5, c5, rfl⟩ := owns_form hown5; have k5 : Below wr.heap.size wr w5 := (show Below wr.heap.size wr _ from (by first | exact HBA5.out | exact HBA5.out.drew | exact HBA5.out.drew.drew)).grown hgrow5 HBA5.out.size (fun k e => by cases e; exact Nat.le_refl _); have d5 := keep_cell k5 c1; have Hown5 := Lib.hid hown5; have Hat5 := Lib.hid hat5; have K5 := Lib.hid k5; clear hown5 hat5 hgrow5 k5)
            | (refine step_append_src _ (by rfl) (Operand.tmp 32) (Operand.tmp 39) _ (by rfl) (b + 1) 27 i0 (.int .u64 0) 1 8 under22 hi0 hz0 hz1 hz2 rfl (by decide) (.slice A5 j c5) j ((U ids).take j) (by rfl) Hown5.out (some ad) (n - (j + 1)) (cap - (j + 1)) ((U ids).drop (j + 1)) (by rfl) (HSb5.out _ (by first | exact K5.out | exact K5.out.drew | exact K5.out.drew.drew)) (by unfold maxLen; omega) (by omega) (Nat.le_trans (show b + 1 ≤ wr.heap.size by omega) K5.out.size) ?_; intro v6 w6 hown6 hgrow6 hat6; obtain ⟨A6, c6, rfl⟩ := owns_form hown6; have k6 : Below wr.heap.size wr w6 := (show Below wr.heap.size wr _ from (by first | exact K5.out | exact K5.out.drew | exact K5.out.drew.drew)).grown hgrow6 K5.out.size (fun k e => by rcases Hat5.out with h | h; (rw [h] at e; cases e; exact Nat.le_refl _); (rw [h] at e; cases e; exact HBA5.out.size)); have d6 := keep_cell k6 c1; have f6 := frozen_keep k6 c1 z1; have q6 : ∀ k, (Value.slice A6 (j + (n - (j + 1))) c6).ownBlock = some k → wr.heap.size ≤ k := (fun k e => by rcases hat6 with h | h; (rw [h] at e; rcases Hat5.out with h2 | h2; (rw [h2] at e; cases e; exact Nat.le_refl _); (rw [h2] at e; cases e; exact HBA5.out.size)); (rw [h] at e; cases e; exact K5.out.size)); have Q6 := Lib.hid q6; have Hown6 := Lib.hid hown6; have K6 := Lib.hid k6; clear hown6 hat6 hgrow6 k6 q6)
            | fail)
        all_goals
          go_wp2
          go_meet
          case rel => exact mid_of HT.out K6.out Hown6.out (by omega)
      case rest =>
        obtain ⟨vI, hT2, hI2, hU2⟩ := hcut
        have cm2 := hT2.c2
        have zm2 := hT2.fz 2
        have hbl2 := hT2.lt
        have Hl2 : Hid (lefts.length = n) := Lib.hid (by rw [← Hl.out, Hn.out])
        have Hm2 : Hid (∀ (j : Nat) u, (I lefts)[j]? = some u → wc.cell? ⟨g2, j, none⟩ = some u) := Lib.hid (fun j u hu => hU2.cell (show ¬ g2 = b by omega) (Hc2.out j u hu))
        have HT2 := Lib.hid hT2
        have HI2 := Lib.hid hI2
        have HU2 := Lib.hid hU2
        clear hT2 hI2 hU2 c1 c2 z1 z2
        go_wp2
        have hwr : IntKind.i64.wrap ((j : Int) + 1) = (j : Int) + 1 := IntWalk.i64_in _ (by omega)
        have hsa8 : ∀ W, Below wc.heap.size wc W → SrcAt W 1 (some ⟨g2, 0, none⟩) j ((I lefts).take j) := fun W hW => (src_take (n := n) (cap := cap2) Hm2.out (one_I lefts) (by unfold I; rw [List.length_map, Hl2.out]; omega)).below hW
        have hsb8 : ∀ W, Below wc.heap.size wc W → SrcAt W 1 (some ad2) (n - (j + 1)) ((I lefts).drop (j + 1)) := fun W hW => (src_drop Hm2.out (one_I lefts) (by unfold I; rw [List.length_map, Hl2.out]) (fun h => by rw [← had2, if_neg (by omega)])).below hW
        have HSa8 := Lib.hid hsa8
        have HSb8 := Lib.hid hsb8
        have HBA8 := Lib.hid (below_alloc_drew wc (.cells #[] 3))
        have HP8 : Hid ((wc.alloc (.cells #[] 3)).drew.heap[wc.heap.size]? = some (.cells #[] 3 (0, 0))) := Lib.hid (World.alloc_heap_new wc _)
        clear hsa8 hsb8
        go_region_law (first
            | (refine step_append_src _ (by rfl) (Operand.tmp 44) (Operand.tmp 50) _ (by rfl) (b + 1) 3 i3 (.int .i64 0) 1 8 under46 hi3 hy0 hy1 hy2 rfl (by decide) (.slice (some ⟨wc.heap.size, 0, none⟩) 0 0) 0 [] (by rfl) (own_empty (by omega) HP8.out) (some ⟨g2, 0, none⟩) j cap2 ((I lefts).take j) (by rfl) (HSa8.out _ (by first | exact HBA8.out | exact HBA8.out.drew | exact HBA8.out.drew.drew)) (by unfold maxLen; omega) (by omega) (Nat.le_trans (show b + 1 ≤ wc.heap.size by omega) HBA8.out.size) ?_; intro v5 w5 hown5 hgrow5 hat5; rw [Nat.zero_add, List.nil_append] at hown5; obtain ⟨A5, c5, rfl⟩ := owns_form hown5; have k5 : Below wc.heap.size wc w5 := (show Below wc.heap.size wc _ from (by first | exact HBA8.out | exact HBA8.out.drew | exact HBA8.out.drew.drew)).grown hgrow5 HBA8.out.size (fun k e => by cases e; exact Nat.le_refl _); have d5 := keep_cell k5 cm2; have Hown5 := Lib.hid hown5; have Hat5 := Lib.hid hat5; have K5 := Lib.hid k5; clear hown5 hat5 hgrow5 k5)
            | (refine step_append_src _ (by rfl) (Operand.tmp 51) (Operand.tmp 58) _ (by rfl) (b + 1) 3 i3 (.int .i64 0) 1 8 under46 hi3 hy0 hy1 hy2 rfl (by decide) (.slice A5 j c5) j ((I lefts).take j) (by rfl) Hown5.out (some ad2) (n - (j + 1)) (cap2 - (j + 1)) ((I lefts).drop (j + 1)) (by rfl) (HSb8.out _ (by first | exact K5.out | exact K5.out.drew | exact K5.out.drew.drew)) (by unfold maxLen; omega) (by omega) (Nat.le_trans (show b + 1 ≤ wc.heap.size by omega) K5.out.size) ?_; intro v6 w6 hown6 hgrow6 hat6; obtain ⟨A6, c6, rfl⟩ := owns_form hown6; have k6 : Below wc.heap.size wc w6 := (show Below wc.heap.size wc _ from (by first | exact K5.out | exact K5.out.drew | exact K5.out.drew.drew)).grown hgrow6 K5.out.size (fun k e => by rcases Hat5.out with h | h; (rw [h] at e; cases e; exact Nat.le_refl _); (rw [h] at e; cases e; exact HBA8.out.size)); have d6 := keep_cell k6 cm2; have f6 := frozen_keep k6 cm2 zm2; have q6 : ∀ k, (Value.slice A6 (j + (n - (j + 1))) c6).ownBlock = some k → wc.heap.size ≤ k := (fun k e => by rcases hat6 with h | h; (rw [h] at e; rcases Hat5.out with h2 | h2; (rw [h2] at e; cases e; exact Nat.le_refl _); (rw [h2] at e; cases e; exact HBA8.out.size)); (rw [h] at e; cases e; exact K5.out.size)); have Q6 := Lib.hid q6; have Hown6 := Lib.hid hown6; have K6 := Lib.hid k6; clear hown6 hat6 hgrow6 k6 q6)
            | fail)
        all_goals
          clear hwr
          go_wp2
          go_ret
          exact ⟨rfl, stop_close Q6.out HT2.out HI2.out HU2.out K6.out Hown6.out (by omega) (mapcut _ _ _) (mapcut _ _ _) (by rw [List.length_append, List.length_take, List.length_drop, Hn.out]; omega) (by rw [List.length_append, List.length_take, List.length_drop, Hl2.out]; omega)⟩
end Go.Proofs.Ytocfklnoklmocaa
