/- fine, and the reference's target: which nodes may be. No conditions. -/
import Derived.Test.YtnjpodbefcfdhaaDoorFind
namespace Go.Proofs.YtnjpodbefcfdhaaDoor
open Go.RowKit
attribute [local go_sem ↓] Go.wp_at_zero Go.wp_at_succ
set_option linter.unusedVariables false
set_option linter.unusedSimpArgs false

theorem fineN_bad {x : Nod} (h : rightB x.p = false) : fineN x = false := by unfold fineN; rw [h]; rfl
theorem fineN_dirty {x : Nod} (h : ¬ cleanL x.p = x.p) : fineN x = false := by unfold fineN; rw [decide_eq_false h]; simp
theorem fineN_root {x : Nod} (h : x.p = [47]) : fineN x = false := by unfold fineN; rw [decide_eq_false (show ¬ x.p ≠ [47] from fun h2 => h2 h)]; simp
theorem fineN_form {x : Nod} (h1 : rightB x.p = true) (h2 : cleanL x.p = x.p) (h3 : ¬ x.p = [47]) : fineN x = formB x := by unfold fineN; rw [h1, decide_eq_true h2, decide_eq_true (show x.p ≠ [47] from h3)]; rfl

set_option maxRecDepth 100000 in
set_option maxHeartbeats 4000000 in
theorem fine_any (x : Nod) (w : World) : Calls Tryd.prog 25 #[nodV x] w (Ret (.bool (fineN x)) w) := by
  have C := clean_any (strL x.p)
  rw [strL_data] at C
  obtain ⟨F, hF⟩ : ∃ F, fineN x = F := ⟨_, rfl⟩
  rw [hF]
  have HF := Lib.hid hF
  clear hF
  unfold nodV
  obtain ⟨xp, xk, xt⟩ := x
  simp only at C ⊢
  have tp : (strL xp).toList = xp := ByteArray.toList_eq _
  have tt : (strL xt).toList = xt := ByteArray.toList_eq _
  have td : (strL xt).data.toList = xt := strL_data xt
  have ts : (strL xt).size = xt.length := strL_size xt
  obtain ⟨u, hu⟩ : ∃ u, strL xp = u := ⟨_, rfl⟩
  obtain ⟨t, ht⟩ : ∃ t, strL xt = t := ⟨_, rfl⟩
  rw [hu] at C tp ⊢
  rw [ht] at tt td ts ⊢
  clear hu ht
  have hbox := below_alloc w (.cells #[.string u, .int .i64 xk, .string t] 32)
  have I := Tryd.strings_IndexByte t 0
  rw [td, show (Int.toNat 0).toUInt8 = 0 from rfl] at I
  clear td
  unfold cleanV at C
  cases hr : rightB xp with
  | false =>
    rw [hr, if_neg (by decide)] at C
    have hfin := fineN_bad (x := ⟨xp, xk, xt⟩) hr
    have Hfin := Lib.hid hfin
    clear hfin hr
    go_enter Tryd.func25, Tryd.ntmps25
    go_wp2_with (go_at_call 12; refine (C _).mono ?_; rintro e w1 ⟨rfl, hb1⟩)
    go_ret
    exact ⟨by rw [← HF.out, Hfin.out]; rfl, bchain hbox hbox.size hb1⟩
  | true =>
    rw [hr, if_pos rfl] at C
    have tc : (strL (cleanL xp)).toList = cleanL xp := ByteArray.toList_eq _
    obtain ⟨c, hc⟩ : ∃ c, cleanL xp = c := ⟨_, rfl⟩
    rw [hc] at C tc
    obtain ⟨cs, hcs⟩ : ∃ cs, strL c = cs := ⟨_, rfl⟩
    rw [hcs] at C tc
    by_cases h1 : c = xp
    case neg =>
      have hE : (c == xp) = false := by simpa using h1
      have Hfin := Lib.hid (fineN_dirty (x := ⟨xp, xk, xt⟩) (by show ¬ cleanL xp = xp; rw [hc]; exact h1))
      clear hc h1 hr hcs
      go_enter Tryd.func25, Tryd.ntmps25
      go_wp2_with (go_at_call 12; refine (C _).mono ?_; rintro e w1 ⟨rfl, hb1⟩; have b0 : w1.cell? ⟨w.heap.size, 0, none⟩ = some (.string u) := keep_cell hb1 (by go_keep))
      go_ret
      exact ⟨by rw [← HF.out, Hfin.out]; rfl, bchain hbox hbox.size hb1⟩
    case pos =>
    subst h1
    have hE : (c == c) = true := by simp
    by_cases h2 : c = [47]
    · have hE2 : (c == [47]) = true := by simpa using h2
      have Hfin := Lib.hid (fineN_root (x := ⟨c, xk, xt⟩) h2)
      clear hc h2 hr hcs
      go_enter Tryd.func25, Tryd.ntmps25
      go_wp2_with (go_at_call 12; refine (C _).mono ?_; rintro e w1 ⟨rfl, hb1⟩; have b0 : w1.cell? ⟨w.heap.size, 0, none⟩ = some (.string u) := keep_cell hb1 (by go_keep))
      go_ret
      exact ⟨by rw [← HF.out, Hfin.out]; rfl, bchain hbox hbox.size hb1⟩
    · have hE2 : (c == [47]) = false := by simpa using h2
      have Hfin := Lib.hid (fineN_form (x := ⟨c, xk, xt⟩) hr hc h2)
      clear hc h2 hr hcs
      have step : ∀ w1 : World, Below (w.alloc (.cells #[.string u, .int .i64 xk, .string t] 32)).heap.size (w.alloc (.cells #[.string u, .int .i64 xk, .string t] 32)) w1 → w1.cell? ⟨w.heap.size, 0, none⟩ = some (.string u) ∧ w1.cell? ⟨w.heap.size, 1, none⟩ = some (.int .i64 xk) ∧ w1.cell? ⟨w.heap.size, 2, none⟩ = some (.string t) := fun w1 hb1 => ⟨keep_cell hb1 (by go_keep), keep_cell hb1 (by go_keep), keep_cell hb1 (by go_keep)⟩
      by_cases k1 : xk = 1
      · subst k1
        have Hform : Hid (formB ⟨c, 1, xt⟩ = xt.isEmpty) := Lib.hid (by unfold formB; rw [if_pos (.inl rfl)]; cases xt <;> rfl)
        go_enter Tryd.func25, Tryd.ntmps25
        go_wp2_with (go_at_call 12; refine (C _).mono ?_; rintro e w1 ⟨rfl, hb1⟩; obtain ⟨b0, b1, b2⟩ := step w1 hb1)
        go_ret
        exact ⟨by rw [← HF.out, Hfin.out, Hform.out]; rfl, bchain hbox hbox.size hb1⟩
      · by_cases k2 : xk = 2
        · subst k2
          have Hform : Hid (formB ⟨c, 2, xt⟩ = xt.isEmpty) := Lib.hid (by unfold formB; rw [if_pos (.inr rfl)]; cases xt <;> rfl)
          go_enter Tryd.func25, Tryd.ntmps25
          go_wp2_with (go_at_call 12; refine (C _).mono ?_; rintro e w1 ⟨rfl, hb1⟩; obtain ⟨b0, b1, b2⟩ := step w1 hb1)
          go_ret
          exact ⟨by rw [← HF.out, Hfin.out, Hform.out]; rfl, bchain hbox hbox.size hb1⟩
        · have hk1 : (xk == 1) = false := by simpa using k1
          have hk2 : (xk == 2) = false := by simpa using k2
          by_cases k3 : xk = 3
          · subst k3
            have Hform : Hid (formB ⟨c, 3, xt⟩ = tgtB xt) := Lib.hid (by unfold formB; rw [if_neg (by simp), if_pos rfl])
            by_cases h0 : xt = []
            · have hE3 : xt.isEmpty = true := by simpa using h0
              have Ht : Hid (tgtB xt = false) := Lib.hid (by unfold tgtB; rw [h0]; rfl)
              clear h0
              go_enter Tryd.func25, Tryd.ntmps25
              go_wp2_with (go_at_call 12; refine (C _).mono ?_; rintro e w1 ⟨rfl, hb1⟩; obtain ⟨b0, b1, b2⟩ := step w1 hb1)
              go_ret
              exact ⟨by rw [← HF.out, Hfin.out, Hform.out, Ht.out]; rfl, bchain hbox hbox.size hb1⟩
            · have hE3 : xt.isEmpty = false := by simpa using h0
              by_cases h256 : (t.size : Int) ≤ 256
              · have Ht : Hid (tgtB xt = decide (Lib.indexByte xt 0 < 0)) := Lib.hid (by unfold tgtB; rw [decide_eq_true (show xt ≠ [] from h0), decide_eq_true (by omega)]; rfl)
                clear h0
                go_enter Tryd.func25, Tryd.ntmps25
                go_wp2_with (first
                  | (go_at_call 12; refine (C _).mono ?_; rintro e w1 ⟨rfl, hb1⟩; obtain ⟨b0, b1, b2⟩ := step w1 hb1)
                  | (go_at_call 28; refine (I _).mono ?_; rintro e w2 ⟨rfl, rfl⟩))
                go_ret
                exact ⟨by rw [← HF.out, Hfin.out, Hform.out, Ht.out]; rfl, bchain hbox hbox.size hb1⟩
              · have Ht : Hid (tgtB xt = false) := Lib.hid (by unfold tgtB; rw [decide_eq_false (show ¬ (xt.length : Int) ≤ 256 by omega)]; simp)
                have h256' : 256 < (t.size : Int) := by omega
                clear h0
                go_enter Tryd.func25, Tryd.ntmps25
                go_wp2_with (go_at_call 12; refine (C _).mono ?_; rintro e w1 ⟨rfl, hb1⟩; obtain ⟨b0, b1, b2⟩ := step w1 hb1)
                go_ret
                exact ⟨by rw [← HF.out, Hfin.out, Hform.out, Ht.out]; rfl, bchain hbox hbox.size hb1⟩
          · have hk3 : (xk == 3) = false := by simpa using k3
            have Hform : Hid (formB ⟨c, xk, xt⟩ = false) := Lib.hid (by unfold formB; rw [if_neg (by simp [k1, k2]), if_neg k3])
            go_enter Tryd.func25, Tryd.ntmps25
            go_wp2_with (go_at_call 12; refine (C _).mono ?_; rintro e w1 ⟨rfl, hb1⟩; obtain ⟨b0, b1, b2⟩ := step w1 hb1)
            go_ret
            exact ⟨by rw [← HF.out, Hfin.out, Hform.out]; rfl, bchain hbox hbox.size hb1⟩

theorem tgt_eq (l : List UInt8) (h : l ≠ []) (h2 : (l.length : Int) ≤ 256) : tgtB l = decide (Lib.indexByte l 0 < 0) := by unfold tgtB; rw [decide_eq_true h, decide_eq_true h2]; rfl
def ZeroRel (l : List UInt8) (i : Value) : Prop := ∃ k : Nat, k ≤ l.length ∧ i = .int .i64 k ∧ ∀ j, j < k → l[j]? ≠ some 0
set_option maxRecDepth 100000 in
set_option maxHeartbeats 4000000 in
theorem target_any (s : ByteArray) (w : World) : Calls Tryd.prog 43 #[.string s] w (Same (.bool (tgtB s.data.toList)) w) := by
  by_cases h0 : s.size = 0
  · have hl : s.data.toList = [] := List.length_eq_zero_iff.1 (by rw [len_data]; exact h0)
    have Ht : Hid (tgtB s.data.toList = false) := Lib.hid (by rw [hl]; rfl)
    have hz : ((s.size : Int) == 0) = true := by simp [h0]
    clear hl h0
    go_enter Tryd.func43, Tryd.ntmps43
    go_wp2
    go_ret
    exact ⟨by rw [Ht.out]; rfl, rfl⟩
  · have hz : ((s.size : Int) == 0) = false := by simp [h0]
    have hne : s.data.toList ≠ [] := fun h => h0 (by rw [← len_data, h]; rfl)
    by_cases h256 : 256 < (s.size : Int)
    · have Ht : Hid (tgtB s.data.toList = false) := Lib.hid (by unfold tgtB; rw [decide_eq_false (show ¬ (s.data.toList.length : Int) ≤ 256 by rw [len_data]; omega)]; simp)
      clear hne h0
      go_enter Tryd.func43, Tryd.ntmps43
      go_wp2
      go_ret
      exact ⟨by rw [Ht.out]; rfl, rfl⟩
    · have hle : (s.size : Int) ≤ 256 := by omega
      have Ht := Lib.hid (tgt_eq s.data.toList hne (by rw [len_data]; exact hle))
      have hd : decide (256 < (s.size : Int)) = false := by simp; omega
      clear hne h0
      go_enter Tryd.func43, Tryd.ntmps43
      go_wp2
      go_loop [3] (fun u => ZeroRel s.data.toList u) (fun u => s.size - (intOf u).toNat)
      case atStart => exact ⟨0, Nat.zero_le _, rfl, fun i hi => by omega⟩
      case round =>
        obtain ⟨k, hk, rfl, hall⟩ := hrel
        rw [len_data] at hk
        have Hall := Lib.hid hall
        clear hall
        by_cases hlt : k < s.size
        · by_cases hk0 : s[k] = 0
          · have hc0 : (((s[k]).toNat : Int) == 0) = true := by rw [hk0]; rfl
            have hfin := Lib.hid (idx_yes (l := s.data.toList) (k := k) (by rw [get_data s k hlt, hk0]))
            clear hk0
            go_wp2
            go_ret
            exact ⟨by rw [Ht.out, show decide (Lib.indexByte s.data.toList 0 < 0) = false from decide_eq_false (by have := hfin.out; omega)]; rfl, rfl⟩
          · have hc0 : (((s[k]).toNat : Int) == 0) = false := by
              simp only [beq_eq_false_iff_ne]
              intro h
              exact hk0 ((byte_eq (n := 0) (by omega)).1 h)
            have H0 := Lib.hid hk0
            clear hk0
            go_wp2
            go_round
            case rel => exact ⟨k + 1, by rw [len_data]; omega, by go_num, fun i hi => by
              by_cases hik : i = k
              · subst hik; rw [get_data s i hlt]; intro h; exact H0.out (Option.some.inj h)
              · exact Hall.out i (by omega)⟩
            case measure => simp [intOf]; omega
        · obtain rfl : k = s.size := by omega
          have hfin := Lib.hid (idx_no (l := s.data.toList) (fun i hi => Hall.out i (by rw [len_data] at hi; exact hi)))
          go_wp2
          go_ret
          exact ⟨by rw [Ht.out, show decide (Lib.indexByte s.data.toList 0 < 0) = true from decide_eq_true (by have := hfin.out; omega)]; rfl, rfl⟩
end Go.Proofs.YtnjpodbefcfdhaaDoor
