/- Rising of the document's answer for layer 19. Conditions: the list can be read; it is no longer than 900000. -/
import Derived.Test.YtocfklnoklmocaaRTick
import Derived.Test.YtocfklnoklmocaaRSame
import Derived.BigQuiet
import Derived.Deep.RegionLaw
import Derived.BigRegion
namespace Go.Proofs.Ytocfklnoklmocaa
open Go.RowKit
set_option linter.unusedVariables false
set_option linter.unusedSimpArgs false

theorem src_drop' {w : World} {g n i : Nat} {xs : List Value} {A : Option Addr} (hc : ∀ (j : Nat) u, xs[j]? = some u → w.cell? ⟨g, j, none⟩ = some u) (h1 : ∀ u ∈ xs, u.oneCell' = true) (hn : xs.length = n) (hA : i < n → A = some ⟨g, i, none⟩) : SrcAt w 1 A (n - i) (xs.drop i) := by
  refine ⟨by simp; omega, fun h0 => ⟨g, i, hA (by omega), fun j u hu => ?_⟩, fun u hu => h1 u (List.mem_of_mem_drop hu)⟩
  rw [List.getElem?_drop] at hu
  exact hc _ u hu
theorem alloc_size (w : World) (o : Obj) : (w.alloc o).heap.size = w.heap.size + 1 := by simp
theorem ad_of (g cap a : Nat) : ∃ ad, (if cap = a then some (⟨g, 0, none⟩ : Addr) else some ⟨g, a, none⟩) = some ad := by
  by_cases h1 : cap = a
  · exact ⟨_, by rw [if_pos h1]⟩
  · exact ⟨_, by rw [if_neg h1]⟩
theorem SrcAt.nil (w : World) : SrcAt w 1 none 0 [] := ⟨rfl, fun h => absurd h (by omega), fun u hu => by simp at hu⟩
theorem U_ins {x : Int} {o : List Int} {a : Nat} (h : atOf x o = a) : U (ins x o) = (U o).take a ++ [.int .u64 x] ++ (U o).drop a := by
  unfold ins U
  rw [h, List.map_append, List.map_append, List.map_take, List.map_drop]
  rfl
theorem ins_nil {x : Int} {o : List Int} (h : atOf x o = 0) (ho : o.length = 0) : ins x o = [x] := by
  obtain rfl := List.eq_nil_of_length_eq_zero ho
  rfl
set_option maxRecDepth 100000 in
set_option maxHeartbeats 8000000 in
theorem rise_any (A : Option Addr) (c : Nat) (xs : List Int) (w : World) (hX : NumsAt w (.slice A xs.length c) xs) (hN : xs.length ≤ 900000) : Calls Try.prog 21 #[.slice A xs.length c] w (RisePost xs w) := by
  obtain ⟨i0, hi0, hz0, hz1, hz2⟩ := info_parts info27
  obtain ⟨n, hn⟩ : ∃ n, xs.length = n := ⟨_, rfl⟩
  rw [hn] at hX hN ⊢
  have HX := Lib.hid hX
  have Hn := Lib.hid hn
  clear hX hn
  go_enter Try.func21, Try.ntmps21
  go_wp2
  go_loopw [3, 4, 5] (fun ov iv av wr => ∃ i : Nat, i ≤ n ∧ iv = .int .i64 i ∧ (i = 0 → ov = .slice none 0 0) ∧ wr.ownsRow w.heap.size 27 1 ov i (U (riseL (xs.take i))) ∧ Below w.heap.size w wr) (fun _ iv _ _ => n - (intOf iv).toNat)
  case atStart => exact ⟨0, Nat.zero_le _, rfl, fun _ => rfl, World.ownsRow_nil _ _ _ _, Below.refl _ _⟩
  case round =>
    obtain ⟨i, hi, rfl, hz, hO, hB⟩ := hrel
    by_cases hlt : i < n
    · have hlt' : (i : Int) < n := by omega
      obtain ⟨gx, ox, rfl, hcx⟩ := HX.out.at' (by omega)
      obtain ⟨x, hx⟩ : ∃ x, xs[i]? = some x := ⟨_, List.getElem?_eq_getElem (by rw [Hn.out]; exact hlt)⟩
      have c0 := keep_cell hB (hcx i x hx)
      have hsucc := riseL_take hx
      have hol := riseL_take_len (l := xs) (i := i) (by rw [Hn.out]; exact hi)
      have hwr := hB.size
      obtain ⟨o, ho⟩ : ∃ o, riseL (xs.take i) = o := ⟨_, rfl⟩
      rw [ho] at hO hsucc hol
      have hal := atOf_le x o
      obtain ⟨a0, ha0⟩ : ∃ a, atOf x o = a := ⟨_, rfl⟩
      rw [ha0] at hal
      have Hsucc := Lib.hid hsucc
      have Hol := Lib.hid hol
      have HO := Lib.hid hO
      have HB := Lib.hid hB
      have Ha0 := Lib.hid ha0
      rw [hol] at hal
      clear hcx hx hsucc ho ha0 hol hB
      by_cases hi0' : i = 0
      · subst hi0'
        obtain rfl : a0 = 0 := by omega
        obtain rfl := hz rfl
        rw [Nat.add_zero] at c0
        clear hO hz
        go_wp2
        go_loopw [5] (fun av wx => av = .int .i64 0 ∧ wx = wr) (fun av _ => 1)
        case atStart => exact ⟨rfl, rfl⟩
        case round =>
          obtain ⟨rfl, hw9⟩ := hrel
          subst hw9
          go_wp2
          go_quiet (fail)
          go_wp2
          obtain ⟨WW, hWW⟩ : ∃ W, wr.drewN nq = W := ⟨_, rfl⟩
          rw [hWW]
          have hbW : Below wr.heap.size wr WW := by rw [← hWW]; exact below_drewS (Below.refl _ _) _
          have dW := keep_cell hbW c0
          have dW2 : (WW.alloc (.cells #[] 27)).cell? ⟨gx, ox, none⟩ = some (.int .u64 x) := keep_cell (below_alloc WW _) dW
          have HBW := Lib.hid (bchain HB.out HB.out.size hbW)
          have hsW := HBW.out.size
          have HB1 := Lib.hid (below_alloc_drew WW (.cells #[] 27))
          have HB2 : Hid (Below WW.heap.size WW ((WW.alloc (.cells #[] 27)).alloc (.cells #[.int .u64 x] 27)).drew) := Lib.hid (((below_alloc WW _).alloc (below_alloc WW _).size _).drew)
          have HB3 : Hid (Below WW.heap.size WW ((WW.alloc (.cells #[.int .u64 x] 27)).alloc (.cells #[] 27)).drew) := Lib.hid (((below_alloc WW _).alloc (below_alloc WW _).size _).drew)
          have HP1 : Hid ((WW.alloc (.cells #[] 27)).drew.heap[WW.heap.size]? = some (.cells #[] 27 (0, 0))) := Lib.hid (World.alloc_heap_new WW _)
          have HP2 : Hid (((WW.alloc (.cells #[] 27)).alloc (.cells #[.int .u64 x] 27)).drew.heap[WW.heap.size]? = some (.cells #[] 27 (0, 0))) := Lib.hid (((below_alloc (WW.alloc (.cells #[] 27)) (.cells #[.int .u64 x] 27)).block WW.heap.size (by simp)).trans (World.alloc_heap_new WW _))
          have HP3 : Hid (((WW.alloc (.cells #[.int .u64 x] 27)).alloc (.cells #[] 27)).drew.heap[WW.heap.size + 1]? = some (.cells #[] 27 (0, 0))) := Lib.hid (by have h := World.alloc_heap_new (WW.alloc (.cells #[.int .u64 x] 27)) (.cells #[] 27); rw [alloc_size] at h; exact h)
          have HC2 : Hid (((WW.alloc (.cells #[] 27)).alloc (.cells #[.int .u64 x] 27)).drew.cell? ⟨WW.heap.size + 1, 0, none⟩ = some (.int .u64 x)) := Lib.hid (by have h := new_cell (WW.alloc (.cells #[] 27)) #[.int .u64 x] 27 0 rfl; rw [alloc_size] at h; exact h)
          have HC3 : Hid (((WW.alloc (.cells #[.int .u64 x] 27)).alloc (.cells #[] 27)).drew.cell? ⟨WW.heap.size, 0, none⟩ = some (.int .u64 x)) := Lib.hid (keep_cell (below_alloc _ _) (new_cell WW #[.int .u64 x] 27 0 rfl))
          clear hbW hWW
          go_region_law (first
            | (refine step_append_src _ (by rfl) (Operand.tmp 29) (Operand.tmp 32) _ (by rfl) w.heap.size 27 i0 (.int .u64 0) 1 8 under22 hi0 hz0 hz1 hz2 rfl (by decide) (.slice (some ⟨WW.heap.size, 0, none⟩) 0 0) 0 [] (by rfl) (own_empty (by omega) HP1.out) none 0 0 [] (by rfl) (SrcAt.nil _) (by unfold maxLen; omega) (by omega) (Nat.le_trans hsW HB1.out.size) ?_; intro v5 w5 hown5 hgrow5 hat5; rw [Nat.zero_add, List.nil_append] at hown5; obtain ⟨A5, c5, rfl⟩ := owns_form hown5; have K5 := Lib.hid (HB1.out.grown hgrow5 HB1.out.size (fun k e => by cases e; exact Nat.le_refl _)); have Q5 : Hid (∀ k, (Value.slice A5 0 c5).ownBlock = some k → WW.heap.size ≤ k) := Lib.hid (fun k e => by rcases hat5 with h | h; (rw [h] at e; cases e; exact Nat.le_refl _); (rw [h] at e; cases e; exact HB1.out.size)); have Hown5 := Lib.hid hown5; have d5 := keep_cell K5.out dW; clear hown5 hat5 hgrow5)
            | (refine step_append_src _ (by rfl) (Operand.tmp 29) (Operand.tmp 32) _ (by rfl) w.heap.size 27 i0 (.int .u64 0) 1 8 under22 hi0 hz0 hz1 hz2 rfl (by decide) (.slice (some ⟨WW.heap.size, 0, none⟩) 0 0) 0 [] (by rfl) (own_empty (by omega) HP2.out) none 0 0 [] (by rfl) (SrcAt.nil _) (by unfold maxLen; omega) (by omega) (Nat.le_trans hsW HB2.out.size) ?_; intro v5 w5 hown5 hgrow5 hat5; rw [Nat.zero_add, List.nil_append] at hown5; obtain ⟨A5, c5, rfl⟩ := owns_form hown5; have K5 := Lib.hid (HB2.out.grown hgrow5 HB2.out.size (fun k e => by cases e; exact Nat.le_refl _)); have Hx5 := Lib.hid (((Upto.refl (fun k => k = WW.heap.size) _).grown hgrow5 (fun k e => by cases e; exact .inl rfl)).cell (by show ¬ (WW.heap.size + 1 = WW.heap.size); omega) HC2.out); have Q5 : Hid (∀ k, (Value.slice A5 0 c5).ownBlock = some k → WW.heap.size ≤ k) := Lib.hid (fun k e => by rcases hat5 with h | h; (rw [h] at e; cases e; exact Nat.le_refl _); (rw [h] at e; cases e; exact HB2.out.size)); have Hown5 := Lib.hid hown5; have d5 := keep_cell K5.out dW; clear hown5 hat5 hgrow5)
            | (refine step_append_src _ (by rfl) (Operand.tmp 29) (Operand.tmp 32) _ (by rfl) w.heap.size 27 i0 (.int .u64 0) 1 8 under22 hi0 hz0 hz1 hz2 rfl (by decide) (.slice (some ⟨WW.heap.size + 1, 0, none⟩) 0 0) 0 [] (by rfl) (own_empty (by omega) HP3.out) none 0 0 [] (by rfl) (SrcAt.nil _) (by unfold maxLen; omega) (by omega) (Nat.le_trans hsW HB3.out.size) ?_; intro v5 w5 hown5 hgrow5 hat5; rw [Nat.zero_add, List.nil_append] at hown5; obtain ⟨A5, c5, rfl⟩ := owns_form hown5; have K5 := Lib.hid (HB3.out.grown hgrow5 HB3.out.size (fun k e => by cases e; exact Nat.le_succ _)); have Hx5 := Lib.hid (((Upto.refl (fun k => k = WW.heap.size + 1) _).grown hgrow5 (fun k e => by cases e; exact .inl rfl)).cell (by show ¬ (WW.heap.size = WW.heap.size + 1); omega) HC3.out); have Q5 : Hid (∀ k, (Value.slice A5 0 c5).ownBlock = some k → WW.heap.size ≤ k) := Lib.hid (fun k e => by rcases hat5 with h | h; (rw [h] at e; cases e; exact Nat.le_succ _); (rw [h] at e; cases e; exact HB3.out.size)); have Hown5 := Lib.hid hown5; have d5 := keep_cell K5.out dW; clear hown5 hat5 hgrow5)
            | (refine step_append_src _ (by rfl) (Operand.tmp 33) (Operand.tmp 38) _ (by rfl) w.heap.size 27 i0 (.int .u64 0) 1 8 under22 hi0 hz0 hz1 hz2 rfl (by decide) (.slice A5 0 c5) 0 [] (by rfl) (own_kept Hown5.out ((Upto.refl (fun _ => False) w5).alloc _) (fun _ h => h.elim)) (some ⟨w5.heap.size, 0, none⟩) 1 1 [.int .u64 x] (by rfl) (src_one (new_cell w5 #[.int .u64 x] 27 0 rfl) rfl) (by unfold maxLen; omega) (by omega) (Nat.le_trans hsW (K5.out.alloc K5.out.size (.cells #[.int .u64 x] 27)).size) ?_; intro v6 w6 hown6 hgrow6 hat6; obtain ⟨A6, c6, rfl⟩ := owns_form hown6; have K6 := Lib.hid ((K5.out.alloc K5.out.size (.cells #[.int .u64 x] 27)).grown hgrow6 (K5.out.alloc K5.out.size (.cells #[.int .u64 x] 27)).size (fun k e => Q5.out k e)); have Q6 : Hid (∀ k, (Value.slice A6 1 c6).ownBlock = some k → WW.heap.size ≤ k) := Lib.hid (fun k e => by rcases hat6 with h | h; (exact Q5.out k (by rw [← h]; exact e)); (have e2 := h.symm.trans e; cases e2; exact (K5.out.alloc K5.out.size (.cells #[.int .u64 x] 27)).size)); have Hown6 := Lib.hid hown6; have d6 := keep_cell K6.out dW; clear hown6 hat6 hgrow6)
            | (refine step_append_src _ (by rfl) (Operand.tmp 33) (Operand.tmp 38) _ (by rfl) w.heap.size 27 i0 (.int .u64 0) 1 8 under22 hi0 hz0 hz1 hz2 rfl (by decide) (.slice A5 0 c5) 0 [] (by rfl) Hown5.out (some ⟨_, 0, none⟩) 1 1 [.int .u64 x] (by rfl) (src_one Hx5.out rfl) (by unfold maxLen; omega) (by omega) (Nat.le_trans hsW K5.out.size) ?_; intro v6 w6 hown6 hgrow6 hat6; obtain ⟨A6, c6, rfl⟩ := owns_form hown6; have K6 := Lib.hid (K5.out.grown hgrow6 K5.out.size (fun k e => Q5.out k e)); have Q6 : Hid (∀ k, (Value.slice A6 1 c6).ownBlock = some k → WW.heap.size ≤ k) := Lib.hid (fun k e => by rcases hat6 with h | h; (exact Q5.out k (by rw [← h]; exact e)); (have e2 := h.symm.trans e; cases e2; exact K5.out.size)); have Hown6 := Lib.hid hown6; have d6 := keep_cell K6.out dW; clear hown6 hat6 hgrow6)
            | (refine step_append_src _ (by rfl) (Operand.tmp 39) (Operand.tmp 42) _ (by rfl) w.heap.size 27 i0 (.int .u64 0) 1 8 under22 hi0 hz0 hz1 hz2 rfl (by decide) (.slice A6 1 c6) 1 ([] ++ [.int .u64 x]) (by rfl) Hown6.out none 0 0 [] (by rfl) (SrcAt.nil _) (by unfold maxLen; omega) (by omega) (Nat.le_trans hsW K6.out.size) ?_; intro v7 w7 hown7 hgrow7 hat7; obtain ⟨A7, c7, rfl⟩ := owns_form hown7; have K7 := Lib.hid (K6.out.grown hgrow7 K6.out.size (fun k e => Q6.out k e)); have Hown7 := Lib.hid hown7; clear hown7 hat7 hgrow7)
            | fail)
          all_goals
            go_wp2
            go_roundw
            case rel => exact ⟨0 + 1, by omega, by go_num, (fun h => by omega), by rw [Hsucc.out, ins_nil Ha0.out Hol.out]; exact Hown7.out, bchain HBW.out HBW.out.size K7.out⟩
            case measure => (simp [intOf] <;> omega)
      obtain ⟨g, cap, rfl, hg1, hg2, hcap, hc, _⟩ := own_cell hO (by omega)
      have Hc := Lib.hid hc
      clear hO hc hz
      go_wp2
      go_loopw [5] (fun av wx => ∃ a : Nat, a ≤ a0 ∧ av = .int .i64 a ∧ Below wr.heap.size wr wx) (fun av _ => a0 + 1 - (intOf av).toNat)
      case atStart => exact ⟨0, Nat.zero_le _, rfl, Below.refl _ _⟩
      case round =>
        obtain ⟨a, ha, rfl, hbx⟩ := hrel
        have d0 := keep_cell hbx c0
        have HBX := Lib.hid hbx
        by_cases hal2 : a < a0
        · have hai : (a : Int) < i := by omega
          have hjd : decide (a < i) = true := by simp; omega
          obtain ⟨y, hy⟩ : ∃ y, o[a]? = some y := ⟨_, List.getElem?_eq_getElem (by rw [Hol.out]; omega)⟩
          have dy := keep_cell hbx (Hc.out a (.int .u64 y) (by unfold U; rw [List.getElem?_map, hy]; rfl))
          have hyx : decide (y < x) = true := by simp; exact atOf_lt (by rw [Ha0.out]; exact hal2) hy
          clear hy hbx
          go_wp2
          go_quiet (fail)
          go_wp2
          go_roundw
          case rel => exact ⟨a + 1, by omega, by go_num, below_drewS HBX.out _⟩
          case measure => (simp [intOf] <;> omega)
        · obtain rfl : a = a0 := by omega
          by_cases hai0 : a < i
          · have hai : (a : Int) < i := by omega
            have hjd : decide (a < i) = true := by simp; omega
            obtain ⟨y, hy⟩ : ∃ y, o[a]? = some y := ⟨_, List.getElem?_eq_getElem (by rw [Hol.out]; omega)⟩
            have dy := keep_cell hbx (Hc.out a (.int .u64 y) (by unfold U; rw [List.getElem?_map, hy]; rfl))
            have hyx : decide (y < x) = false := by simp; exact atOf_at (by rw [Ha0.out]; exact hy)
            clear hy hbx hal2
            go_wp2
            go_quiet (fail)
            go_wp2
            obtain ⟨WW, hWW⟩ : ∃ W, wr.drewN nq = W := ⟨_, rfl⟩
            have hbW := below_drewS HBX.out nq
            rw [hWW] at hbW ⊢
            have HOW := Lib.hid (own_kept HO.out (below_upto (S := fun _ => False) hbW) (fun _ h => h.elim))
            have dW := keep_cell hbW c0
            have dW2 : (WW.alloc (.cells #[] 27)).cell? ⟨gx, ox + i, none⟩ = some (.int .u64 x) := keep_cell (below_alloc WW _) dW
            have HBW := Lib.hid (bchain HB.out HB.out.size hbW)
            have hsW := HBW.out.size
            obtain ⟨ad, had⟩ := ad_of g cap a
            have hac : (a : Int) ≤ cap := by omega
            have hai9 : (a : Int) ≤ i := by omega
            have hic9 : (i : Int) ≤ cap := by omega
            have hcW : ∀ (j : Nat) u, (U o)[j]? = some u → WW.cell? ⟨g, j, none⟩ = some u := fun j u hu => keep_cell hbW (Hc.out j u hu)
            have HSa := Lib.hid (show ∀ V, Below WW.heap.size WW V → SrcAt V 1 (some ⟨g, 0, none⟩) a ((U o).take a) from fun V hV => (src_take (n := i) (cap := cap) hcW (one_U o) (by unfold U; rw [List.length_map, Hol.out]; omega)).below hV)
            have HSb := Lib.hid (show ∀ V, Below WW.heap.size WW V → SrcAt V 1 (some ad) (i - a) ((U o).drop a) from fun V hV => (src_drop' (n := i) hcW (one_U o) (by unfold U; rw [List.length_map, Hol.out]) (fun h => by rw [← had, if_neg (by omega)])).below hV)
            have HB1 := Lib.hid (below_alloc_drew WW (.cells #[] 27))
            have HB2 : Hid (Below WW.heap.size WW ((WW.alloc (.cells #[] 27)).alloc (.cells #[.int .u64 x] 27)).drew) := Lib.hid (((below_alloc WW _).alloc (below_alloc WW _).size _).drew)
            have HB3 : Hid (Below WW.heap.size WW ((WW.alloc (.cells #[.int .u64 x] 27)).alloc (.cells #[] 27)).drew) := Lib.hid (((below_alloc WW _).alloc (below_alloc WW _).size _).drew)
            have HP1 : Hid ((WW.alloc (.cells #[] 27)).drew.heap[WW.heap.size]? = some (.cells #[] 27 (0, 0))) := Lib.hid (World.alloc_heap_new WW _)
            have HP2 : Hid (((WW.alloc (.cells #[] 27)).alloc (.cells #[.int .u64 x] 27)).drew.heap[WW.heap.size]? = some (.cells #[] 27 (0, 0))) := Lib.hid (((below_alloc (WW.alloc (.cells #[] 27)) (.cells #[.int .u64 x] 27)).block WW.heap.size (by simp)).trans (World.alloc_heap_new WW _))
            have HP3 : Hid (((WW.alloc (.cells #[.int .u64 x] 27)).alloc (.cells #[] 27)).drew.heap[WW.heap.size + 1]? = some (.cells #[] 27 (0, 0))) := Lib.hid (by have h := World.alloc_heap_new (WW.alloc (.cells #[.int .u64 x] 27)) (.cells #[] 27); rw [alloc_size] at h; exact h)
            have HC2 : Hid (((WW.alloc (.cells #[] 27)).alloc (.cells #[.int .u64 x] 27)).drew.cell? ⟨WW.heap.size + 1, 0, none⟩ = some (.int .u64 x)) := Lib.hid (by have h := new_cell (WW.alloc (.cells #[] 27)) #[.int .u64 x] 27 0 rfl; rw [alloc_size] at h; exact h)
            have HC3 : Hid (((WW.alloc (.cells #[.int .u64 x] 27)).alloc (.cells #[] 27)).drew.cell? ⟨WW.heap.size, 0, none⟩ = some (.int .u64 x)) := Lib.hid (keep_cell (below_alloc _ _) (new_cell WW #[.int .u64 x] 27 0 rfl))
            clear hbW hWW hcW
            go_region_law (first
              | (refine step_append_src _ (by rfl) (Operand.tmp 29) (Operand.tmp 32) _ (by rfl) w.heap.size 27 i0 (.int .u64 0) 1 8 under22 hi0 hz0 hz1 hz2 rfl (by decide) (.slice (some ⟨WW.heap.size, 0, none⟩) 0 0) 0 [] (by rfl) (own_empty (by omega) HP1.out) (some ⟨g, 0, none⟩) a cap ((U o).take a) (by rfl) (HSa.out _ HB1.out) (by unfold maxLen; omega) (by omega) (Nat.le_trans hsW HB1.out.size) ?_; intro v5 w5 hown5 hgrow5 hat5; rw [Nat.zero_add, List.nil_append] at hown5; obtain ⟨A5, c5, rfl⟩ := owns_form hown5; have K5 := Lib.hid (HB1.out.grown hgrow5 HB1.out.size (fun k e => by cases e; exact Nat.le_refl _)); have Q5 : Hid (∀ k, (Value.slice A5 a c5).ownBlock = some k → WW.heap.size ≤ k) := Lib.hid (fun k e => by rcases hat5 with h | h; (rw [h] at e; cases e; exact Nat.le_refl _); (rw [h] at e; cases e; exact HB1.out.size)); have Hown5 := Lib.hid hown5; have d5 := keep_cell K5.out dW; clear hown5 hat5 hgrow5)
              | (refine step_append_src _ (by rfl) (Operand.tmp 29) (Operand.tmp 32) _ (by rfl) w.heap.size 27 i0 (.int .u64 0) 1 8 under22 hi0 hz0 hz1 hz2 rfl (by decide) (.slice (some ⟨WW.heap.size, 0, none⟩) 0 0) 0 [] (by rfl) (own_empty (by omega) HP2.out) (some ⟨g, 0, none⟩) a cap ((U o).take a) (by rfl) (HSa.out _ HB2.out) (by unfold maxLen; omega) (by omega) (Nat.le_trans hsW HB2.out.size) ?_; intro v5 w5 hown5 hgrow5 hat5; rw [Nat.zero_add, List.nil_append] at hown5; obtain ⟨A5, c5, rfl⟩ := owns_form hown5; have K5 := Lib.hid (HB2.out.grown hgrow5 HB2.out.size (fun k e => by cases e; exact Nat.le_refl _)); have Hx5 := Lib.hid (((Upto.refl (fun k => k = WW.heap.size) _).grown hgrow5 (fun k e => by cases e; exact .inl rfl)).cell (by show ¬ (WW.heap.size + 1 = WW.heap.size); omega) HC2.out); have Q5 : Hid (∀ k, (Value.slice A5 a c5).ownBlock = some k → WW.heap.size ≤ k) := Lib.hid (fun k e => by rcases hat5 with h | h; (rw [h] at e; cases e; exact Nat.le_refl _); (rw [h] at e; cases e; exact HB2.out.size)); have Hown5 := Lib.hid hown5; have d5 := keep_cell K5.out dW; clear hown5 hat5 hgrow5)
              | (refine step_append_src _ (by rfl) (Operand.tmp 29) (Operand.tmp 32) _ (by rfl) w.heap.size 27 i0 (.int .u64 0) 1 8 under22 hi0 hz0 hz1 hz2 rfl (by decide) (.slice (some ⟨WW.heap.size + 1, 0, none⟩) 0 0) 0 [] (by rfl) (own_empty (by omega) HP3.out) (some ⟨g, 0, none⟩) a cap ((U o).take a) (by rfl) (HSa.out _ HB3.out) (by unfold maxLen; omega) (by omega) (Nat.le_trans hsW HB3.out.size) ?_; intro v5 w5 hown5 hgrow5 hat5; rw [Nat.zero_add, List.nil_append] at hown5; obtain ⟨A5, c5, rfl⟩ := owns_form hown5; have K5 := Lib.hid (HB3.out.grown hgrow5 HB3.out.size (fun k e => by cases e; exact Nat.le_succ _)); have Hx5 := Lib.hid (((Upto.refl (fun k => k = WW.heap.size + 1) _).grown hgrow5 (fun k e => by cases e; exact .inl rfl)).cell (by show ¬ (WW.heap.size = WW.heap.size + 1); omega) HC3.out); have Q5 : Hid (∀ k, (Value.slice A5 a c5).ownBlock = some k → WW.heap.size ≤ k) := Lib.hid (fun k e => by rcases hat5 with h | h; (rw [h] at e; cases e; exact Nat.le_succ _); (rw [h] at e; cases e; exact HB3.out.size)); have Hown5 := Lib.hid hown5; have d5 := keep_cell K5.out dW; clear hown5 hat5 hgrow5)
              | (refine step_append_src _ (by rfl) (Operand.tmp 33) (Operand.tmp 38) _ (by rfl) w.heap.size 27 i0 (.int .u64 0) 1 8 under22 hi0 hz0 hz1 hz2 rfl (by decide) (.slice A5 a c5) a ((U o).take a) (by rfl) (own_kept Hown5.out ((Upto.refl (fun _ => False) w5).alloc _) (fun _ h => h.elim)) (some ⟨w5.heap.size, 0, none⟩) 1 1 [.int .u64 x] (by rfl) (src_one (new_cell w5 #[.int .u64 x] 27 0 rfl) rfl) (by unfold maxLen; omega) (by omega) (Nat.le_trans hsW (K5.out.alloc K5.out.size (.cells #[.int .u64 x] 27)).size) ?_; intro v6 w6 hown6 hgrow6 hat6; obtain ⟨A6, c6, rfl⟩ := owns_form hown6; have K6 := Lib.hid ((K5.out.alloc K5.out.size (.cells #[.int .u64 x] 27)).grown hgrow6 (K5.out.alloc K5.out.size (.cells #[.int .u64 x] 27)).size (fun k e => Q5.out k e)); have Q6 : Hid (∀ k, (Value.slice A6 (a + 1) c6).ownBlock = some k → WW.heap.size ≤ k) := Lib.hid (fun k e => by rcases hat6 with h | h; (exact Q5.out k (by rw [← h]; exact e)); (have e2 := h.symm.trans e; cases e2; exact (K5.out.alloc K5.out.size (.cells #[.int .u64 x] 27)).size)); have Hown6 := Lib.hid hown6; have d6 := keep_cell K6.out dW; clear hown6 hat6 hgrow6)
              | (refine step_append_src _ (by rfl) (Operand.tmp 33) (Operand.tmp 38) _ (by rfl) w.heap.size 27 i0 (.int .u64 0) 1 8 under22 hi0 hz0 hz1 hz2 rfl (by decide) (.slice A5 a c5) a ((U o).take a) (by rfl) Hown5.out (some ⟨_, 0, none⟩) 1 1 [.int .u64 x] (by rfl) (src_one Hx5.out rfl) (by unfold maxLen; omega) (by omega) (Nat.le_trans hsW K5.out.size) ?_; intro v6 w6 hown6 hgrow6 hat6; obtain ⟨A6, c6, rfl⟩ := owns_form hown6; have K6 := Lib.hid (K5.out.grown hgrow6 K5.out.size (fun k e => Q5.out k e)); have Q6 : Hid (∀ k, (Value.slice A6 (a + 1) c6).ownBlock = some k → WW.heap.size ≤ k) := Lib.hid (fun k e => by rcases hat6 with h | h; (exact Q5.out k (by rw [← h]; exact e)); (have e2 := h.symm.trans e; cases e2; exact K5.out.size)); have Hown6 := Lib.hid hown6; have d6 := keep_cell K6.out dW; clear hown6 hat6 hgrow6)
              | (refine step_append_src _ (by rfl) (Operand.tmp 39) (Operand.tmp 42) _ (by rfl) w.heap.size 27 i0 (.int .u64 0) 1 8 under22 hi0 hz0 hz1 hz2 rfl (by decide) (.slice A6 (a + 1) c6) (a + 1) (((U o).take a) ++ [.int .u64 x]) (by rfl) Hown6.out (some ad) (i - a) (cap - a) ((U o).drop a) (by rfl) (HSb.out _ K6.out) (by unfold maxLen; omega) (by omega) (Nat.le_trans hsW K6.out.size) ?_; intro v7 w7 hown7 hgrow7 hat7; obtain ⟨A7, c7, rfl⟩ := owns_form hown7; have K7 := Lib.hid (K6.out.grown hgrow7 K6.out.size (fun k e => Q6.out k e)); have Hown7 := Lib.hid hown7; clear hown7 hat7 hgrow7)
              | fail)
            all_goals
              go_wp2
              go_roundw
              case rel =>
                have hfin := Hown7.out
                rw [show a + 1 + (i - a) = i + 1 by omega, ← U_ins Ha0.out, ← Hsucc.out] at hfin
                refine ⟨i + 1, by omega, by go_num, (fun h => by omega), ?_, bchain HBW.out HBW.out.size K7.out⟩
                try rw [show a + 1 + (i - a) = i + 1 by omega]
                exact hfin
              case measure => (simp [intOf] <;> omega)
          · have hjd : decide (a < i) = false := by simp; omega
            clear hbx hal2
            go_wp2
            go_quiet (fail)
            go_wp2
            obtain ⟨WW, hWW⟩ : ∃ W, wr.drewN nq = W := ⟨_, rfl⟩
            have hbW := below_drewS HBX.out nq
            rw [hWW] at hbW ⊢
            have HOW := Lib.hid (own_kept HO.out (below_upto (S := fun _ => False) hbW) (fun _ h => h.elim))
            have dW := keep_cell hbW c0
            have dW2 : (WW.alloc (.cells #[] 27)).cell? ⟨gx, ox + i, none⟩ = some (.int .u64 x) := keep_cell (below_alloc WW _) dW
            have HBW := Lib.hid (bchain HB.out HB.out.size hbW)
            have hsW := HBW.out.size
            obtain ⟨ad, had⟩ := ad_of g cap a
            have hac : (a : Int) ≤ cap := by omega
            have hai9 : (a : Int) ≤ i := by omega
            have hic9 : (i : Int) ≤ cap := by omega
            have hcW : ∀ (j : Nat) u, (U o)[j]? = some u → WW.cell? ⟨g, j, none⟩ = some u := fun j u hu => keep_cell hbW (Hc.out j u hu)
            have HSa := Lib.hid (show ∀ V, Below WW.heap.size WW V → SrcAt V 1 (some ⟨g, 0, none⟩) a ((U o).take a) from fun V hV => (src_take (n := i) (cap := cap) hcW (one_U o) (by unfold U; rw [List.length_map, Hol.out]; omega)).below hV)
            have HSb := Lib.hid (show ∀ V, Below WW.heap.size WW V → SrcAt V 1 (some ad) (i - a) ((U o).drop a) from fun V hV => (src_drop' (n := i) hcW (one_U o) (by unfold U; rw [List.length_map, Hol.out]) (fun h => by rw [← had, if_neg (by omega)])).below hV)
            have HB1 := Lib.hid (below_alloc_drew WW (.cells #[] 27))
            have HB2 : Hid (Below WW.heap.size WW ((WW.alloc (.cells #[] 27)).alloc (.cells #[.int .u64 x] 27)).drew) := Lib.hid (((below_alloc WW _).alloc (below_alloc WW _).size _).drew)
            have HB3 : Hid (Below WW.heap.size WW ((WW.alloc (.cells #[.int .u64 x] 27)).alloc (.cells #[] 27)).drew) := Lib.hid (((below_alloc WW _).alloc (below_alloc WW _).size _).drew)
            have HP1 : Hid ((WW.alloc (.cells #[] 27)).drew.heap[WW.heap.size]? = some (.cells #[] 27 (0, 0))) := Lib.hid (World.alloc_heap_new WW _)
            have HP2 : Hid (((WW.alloc (.cells #[] 27)).alloc (.cells #[.int .u64 x] 27)).drew.heap[WW.heap.size]? = some (.cells #[] 27 (0, 0))) := Lib.hid (((below_alloc (WW.alloc (.cells #[] 27)) (.cells #[.int .u64 x] 27)).block WW.heap.size (by simp)).trans (World.alloc_heap_new WW _))
            have HP3 : Hid (((WW.alloc (.cells #[.int .u64 x] 27)).alloc (.cells #[] 27)).drew.heap[WW.heap.size + 1]? = some (.cells #[] 27 (0, 0))) := Lib.hid (by have h := World.alloc_heap_new (WW.alloc (.cells #[.int .u64 x] 27)) (.cells #[] 27); rw [alloc_size] at h; exact h)
            have HC2 : Hid (((WW.alloc (.cells #[] 27)).alloc (.cells #[.int .u64 x] 27)).drew.cell? ⟨WW.heap.size + 1, 0, none⟩ = some (.int .u64 x)) := Lib.hid (by have h := new_cell (WW.alloc (.cells #[] 27)) #[.int .u64 x] 27 0 rfl; rw [alloc_size] at h; exact h)
            have HC3 : Hid (((WW.alloc (.cells #[.int .u64 x] 27)).alloc (.cells #[] 27)).drew.cell? ⟨WW.heap.size, 0, none⟩ = some (.int .u64 x)) := Lib.hid (keep_cell (below_alloc _ _) (new_cell WW #[.int .u64 x] 27 0 rfl))
            clear hbW hWW hcW
            go_region_law (first
              | (refine step_append_src _ (by rfl) (Operand.tmp 29) (Operand.tmp 32) _ (by rfl) w.heap.size 27 i0 (.int .u64 0) 1 8 under22 hi0 hz0 hz1 hz2 rfl (by decide) (.slice (some ⟨WW.heap.size, 0, none⟩) 0 0) 0 [] (by rfl) (own_empty (by omega) HP1.out) (some ⟨g, 0, none⟩) a cap ((U o).take a) (by rfl) (HSa.out _ HB1.out) (by unfold maxLen; omega) (by omega) (Nat.le_trans hsW HB1.out.size) ?_; intro v5 w5 hown5 hgrow5 hat5; rw [Nat.zero_add, List.nil_append] at hown5; obtain ⟨A5, c5, rfl⟩ := owns_form hown5; have K5 := Lib.hid (HB1.out.grown hgrow5 HB1.out.size (fun k e => by cases e; exact Nat.le_refl _)); have Q5 : Hid (∀ k, (Value.slice A5 a c5).ownBlock = some k → WW.heap.size ≤ k) := Lib.hid (fun k e => by rcases hat5 with h | h; (rw [h] at e; cases e; exact Nat.le_refl _); (rw [h] at e; cases e; exact HB1.out.size)); have Hown5 := Lib.hid hown5; have d5 := keep_cell K5.out dW; clear hown5 hat5 hgrow5)
              | (refine step_append_src _ (by rfl) (Operand.tmp 29) (Operand.tmp 32) _ (by rfl) w.heap.size 27 i0 (.int .u64 0) 1 8 under22 hi0 hz0 hz1 hz2 rfl (by decide) (.slice (some ⟨WW.heap.size, 0, none⟩) 0 0) 0 [] (by rfl) (own_empty (by omega) HP2.out) (some ⟨g, 0, none⟩) a cap ((U o).take a) (by rfl) (HSa.out _ HB2.out) (by unfold maxLen; omega) (by omega) (Nat.le_trans hsW HB2.out.size) ?_; intro v5 w5 hown5 hgrow5 hat5; rw [Nat.zero_add, List.nil_append] at hown5; obtain ⟨A5, c5, rfl⟩ := owns_form hown5; have K5 := Lib.hid (HB2.out.grown hgrow5 HB2.out.size (fun k e => by cases e; exact Nat.le_refl _)); have Hx5 := Lib.hid (((Upto.refl (fun k => k = WW.heap.size) _).grown hgrow5 (fun k e => by cases e; exact .inl rfl)).cell (by show ¬ (WW.heap.size + 1 = WW.heap.size); omega) HC2.out); have Q5 : Hid (∀ k, (Value.slice A5 a c5).ownBlock = some k → WW.heap.size ≤ k) := Lib.hid (fun k e => by rcases hat5 with h | h; (rw [h] at e; cases e; exact Nat.le_refl _); (rw [h] at e; cases e; exact HB2.out.size)); have Hown5 := Lib.hid hown5; have d5 := keep_cell K5.out dW; clear hown5 hat5 hgrow5)
              | (refine step_append_src _ (by rfl) (Operand.tmp 29) (Operand.tmp 32) _ (by rfl) w.heap.size 27 i0 (.int .u64 0) 1 8 under22 hi0 hz0 hz1 hz2 rfl (by decide) (.slice (some ⟨WW.heap.size + 1, 0, none⟩) 0 0) 0 [] (by rfl) (own_empty (by omega) HP3.out) (some ⟨g, 0, none⟩) a cap ((U o).take a) (by rfl) (HSa.out _ HB3.out) (by unfold maxLen; omega) (by omega) (Nat.le_trans hsW HB3.out.size) ?_; intro v5 w5 hown5 hgrow5 hat5; rw [Nat.zero_add, List.nil_append] at hown5; obtain ⟨A5, c5, rfl⟩ := owns_form hown5; have K5 := Lib.hid (HB3.out.grown hgrow5 HB3.out.size (fun k e => by cases e; exact Nat.le_succ _)); have Hx5 := Lib.hid (((Upto.refl (fun k => k = WW.heap.size + 1) _).grown hgrow5 (fun k e => by cases e; exact .inl rfl)).cell (by show ¬ (WW.heap.size = WW.heap.size + 1); omega) HC3.out); have Q5 : Hid (∀ k, (Value.slice A5 a c5).ownBlock = some k → WW.heap.size ≤ k) := Lib.hid (fun k e => by rcases hat5 with h | h; (rw [h] at e; cases e; exact Nat.le_succ _); (rw [h] at e; cases e; exact HB3.out.size)); have Hown5 := Lib.hid hown5; have d5 := keep_cell K5.out dW; clear hown5 hat5 hgrow5)
              | (refine step_append_src _ (by rfl) (Operand.tmp 33) (Operand.tmp 38) _ (by rfl) w.heap.size 27 i0 (.int .u64 0) 1 8 under22 hi0 hz0 hz1 hz2 rfl (by decide) (.slice A5 a c5) a ((U o).take a) (by rfl) (own_kept Hown5.out ((Upto.refl (fun _ => False) w5).alloc _) (fun _ h => h.elim)) (some ⟨w5.heap.size, 0, none⟩) 1 1 [.int .u64 x] (by rfl) (src_one (new_cell w5 #[.int .u64 x] 27 0 rfl) rfl) (by unfold maxLen; omega) (by omega) (Nat.le_trans hsW (K5.out.alloc K5.out.size (.cells #[.int .u64 x] 27)).size) ?_; intro v6 w6 hown6 hgrow6 hat6; obtain ⟨A6, c6, rfl⟩ := owns_form hown6; have K6 := Lib.hid ((K5.out.alloc K5.out.size (.cells #[.int .u64 x] 27)).grown hgrow6 (K5.out.alloc K5.out.size (.cells #[.int .u64 x] 27)).size (fun k e => Q5.out k e)); have Q6 : Hid (∀ k, (Value.slice A6 (a + 1) c6).ownBlock = some k → WW.heap.size ≤ k) := Lib.hid (fun k e => by rcases hat6 with h | h; (exact Q5.out k (by rw [← h]; exact e)); (have e2 := h.symm.trans e; cases e2; exact (K5.out.alloc K5.out.size (.cells #[.int .u64 x] 27)).size)); have Hown6 := Lib.hid hown6; have d6 := keep_cell K6.out dW; clear hown6 hat6 hgrow6)
              | (refine step_append_src _ (by rfl) (Operand.tmp 33) (Operand.tmp 38) _ (by rfl) w.heap.size 27 i0 (.int .u64 0) 1 8 under22 hi0 hz0 hz1 hz2 rfl (by decide) (.slice A5 a c5) a ((U o).take a) (by rfl) Hown5.out (some ⟨_, 0, none⟩) 1 1 [.int .u64 x] (by rfl) (src_one Hx5.out rfl) (by unfold maxLen; omega) (by omega) (Nat.le_trans hsW K5.out.size) ?_; intro v6 w6 hown6 hgrow6 hat6; obtain ⟨A6, c6, rfl⟩ := owns_form hown6; have K6 := Lib.hid (K5.out.grown hgrow6 K5.out.size (fun k e => Q5.out k e)); have Q6 : Hid (∀ k, (Value.slice A6 (a + 1) c6).ownBlock = some k → WW.heap.size ≤ k) := Lib.hid (fun k e => by rcases hat6 with h | h; (exact Q5.out k (by rw [← h]; exact e)); (have e2 := h.symm.trans e; cases e2; exact K5.out.size)); have Hown6 := Lib.hid hown6; have d6 := keep_cell K6.out dW; clear hown6 hat6 hgrow6)
              | (refine step_append_src _ (by rfl) (Operand.tmp 39) (Operand.tmp 42) _ (by rfl) w.heap.size 27 i0 (.int .u64 0) 1 8 under22 hi0 hz0 hz1 hz2 rfl (by decide) (.slice A6 (a + 1) c6) (a + 1) (((U o).take a) ++ [.int .u64 x]) (by rfl) Hown6.out (some ad) (i - a) (cap - a) ((U o).drop a) (by rfl) (HSb.out _ K6.out) (by unfold maxLen; omega) (by omega) (Nat.le_trans hsW K6.out.size) ?_; intro v7 w7 hown7 hgrow7 hat7; obtain ⟨A7, c7, rfl⟩ := owns_form hown7; have K7 := Lib.hid (K6.out.grown hgrow7 K6.out.size (fun k e => Q6.out k e)); have Hown7 := Lib.hid hown7; clear hown7 hat7 hgrow7)
              | fail)
            all_goals
              go_wp2
              go_roundw
              case rel =>
                have hfin := Hown7.out
                rw [show a + 1 + (i - a) = i + 1 by omega, ← U_ins Ha0.out, ← Hsucc.out] at hfin
                refine ⟨i + 1, by omega, by go_num, (fun h => by omega), ?_, bchain HBW.out HBW.out.size K7.out⟩
                try rw [show a + 1 + (i - a) = i + 1 by omega]
                exact hfin
              case measure => (simp [intOf] <;> omega)
    · obtain rfl : i = n := by omega
      have hall : xs.take i = xs := List.take_of_length_le (by rw [Hn.out]; exact Nat.le_refl _)
      rw [hall] at hO
      have hl : (riseL xs).length = i := by
        have := riseL_take_len (l := xs) (i := i) (by rw [Hn.out]; exact Nat.le_refl _)
        rwa [hall] at this
      obtain ⟨A3, d3, rfl⟩ := owns_form hO
      have hnums := nums_of_own hO hl
      rw [← hl] at hnums
      have Hnums := Lib.hid hnums
      have HB := Lib.hid hB
      have Hl := Lib.hid hl
      clear hO hB hall hl hnums
      go_wp2
      go_ret
      exact ⟨A3, d3, by rw [Hl.out]; rfl, Hnums.out, HB.out⟩
end Go.Proofs.Ytocfklnoklmocaa
