/- Compile: the program of rules. Conditions: the rules can be read; they are light; their conditions' numbers are of their kinds. -/
import Derived.Test.YtjmmbadpknlmcaaCompA
import Derived.Deep.RegionLaw
import Derived.Deep.DeepCutAuto
namespace Go.Proofs.Ytjmmbadpknlmcaa
open Go.RowKit
set_option linter.unusedVariables false
set_option linter.unusedSimpArgs false
set_option maxRecDepth 100000

set_option maxHeartbeats 8000000 in
theorem compile_any (k a : Int) (lv : Value) (L : List Rul) (w : World) (hL : RulsAt w lv L) (hl : lightB L = true) (hw : WfL L) : Calls Try.prog 10 #[.agg #[.int .i64 k, .int .i64 a, lv]] w (CompPost k a L w) := by
  obtain ⟨i0, hi0, hz0, hz1, hz2⟩ := info_parts info70
  obtain ⟨A0, c0, rfl⟩ := hL.form
  have hbox := below_alloc w (.cells #[.int .i64 k, .int .i64 a, .slice A0 L.length c0] 26)
  have r0 := new_cell w #[.int .i64 k, .int .i64 a, .slice A0 L.length c0] 26 0 rfl
  have r1 := new_cell w #[.int .i64 k, .int .i64 a, .slice A0 L.length c0] 26 1 rfl
  have r2 := new_cell w #[.int .i64 k, .int .i64 a, .slice A0 L.length c0] 26 2 rfl
  have hL0 := ruls_below hbox hL
  obtain ⟨W0, hW0⟩ : ∃ W, w.alloc (.cells #[.int .i64 k, .int .i64 a, .slice A0 L.length c0] 26) = W := ⟨_, rfl⟩
  rw [hW0] at hbox r0 r1 r2 hL0
  have CK := Lib.hid (check_any k a _ L W0 hL0)
  have HL0 : Hid (∀ W, Below W0.heap.size W0 W → RulsAt W (.slice A0 L.length c0) L) := Lib.hid (fun W hb => ruls_below hb hL0)
  have NB : Hid (∀ W, Below W0.heap.size W0 W → Calls Try.prog 20 #[.agg #[.int .i64 k, .int .i64 a, .slice A0 L.length c0]] W (fun e w' => ∃ v, e = .returned v ∧ NumsAt w' v (numsV L) ∧ Below W.heap.size W w')) := Lib.hid (fun W hb => numbers_any k a _ L W (HL0.out W hb) hl)
  have V1 := Lib.hid (fun W => value_any 1 0 W)
  have V2 := Lib.hid (fun W => value_any k a W)
  have h30 := numsV_len L
  have hlen := light_len hl
  have HWf := Lib.hid hw
  have HLen := Lib.hid hlen
  obtain ⟨n, hn⟩ : ∃ n, L.length = n := ⟨_, rfl⟩
  obtain ⟨N, hN⟩ : ∃ N, (numsV L).length = N := ⟨_, rfl⟩
  have Hn := Lib.hid hn
  have HN := Lib.hid hN
  have h70 : n ≤ 70 := by rw [← hn]; exact hlen.1
  rw [hn] at CK HL0 NB r2 hW0 ⊢
  rw [hN] at h30
  have HBox := Lib.hid hbox
  obtain ⟨F, hF⟩ : ∃ F, checkV k a L = F := ⟨_, rfl⟩
  rw [hF] at CK
  unfold pairT at CK
  obtain ⟨f1, f2⟩ := F
  simp only at CK ⊢
  have HF := Lib.hid hF
  have hszW0 := hbox.size
  clear hL hl hw hL0 hlen hn hN hbox hF
  by_cases hf : f1 = 0
  case neg =>
    have hfE : (f1 == 0) = false := by simpa using hf
    go_enter Try.func10, Try.ntmps10
    go_wp2_with (go_at_call 18; (with_reducible refine CK.out.mono ?_); rintro e_ w1 ⟨rfl, hb1⟩)
    go_ret2
    exact comp_err (HBox.out.trans (hb1.mono hszW0)) HF.out hf
  subst hf
  have ha : Hid (actB k a = true ∧ rulesB k a L = true) := Lib.hid (by
    have h1 := HF.out
    unfold checkV at h1
    split at h1
    · rename_i h2
      refine ⟨?_, h2⟩
      unfold rulesB at h2
      simp only [Bool.and_eq_true] at h2
      exact h2.1.1
    · simp at h1)
  rw [ha.out.1] at V2
  rw [show actB 1 0 = true from rfl] at V1
  simp only [if_true] at V1 V2
  go_enter Try.func10, Try.ntmps10
  go_upto_region 6 with (first | (go_at_call 18; (with_reducible refine CK.out.mono ?_); rintro e_ w1 ⟨rfl, hb1⟩; have s0 := keep_cell hb1 r0; have s1 := keep_cell hb1 r1; have s2 := keep_cell hb1 r2; have HB1 := Lib.hid hb1; clear hb1 r0 r1 r2) | (go_at_call 19; (with_reducible refine (V1.out _).mono ?_); rintro e_ w2 ⟨rfl, hb2⟩; have t0 := keep_cell hb2 s0; have t1 := keep_cell hb2 s1; have t2 := keep_cell hb2 s2; have HB2 := Lib.hid hb2; clear hb2 s0 s1 s2 V1) | (go_at_call 19; (with_reducible refine (V2.out _).mono ?_); rintro e_ w3 ⟨rfl, hb3⟩; have u0 := keep_cell hb3 t0; have u1 := keep_cell hb3 t1; have u2 := keep_cell hb3 t2; have HB3 := Lib.hid hb3; clear hb3 t0 t1 t2))
  have b03 : Below W0.heap.size W0 w3 := (HB1.out.trans (HB2.out.mono HB1.out.size)).trans (HB3.out.mono (Nat.le_trans HB1.out.size HB2.out.size))
  have y0 : w3.drew.cell? ⟨w.heap.size, 0, none⟩ = some (.int .i64 k) := u0
  have y1 : w3.drew.cell? ⟨w.heap.size, 1, none⟩ = some (.int .i64 a) := u1
  have y2 : w3.drew.cell? ⟨w.heap.size, 2, none⟩ = some (.slice A0 n c0) := u2
  have NB1 : Hid (Calls Try.prog 20 #[.agg #[.int .i64 k, .int .i64 a, .slice A0 n c0]] w3.drew (fun e w' => ∃ v, e = .returned v ∧ NumsAt w' v (numsV L) ∧ Below w3.drew.heap.size w3.drew w')) := Lib.hid (NB.out w3.drew b03.drew)
  have HB03 := Lib.hid b03
  have hsz3 := b03.size
  clear b03 HB1 HB2 HB3 V2
  obtain ⟨i9, hi9, hy0, hy1, hy2⟩ := info_parts info29
  have hmk : ∀ u : World, (Instr.makeSlice 62 (.int .i64 (N : Int)) (.int .i64 (N : Int))).run Try.prog u = .ok (.slice (some ⟨u.heap.size, 0, none⟩) N N) (u.alloc (.cells (madeCells #[.slice none 0 0] N) 29)) := fun u => by
    have := run_makeSlice (P := Try.prog) u 62 29 i9 (.slice none 0 0) under62 hi9 hy0 .i64 .i64 N N (by omega) (Int.le_refl _) (by rw [hy1]; omega) (by rw [hy2]; omega) (by omega)
    simpa [hy1, Value.cells] using this
  clear hi9 hy0 hy1 hy2
  go_cut [10] (fun p wx => PlanAt N L w3 p wx)
  case first =>
    have ya0 := fun ob => keep_cell (below_alloc w3 ob) u0
    have ya1 := fun ob => keep_cell (below_alloc w3 ob) u1
    have ya2 := fun ob => keep_cell (below_alloc w3 ob) u2
    go_region_law (first
      | (go_simp; go_at_call 20; (with_reducible refine (NB.out _ (by first | exact HB03.out | exact HB03.out.drew | exact HB03.out.alloc hsz3 _ | exact (HB03.out.alloc hsz3 _).drew | exact HB03.out.drew.alloc hsz3 _)).mono ?_); rintro e_ w4 ⟨v4, rfl, hn4, hb4'⟩; obtain ⟨A4, c4, rfl⟩ := nums_form hn4; rw [HN.out]; rw [HN.out] at hn4; have hb4 : Below w3.heap.size w3 w4 := (by first | exact hb4' | exact undrew hb4' | exact undrew (below_of hb4') | exact below_of (undrew hb4')); have x0 := keep_cell hb4 u0; have x1 := keep_cell hb4 u1; have x2 := keep_cell hb4 u2; have xa0 := fun ob => keep_cell (below_alloc w4 ob) x0; have xa1 := fun ob => keep_cell (below_alloc w4 ob) x1; have xa2 := fun ob => keep_cell (below_alloc w4 ob) x2; have Hb4 := Lib.hid hb4; have Hn4 := Lib.hid hn4; have sz4 := hb4.size; (try (have pa4 : w4.heap[w3.heap.size]? = some (.cells #[.slice none 0 0, .slice none 0 0] 64 (0, 0)) := (hb4'.block w3.heap.size (by simp)).trans (by first | exact World.alloc_heap_new w3 _ | exact World.alloc_heap_new w3.drew _); have Pa4 := Lib.hid pa4; clear pa4)); clear hb4 hn4 hb4')
      | (go_simp; go_at_call 20; (with_reducible refine (NB.out _ (by first | exact HB03.out.trans (Hb4.out.mono hsz3) | exact (HB03.out.trans (Hb4.out.mono hsz3)).alloc (Nat.le_trans hsz3 sz4) _)).mono ?_); rintro e_ w5 ⟨v5, rfl, hn5, hb5'⟩; obtain ⟨A5, c5, rfl⟩ := nums_form hn5; rw [HN.out]; have hb5 : Below w4.heap.size w4 w5 := (by first | exact hb5' | exact below_of hb5'); have z0 := keep_cell hb5 x0; have Hb5 := Lib.hid hb5; have sz5 := hb5.size; (try (have pb5 : w5.heap[w4.heap.size]? = some (.cells #[.slice none 0 0, .slice none 0 0] 64 (0, 0)) := (hb5'.block w4.heap.size (by simp)).trans (World.alloc_heap_new w4 _); have pc0 := fun ob => plan_cell0 pb5 ob; have pc1 := fun ob => plan_cell1 pb5 ob; have pf0 := fun ob => plan_fz pb5 0 ob; have pf1 := fun ob => plan_fz pb5 1 ob; have Pb5 := Lib.hid pb5; clear pb5)); (try (have pb5 : w5.heap[w3.heap.size]? = some (.cells #[.slice none 0 0, .slice none 0 0] 64 (0, 0)) := (hb5.block w3.heap.size (Array.getElem?_eq_some_iff.1 Pa4.out).1).trans Pa4.out; have pc0 := fun ob => plan_cell0 pb5 ob; have pc1 := fun ob => plan_cell1 pb5 ob; have pf0 := fun ob => plan_fz pb5 0 ob; have pf1 := fun ob => plan_fz pb5 1 ob; have Pb5 := Lib.hid pb5; clear pb5)); clear hb5 hn5 hb5')
      | fail)
    all_goals
      go_wp2
      go_meet
      case rel => first
        | exact plan_A (nums_below Hn4.out Hb5.out) (Hb4.out.trans (Hb5.out.mono sz4))
        | exact plan_B (nums_below Hn4.out Hb5.out) (Hb4.out.trans (Hb5.out.mono sz4))
        | exact plan_C Pb5.out (by omega) (nums_below Hn4.out Hb5.out) (Hb4.out.trans (Hb5.out.mono sz4))
  case rest =>
    obtain ⟨pb, lb, A4, c4, rfl, hpb, hlb, hnn, h3p, h3l, hpl, hbc⟩ := hcut
    have pc0 : wc.cell? ⟨pb, 0, none⟩ = some (.slice A4 N c4) := by unfold World.cell?; rw [hpb]; rfl
    have pc1 : wc.cell? ⟨pb, 1, none⟩ = some (.slice (some ⟨lb, 0, none⟩) N N) := by unfold World.cell?; rw [hpb]; rfl
    have v2 := keep_cell hbc u2
    have b0 : Below W0.heap.size W0 wc := HB03.out.trans (hbc.mono hsz3)
    have hst : OutC k a L N lb wc (.int .i64 0) wc := by
      refine ⟨0, List.replicate N (.slice none 0 0), Nat.zero_le _, rfl, by simp, ?_, fun j _ hj => ?_, fun j nr hj => absurd hj (by omega), Upto.refl _ _⟩
      · unfold Tab
        rw [hlb, ← toList_madeCells_one, Array.toArray_toList]
      · simp [List.getElem?_replicate, hj]
    have HST := Lib.hid hst
    have HNums : Hid (∀ W, Upto (fun k => k = lb) wc W → NumsAt W (.slice A4 N c4) (numsV L)) := Lib.hid (fun W hu => nums_off hnn hlb hu)
    have B0 := Lib.hid b0
    have hszc := b0.size
    have hpbl := (Array.getElem?_eq_some_iff.1 hpb).1
    have hlbl := (Array.getElem?_eq_some_iff.1 hlb).1
    have hwlb : w.heap.size < lb := by
      have : W0.heap.size = w.heap.size + 1 := by rw [← hW0]; simp
      omega
    have hlb0 : W0.heap.size ≤ lb := by omega
    clear hst hnn hlb hpb hbc b0 hmk u0 u1 u2 y0 y1 y2 NB1
    go_wp2
    go_loopw [50] (fun iv wr => OutC k a L N lb wc iv wr) (fun iv _ => N - (intOf iv).toNat)
    case atStart => exact HST.out
    case round =>
      obtain ⟨i, vs, hi, rfl, hvl, htb, hnil, hrd, hu⟩ := hrel
      obtain ⟨wo, rfl⟩ : ∃ wo, wo = wr := ⟨wr, rfl⟩
      have HU := Lib.hid hu
      have BO : Hid (Below W0.heap.size W0 wo) := Lib.hid (B0.out.trans (hu.toBelow hszc (fun k hk => by omega)))
      have p1 := hu.cell (p := ⟨pb, 1, none⟩) (by show ¬ pb = lb; omega) pc1
      have d2 := hu.cell (p := ⟨w.heap.size, 2, none⟩) (by show ¬ w.heap.size = lb; omega) v2
      have hszo := hu.size
      by_cases hlt : i < N
      case neg =>
        obtain rfl : i = N := by omega
        have hLv := out_lv (k := k) (a := a) (L := L) (N := i) (lb := lb) (wc := wc) (wr := wo) (iv := .int .i64 i) ⟨i, vs, hi, rfl, hvl, htb, hnil, hrd, hu⟩ rfl HN.out
        have hNu := HNums.out wo hu
        have p0 := hu.cell (p := ⟨pb, 0, none⟩) (by show ¬ pb = lb; omega) pc0
        have ab := below_alloc wo (.cells #[.int .u16 32, .int .u8 0, .int .u8 0, .int .u32 4, .int .u16 21, .int .u8 1, .int .u8 0, .int .u32 3221225534, .int .u16 6, .int .u8 0, .int .u8 0, .int .u32 (valV 1 0), .int .u16 32, .int .u8 0, .int .u8 0, .int .u32 0] 70)
        have hH : InsOwn wo.heap.size (wo.alloc (.cells #[.int .u16 32, .int .u8 0, .int .u8 0, .int .u32 4, .int .u16 21, .int .u8 1, .int .u8 0, .int .u32 3221225534, .int .u16 6, .int .u8 0, .int .u8 0, .int .u32 (valV 1 0), .int .u16 32, .int .u8 0, .int .u8 0, .int .u32 0] 70)) (.slice (some ⟨wo.heap.size, 0, none⟩) 4 4) headL := own_new rfl rfl rfl (Nat.le_refl _) (by simp [headL])
        have p0a := keep_cell ab p0
        have p1a := keep_cell ab p1
        have hLva := hLv.below ab
        have hNua := nums_below hNu ab
        have hsx : (wo.alloc (.cells #[.int .u16 32, .int .u8 0, .int .u8 0, .int .u32 4, .int .u16 21, .int .u8 1, .int .u8 0, .int .u32 3221225534, .int .u16 6, .int .u8 0, .int .u8 0, .int .u32 (valV 1 0), .int .u16 32, .int .u8 0, .int .u8 0, .int .u32 0] 70)).heap.size = wo.heap.size + 1 := by simp
        obtain ⟨wh, hwh⟩ : ∃ wh, wo.alloc (.cells #[.int .u16 32, .int .u8 0, .int .u8 0, .int .u32 4, .int .u16 21, .int .u8 1, .int .u8 0, .int .u32 3221225534, .int .u16 6, .int .u8 0, .int .u8 0, .int .u32 (valV 1 0), .int .u16 32, .int .u8 0, .int .u8 0, .int .u32 0] 70) = wh := ⟨_, rfl⟩
        rw [hwh] at ab hH p0a p1a hLva hNua hsx
        have hH' : wh.ownsRow wo.heap.size 70 4 (.slice (some ⟨wo.heap.size, 0, none⟩) 4 4) 4 (rowI headL) := hH
        have HH := Lib.hid hH'
        have HLv := Lib.hid hLva
        have HNu := Lib.hid hNua
        have Bh : Hid (Below W0.heap.size W0 wh) := Lib.hid (BO.out.trans (ab.mono BO.out.size))
        have Bw : Hid (Below w.heap.size w wh) := Lib.hid (HBox.out.trans (Bh.out.mono HBox.out.size))
        have hb57 : ∀ b ∈ bodiesL k a L, 0 < b.length ∧ b.length ≤ 100000 := fun b hb => by
          obtain ⟨nr, _, rfl⟩ := List.mem_map.1 hb
          unfold bodyL
          have h1 := rulesL_len (nameV nr).1 L (fun y hy => ⟨(rules_fine ha.out.2 hy).2.1, (rules_fine ha.out.2 hy).2.2.1⟩)
          rw [Hn.out] at h1
          rw [List.length_append, List.length_singleton]
          omega
        have hbl : (bodiesL k a L).length = (numsV L).length := by unfold bodiesL; rw [List.length_map]
        have hszwo := BO.out.size
        have hszh := HBox.out.size
        clear hLv hNu p0 p1 ab hH hH' hLva hNua d2 htb hnil hrd hu hvl
        by_cases h0 : i = 0
        · subst h0
          have hnil : numsV L = [] := List.length_eq_zero_iff.1 HN.out
          have hcl : Hid (compL k a L = headL ++ [⟨6, 0, 0, valV k a⟩]) := Lib.hid (by unfold compL; rw [if_pos hnil])
          have hsrc : Hid (SrcAt (wh.alloc (.cells #[.int .u16 6, .int .u8 0, .int .u8 0, .int .u32 (valV k a)] 70)) 4 (some ⟨wh.heap.size, 0, none⟩) 1 [.int .u16 6, .int .u8 0, .int .u8 0, .int .u32 (valV k a)]) := Lib.hid ⟨rfl, fun _ => ⟨wh.heap.size, 0, rfl, fun j u hu => by rw [Nat.zero_add]; exact new_cell wh #[.int .u16 6, .int .u8 0, .int .u8 0, .int .u32 (valV k a)] 70 j (by rw [← Array.getElem?_toList]; exact hu)⟩, by simp [Value.oneCell']⟩
          have hoh : Hid ((wh.alloc (.cells #[.int .u16 6, .int .u8 0, .int .u8 0, .int .u32 (valV k a)] 70)).ownsRow wo.heap.size 70 4 (.slice (some ⟨wo.heap.size, 0, none⟩) 4 4) 4 (rowI headL)) := Lib.hid (HH.out.alloc _)
          rw [hsx] at hsrc
          have hba := Lib.hid (below_alloc wh (.cells #[.int .u16 6, .int .u8 0, .int .u8 0, .int .u32 (valV k a)] 70))
          clear hnil hb57 hbl
          go_wp2_with (at_builtin; refine wpList_append_src _ rfl _ _ 29 rfl wo.heap.size 70 i0 _ 4 8 under29 hi0 hz0 hz1 hz2 rfl (by decide) _ _ _ rfl hoh.out (some ⟨wo.heap.size + 1, 0, none⟩) 1 1 [.int .u16 6, .int .u8 0, .int .u8 0, .int .u32 (valV k a)] rfl hsrc.out (by unfold maxLen; omega) (by omega) (by simp; omega) ?_; intro v7 w7 hown7 hg7 hat7; obtain ⟨A7, c7, rfl⟩ := owns_form hown7; have k7 := grownI0 (B := wo.heap.size) (hba.out.mono (by omega)) (by omega) hoh.out hg7; have Hown7 := Lib.hid hown7; have K7 := Lib.hid k7; clear hown7 hg7 hat7 k7; go_frame)
          have hfin : CompPost k a L w (.returned (.tuple #[.slice A7 (4 + 1) c7, .int .i64 0])) w7 := by
            refine comp_ok (Bw.out.trans (K7.out.mono (by omega))) HF.out (by rw [hcl.out]; rfl) (by omega) ?_
            have ho := Hown7.out
            have hx : InsOwn wo.heap.size w7 (.slice A7 (4 + 1) c7) (headL ++ [⟨6, 0, 0, valV k a⟩]) := by
              unfold InsOwn
              rw [rowI_append]
              exact ho
            rw [hcl.out]
            exact ownI_down hx (by omega)
          have HFin := Lib.hid hfin
          clear hfin
          go_ret2
          exact HFin.out
        · have hne : numsV L ≠ [] := fun e => h0 (by rw [← HN.out, e]; rfl)
          have hcl : Hid (compL k a L = headL ++ partL (numsV L) (bodiesL k a L) 0 i) := Lib.hid (by unfold compL; rw [if_neg hne, HN.out])
          obtain ⟨PL, hPL⟩ : ∃ P, partL (numsV L) (bodiesL k a L) 0 i = P := ⟨_, rfl⟩
          obtain ⟨pl, hpl⟩ : ∃ n, PL.length = n := ⟨_, rfl⟩
          have hpl2 : pl + 2 ≤ i * (100000 + 4) := by
            rw [← hpl, ← hPL]
            exact partL_len (numsV L) (bodiesL k a L) 100000 (fun q => by
              rw [List.getD_eq_getElem?_getD]
              cases he : (bodiesL k a L)[q]? with
              | none => simp
              | some b => simpa using (hb57 b (List.mem_of_getElem? he)).2) i 0 i rfl (by omega)
          have hpl3 : pl ≤ 4000000 := by omega
          have PT : Hid (Calls Try.prog 23 #[.agg #[.slice A4 i c4, .slice (some ⟨lb, 0, none⟩) i i], .int .i64 0, .int .i64 i] wh (OneI wh.heap.size pl PL wh)) := Lib.hid (by
            rw [← hpl, ← hPL]
            exact part_any (numsV L) (bodiesL k a L) _ _ hbl (by rw [HN.out]; omega) hb57 i 0 i rfl (by omega) (by rw [HN.out]; exact Nat.le_refl _) wh HNu.out HLv.out)
          rw [hPL] at hcl
          have Hpl := Lib.hid hpl
          have h0E : (0 : Int) < i := by omega
          by_cases hlong : 4 + pl ≤ 4096
          all_goals
            clear hne hPL hpl hpl2 hb57 hbl
            first
              | (have hlE : (4096 : Int) < 4 + pl := by omega)
              | (have hlE : ¬ (4096 : Int) < 4 + pl := by omega)
            go_wp2_with (first
              | (at_builtin; refine wpList_append_src _ rfl _ _ 29 rfl wo.heap.size 70 i0 _ 4 8 under29 hi0 hz0 hz1 hz2 rfl (by decide) _ _ _ rfl (own_low HH.out Hb5.out) A5 pl c5 (rowI PL) rfl (src_own Ho5.out (rowI_cells PL)) (by unfold maxLen; omega) (by omega) (by omega) ?_; intro v7 w7 hown7 hg7 hat7; obtain ⟨A7, c7, rfl⟩ := owns_form hown7; have k7 := grownI0 (B := wo.heap.size) (Hb5.out.mono (by omega)) (by omega) (own_low HH.out Hb5.out) hg7; have Hown7 := Lib.hid hown7; have K7 := Lib.hid k7; clear hown7 hg7 hat7 k7; go_frame)
              | (go_at_call 23; (with_reducible refine PT.out.mono ?_); rintro e_ w5 ⟨A5, c5, rfl, ho5, hb5⟩; have Ho5 := Lib.hid ho5; have Hb5 := Lib.hid hb5; have sz5 := hb5.size; clear ho5 hb5))
            have hcn : (compL k a L).length = 4 + pl := by rw [hcl.out, List.length_append, Hpl.out]; rfl
            first
              | (have hfin : CompPost k a L w (.returned (.tuple #[.slice none 0 0, .int .i64 4])) w7 := comp_long (Bw.out.trans (K7.out.mono (by omega))) HF.out (by rw [hcn]; omega)
                 have HFin := Lib.hid hfin
                 clear hfin hcn
                 go_ret2
                 exact HFin.out)
              | (have hfin : CompPost k a L w (.returned (.tuple #[.slice A7 (4 + pl) c7, .int .i64 0])) w7 := by
                   refine comp_ok (Bw.out.trans (K7.out.mono (by omega))) HF.out hcn (by omega) ?_
                   have ho := Hown7.out
                   have hx : InsOwn wo.heap.size w7 (.slice A7 (4 + pl) c7) (headL ++ PL) := by
                     unfold InsOwn
                     rw [rowI_append, List.length_append, Hpl.out]
                     exact ho
                   have hy : InsOwn w.heap.size w7 (.slice A7 (4 + pl) c7) (headL ++ PL) := ownI_down hx (by omega)
                   unfold InsOwn at hy
                   rw [← hcl.out, hcn] at hy
                   exact hy
                 have HFin := Lib.hid hfin
                 clear hfin hcn
                 go_ret2
                 exact HFin.out)
      obtain ⟨nr, hnr⟩ : ∃ x, (numsV L)[i]? = some x := ⟨_, List.getElem?_eq_getElem (by rw [HN.out]; omega)⟩
      obtain ⟨A', c', e, hc⟩ := HNums.out wo hu
      injection e with e1 e2 e3
      subst e1
      obtain ⟨ng, no, rfl, hc2⟩ := hc (by rw [HN.out]; omega)
      have cn := hc2 i nr hnr
      have hlt' : (i : Int) < N := by omega
      have NM := name_any nr wo
      unfold nameT at NM
      obtain ⟨nm, hnm⟩ : ∃ nm, (nameV nr).1 = nm := ⟨_, rfl⟩
      obtain ⟨nb, hnb⟩ : ∃ nb, (nameV nr).2 = nb := ⟨_, rfl⟩
      rw [hnm, hnb] at NM
      have Hnm := Lib.hid hnm
      have Hnr := Lib.hid hnr
      have Htb := Lib.hid htb
      have Hnil := Lib.hid hnil
      have Hrd := Lib.hid hrd
      have Hvl := Lib.hid hvl
      clear hc hc2 e2 e3 hnm hnb hnr htb hnil hrd hu hvl
      go_wp2_with (go_at_call 21; (with_reducible refine NM.mono ?_); rintro e_ w1 ⟨rfl, hb1⟩; have lx2 := keep_cell hb1 d2; have lp1 := keep_cell hb1 p1; have B1 := Lib.hid (BO.out.trans (hb1.mono BO.out.size)); have Hb1 := Lib.hid hb1; have sz1 := hb1.size; clear hb1)
      have ht1 := Htb.out.below Hb1.out
      have hvi := Hnil.out i (Nat.le_refl _) hlt
      have hmst : MidC L nm n i lb vs w1 (.int .i64 0) w1 := by
        refine ⟨0, .slice none 0 0, Nat.zero_le _, rfl, ?_, World.ownsRow_nil _ _ _ _, Upto.refl _ _⟩
        have : vs.set i (.slice none 0 0) = vs := by
          apply List.ext_getElem?
          intro q
          rw [List.getElem?_set]
          by_cases hq : i = q
          · subst hq
            rw [if_pos rfl, if_pos (by rw [Hvl.out]; exact hlt), hvi]
          · rw [if_neg hq]
        rw [this]
        exact ht1
      have HMst := Lib.hid hmst
      clear hmst ht1 hvi p1 d2 cn NM
      go_loopw [63] (fun iv wr => MidC L nm n i lb vs w1 iv wr) (fun iv _ => n - (intOf iv).toNat)
      case atStart => exact HMst.out
      case round =>
        obtain ⟨r, u, hr, rfl, htm, hom, hum⟩ := hrel
        obtain ⟨wm, rfl⟩ : ∃ wm, wm = wr := ⟨wr, rfl⟩
        have BM : Hid (Below W0.heap.size W0 wm) := Lib.hid (B1.out.trans (hum.toBelow B1.out.size (fun k hk => by omega)))
        have p1 := hum.cell (p := ⟨pb, 1, none⟩) (by show ¬ pb = lb; omega) lp1
        have szm := hum.size
        have Htm := Lib.hid htm
        have Hom := Lib.hid hom
        have Hum := Lib.hid hum
        clear htm hom hum
        by_cases hrn : r < n
        case neg =>
          obtain rfl : r = n := by omega
          obtain ⟨lc, hlc⟩ : ∃ l, rulesL nm L = l := ⟨_, rfl⟩
          have hoi : InsOwn w1.heap.size wm u lc := by
            have := Hom.out
            rw [← Hn.out, List.take_length, hlc] at this
            exact this
          have hlen1 : lc.length ≤ 100000 := by
            rw [← hlc]
            have h1 := rulesL_len nm L (fun y hy => ⟨(rules_fine ha.out.2 hy).2.1, (rules_fine ha.out.2 hy).2.2.1⟩)
            rw [Hn.out] at h1
            omega
          obtain ⟨lq, hlq⟩ : ∃ l, lc.length = l := ⟨_, rfl⟩
          have hou : wm.ownsRow w1.heap.size 70 4 u lq (rowI lc) := by rw [← hlq]; exact hoi
          rw [hlq] at hlen1
          obtain ⟨Au, cu, rfl⟩ := owns_form hou
          have Hlc := Lib.hid hlc
          have Hlq := Lib.hid hlq
          have t0 : wm.cell? ⟨lb, i, none⟩ = some (.slice Au lq cu) := by rw [Htm.out.cell, List.getElem?_set, if_pos rfl, if_pos (by rw [Hvl.out]; exact hlt)]
          have tz := Htm.out.fz i
          have hil : i < (vs.set i (.slice Au lq cu)).length := by rw [List.length_set, Hvl.out]; exact hlt
          have ab := below_alloc wm (.cells #[.int .u16 6, .int .u8 0, .int .u8 0, .int .u32 (valV k a)] 70)
          have HoA : Hid (∀ W, Below wm.heap.size wm W → W.ownsRow w1.heap.size 70 4 (.slice Au lq cu) lq (rowI lc)) := Lib.hid (fun W hW => own_low hou hW)
          have HsA : Hid (∀ W, Below (wm.alloc (.cells #[.int .u16 6, .int .u8 0, .int .u8 0, .int .u32 (valV k a)] 70)).heap.size (wm.alloc (.cells #[.int .u16 6, .int .u8 0, .int .u8 0, .int .u32 (valV k a)] 70)) W → SrcAt W 4 (some ⟨wm.heap.size, 0, none⟩) 1 [.int .u16 6, .int .u8 0, .int .u8 0, .int .u32 (valV k a)]) := Lib.hid (fun W hW => ⟨rfl, fun _ => ⟨wm.heap.size, 0, rfl, fun j u hu => by rw [Nat.zero_add]; exact keep_cell hW (new_cell wm #[.int .u16 6, .int .u8 0, .int .u8 0, .int .u32 (valV k a)] 70 j (by rw [← Array.getElem?_toList]; exact hu))⟩, by simp [Value.oneCell']⟩)
          have Ab := Lib.hid ab
          have hpa := fun ob => keep_cell (below_alloc wm ob) p1
          have hta := fun ob => keep_cell (below_alloc wm ob) t0
          have hlbw := Htm.out.lt
          have hra : Hid (r ≤ 70) := Lib.hid h70
          clear hlc hlq hou hoi ab
          have HX : Hid ((lq + 1, rowI lc ++ [.int .u16 6, .int .u8 0, .int .u8 0, .int .u32 (valV k a)]) = ((rulesL (nameV nr).1 L).length + 1, rowI (rulesL (nameV nr).1 L) ++ [.int .u16 6, .int .u8 0, .int .u8 0, .int .u32 (valV k a)])) := Lib.hid (by rw [Hnm.out, Hlc.out, Hlq.out])
          go_upto_region 21 with (fail)
          go_region_law (first
            | (refine step_append_src _ (by rfl) (Operand.tmp 98) (Operand.tmp 101) _ (by rfl) w1.heap.size 70 i0 _ 4 8 under29 hi0 hz0 hz1 hz2 rfl (by decide) (.slice Au lq cu) lq (rowI lc) (by rfl) (HoA.out _ (by first | exact Ab.out | exact Ab.out.drew | exact (Below.refl _ _).drew.alloc (Nat.le_refl _) _)) (some ⟨wm.heap.size, 0, none⟩) 1 1 [.int .u16 6, .int .u8 0, .int .u8 0, .int .u32 (valV k a)] (by rfl) (HsA.out _ (by first | exact Below.refl _ _ | exact (Below.refl _ _).drew)) (by unfold maxLen; omega) (by omega) (by first | omega | (simp; omega)) ?_; intro v7 w7 hown7 hg7 hat7; obtain ⟨A7, c7, rfl⟩ := owns_form hown7; have tb7 := (Htm.out.below (by first | exact Ab.out | exact Ab.out.drew | exact (Below.refl _ _).drew.alloc (Nat.le_refl _) _)).grown hg7 (HoA.out _ (by first | exact Ab.out | exact Ab.out.drew | exact (Below.refl _ _).drew.alloc (Nat.le_refl _) _)); have k7 : Below w1.heap.size wm w7 := grownI0 (B := w1.heap.size) (Below.mono (by first | exact Ab.out | exact Ab.out.drew | exact (Below.refl _ _).drew.alloc (Nat.le_refl _) _) szm) szm (HoA.out _ (by first | exact Ab.out | exact Ab.out.drew | exact (Below.refl _ _).drew.alloc (Nat.le_refl _) _)) hg7; have y7 : w7.cell? ⟨pb, 1, none⟩ = some (.slice (some ⟨lb, 0, none⟩) N N) := (k7.cell (show pb < w1.heap.size by omega)).trans p1; have yc7 : w7.cell? ⟨lb, i, none⟩ = some (.slice Au lq cu) := (by rw [tb7.cell, List.getElem?_set, if_pos rfl, if_pos (by rw [Hvl.out]; exact hlt)]); have yz7 := tb7.fz i; have Hown7 := Lib.hid hown7; have TB7 := Lib.hid tb7; have K7 := Lib.hid k7; clear hown7 hg7 hat7 tb7 k7)
            | fail)
          all_goals
            have hout : OutC k a L N lb wc (.int .i64 ((i + 1 : Nat) : Int)) (w7.setCell ⟨lb, i, none⟩ (.slice A7 (lq + 1) c7)) :=
              out_next (k := k) (a := a) (L := L) (N := N) (lb := lb) (i := i) (lq := lq) (c7 := c7) (wc := wc) (wo := wo) (w1 := w1) (wm := wm) (w7 := w7) (vs := vs) (u0 := .slice Au lq cu) (A7 := A7) (nr := nr) (xs := rowI lc ++ [.int .u16 6, .int .u8 0, .int .u8 0, .int .u32 (valV k a)]) HU.out Hb1.out Hum.out K7.out hlbl hlt Hvl.out TB7.out Hown7.out HX.out Hnr.out Hnil.out Hrd.out
            have HOut := Lib.hid hout
            clear hout
            go_wp2
            go_roundw
            case rel => exact (by go_num : ((i + 1 : Nat) : Int) = (i : Int) + 1) ▸ HOut.out
            case measure => (simp [intOf] <;> omega)
        obtain ⟨x, hx⟩ : ∃ x, L[r]? = some x := ⟨_, List.getElem?_eq_getElem (by rw [Hn.out]; omega)⟩
        obtain ⟨A'', c'', e, _, hcl⟩ := HL0.out W0 (Below.refl _ _)
        rw [Hn.out] at e hcl
        injection e with e1 e2 e3
        clear e2
        subst e1 e3
        obtain ⟨gl, go, rfl, hcl2⟩ := hcl (by omega)
        obtain ⟨nv, cv, e0, e1, e2, e3, hns, hcs⟩ := hcl2 r x hx
        have q0 := keep_cell BM.out e0
        have q1 := keep_cell BM.out e1
        have q2 := keep_cell BM.out e2
        have q3 := keep_cell BM.out e3
        have hfx := rules_fine ha.out.2 (List.mem_of_getElem? hx)
        have hwx := HWf.out x (List.mem_of_getElem? hx)
        have Hx := Lib.hid hx
        have Hfx := Lib.hid hfx
        have Hwx := Lib.hid hwx
        obtain ⟨Bn, cn', rfl⟩ := hns.form
        obtain ⟨Bc, cc, rfl⟩ := hcs.form
        have Hns := Lib.hid hns
        have Hcs := Lib.hid hcs
        have hm16 := hfx.2.1
        obtain ⟨m, hm⟩ : ∃ m, x.ns.length = m := ⟨_, rfl⟩
        obtain ⟨mc, hmc⟩ : ∃ m, x.cs.length = m := ⟨_, rfl⟩
        have Hm := Lib.hid hm
        have Hmc := Lib.hid hmc
        rw [hm] at q2 hm16 Hns
        rw [hmc] at q3 Hcs
        have hrlt : (r : Int) < n := by omega
        clear hcl hcl2 e0 e1 e2 e3 hx hfx hwx hns hcs hm hmc
        have hblk : Blk (wm.alloc (.cells #[.int .i64 x.k, .int .i64 x.a, .slice Bn m cn', .slice Bc mc cc] 44)) wm.heap.size x.k x.a (.slice Bn m cn') (.slice Bc mc cc) := World.alloc_heap_new wm _
        have hab := below_alloc wm (.cells #[.int .i64 x.k, .int .i64 x.a, .slice Bn m cn', .slice Bc mc cc] 44)
        obtain ⟨w2, hw2⟩ : ∃ w2, wm.alloc (.cells #[.int .i64 x.k, .int .i64 x.a, .slice Bn m cn', .slice Bc mc cc] 44) = w2 := ⟨_, rfl⟩
        rw [hw2] at hblk hab
        have hblt := hblk.lt
        have b2 := hblk.c2
        obtain ⟨l0, hl0⟩ : ∃ l0, rulesL nm (L.take r) = l0 := ⟨_, rfl⟩
        have Hl0 := Lib.hid hl0
        have hist : InC l0 x nm m i lb wm.heap.size (.slice Bn m cn') (.slice Bc mc cc) vs w1 (.int .i64 0) w2 := by
          refine ⟨0, u, Nat.zero_le _, rfl, Htm.out.below hab, ?_, hblk, Hum.out.below hab⟩
          have := own_low Hom.out hab
          rw [hl0] at this
          unfold InsOwn
          rw [List.take_zero, show namesL' x nm [] = [] from rfl, List.append_nil]
          exact this
        have HIst := Lib.hid hist
        clear hist hblk hab hl0
        go_wp2
        go_loopw [70] (fun iv wr => InC l0 x nm m i lb wm.heap.size (.slice Bn m cn') (.slice Bc mc cc) vs w1 iv wr) (fun iv _ => m - (intOf iv).toNat)
        case atStart => exact HIst.out
        case round =>
          obtain ⟨j, u', hj, rfl, hti, hoi, hbi, hui⟩ := hrel
          have szi := hui.size
          have p1' := hui.cell (p := ⟨pb, 1, none⟩) (by show ¬ pb = lb; omega) lp1
          have BI : Hid (Below W0.heap.size W0 wr) := Lib.hid (B1.out.trans (hui.toBelow B1.out.size (fun k hk => by omega)))
          by_cases hjm : j < m
          case neg =>
            obtain rfl : j = m := by omega
            have hnx : MidC L nm n i lb vs w1 (.int .i64 ((r + 1 : Nat) : Int)) wr := by
              refine ⟨r + 1, u', by omega, rfl, hti, ?_, hui⟩
              rw [rulesL_take Hx.out, Hl0.out]
              rw [← Hm.out, List.take_length] at hoi
              exact hoi
            have HNx := Lib.hid hnx
            clear hnx hti hoi hbi hui
            go_wp2
            go_roundw
            case rel => exact (by go_num : ((r + 1 : Nat) : Int) = (r : Int) + 1) ▸ HNx.out
            case measure => (simp [intOf] <;> omega)
          obtain ⟨sn, hsn⟩ : ∃ s, x.ns[j]? = some s := ⟨_, List.getElem?_eq_getElem (by rw [Hm.out]; omega)⟩
          obtain ⟨Ab, cb, e, _, hsc⟩ := strs_below BI.out (strs_below (Below.refl _ _) Hns.out)
          injection e with e1 e2 e3
          clear e2
          subst e1
          obtain ⟨sg, so, rfl, hsc2⟩ := hsc (by rw [Hm.out]; omega)
          obtain ⟨cs0, _⟩ := hsc2 j sn hsn
          rw [Nat.mul_one] at cs0
          have hjm' : (j : Int) < m := by omega
          have htk := namesL_take (r := x) (nm := nm) hsn
          have Hti := Lib.hid hti
          have Hoi := Lib.hid hoi
          have Hbi := Lib.hid hbi
          have Hui := Lib.hid hui
          by_cases hs : sn = nm
          case neg =>
            have hsE := bytes_ne hs
            rw [if_neg hs, List.append_nil] at htk
            have Htk := Lib.hid htk
            clear hsc hsc2 e3 hsn htk hti hoi hbi hui
            go_wp2
            go_roundw
            case rel => exact ⟨j + 1, u', by omega, by go_num, Hti.out, by rw [Htk.out]; exact Hoi.out, Hbi.out, Hui.out⟩
            case measure => (simp [intOf] <;> omega)
          have hsE : (sn.toList == nm.toList) = true := by rw [hs]; simp
          rw [if_pos hs] at htk
          have Htk := Lib.hid htk
          obtain ⟨lc, hlc⟩ : ∃ l, l0 ++ namesL' x nm (x.ns.take j) = l := ⟨_, rfl⟩
          rw [hlc] at hoi
          have Hlc := Lib.hid hlc
          have hlen1 : lc.length ≤ 100000 := by
            rw [← hlc, List.length_append, ← Hl0.out]
            have h1 := rulesL_len nm (L.take r) (fun y hy => ⟨(rules_fine ha.out.2 (List.mem_of_mem_take hy)).2.1, (rules_fine ha.out.2 (List.mem_of_mem_take hy)).2.2.1⟩)
            have h2 := namesL_len x nm (x.ns.take j) Hfx.out.2.2.1
            have h3 : (L.take r).length ≤ 70 := by rw [List.length_take, Hn.out]; omega
            have h4 : (x.ns.take j).length ≤ 16 := by rw [List.length_take, Hm.out]; omega
            omega
          have hlen2 := ruleL_len x.k x.a x.cs Hfx.out.2.2.1
          obtain ⟨q, hq⟩ : ∃ q, (ruleL x.k x.a x.cs).length = q := ⟨_, rfl⟩
          obtain ⟨lq, hlq⟩ : ∃ l, lc.length = l := ⟨_, rfl⟩
          have RL : Hid (∀ W, Below wr.heap.size wr W → Calls Try.prog 22 #[.agg #[.int .i64 x.k, .int .i64 x.a, .slice (some ⟨sg, so, none⟩) m cn', .slice Bc mc cc]] W (OneI W.heap.size q (ruleL x.k x.a x.cs) W)) := Lib.hid (fun W hW => by
            rw [← hq]
            exact rule_any x.k x.a _ _ x.cs W Hfx.out.1 (fun W' hW' => cnds_below ((BI.out.trans (hW.mono BI.out.size)).trans (hW'.mono (Nat.le_trans BI.out.size hW.size))) Hcs.out) (fun c hc => ⟨Hfx.out.2.2.2 c hc, Hwx.out c hc⟩) Hfx.out.2.2.1)
          have hou : wr.ownsRow w1.heap.size 70 4 u' lq (rowI lc) := by rw [← hlq]; exact hoi
          rw [hq] at hlen2
          rw [hlq] at hlen1
          have Hq := Lib.hid hq
          have Hlq := Lib.hid hlq
          obtain ⟨Au, cu, rfl⟩ := owns_form hou
          have Hou := Lib.hid hou
          have hil : i < (vs.set i (.slice Au lq cu)).length := by rw [List.length_set, Hvl.out]; exact hlt
          have t0 : wr.cell? ⟨lb, i, none⟩ = some (.slice Au lq cu) := by rw [hti.cell, List.getElem?_set, if_pos rfl, if_pos (by rw [Hvl.out]; exact hlt)]
          have tz := hti.fz i
          have rb0 := hbi.c0
          have rb1 := hbi.c1
          have rb2 := hbi.c2
          have rb3 := hbi.c3
          have hlbw := hti.lt
          clear hsc hsc2 e3 hsn htk hti hoi hbi hui hs hlc hq hlq hou b2
          go_upto_region 18 with (fail)
          go_region_law (first
            | (go_simp; go_at_call 22; (with_reducible refine (RL.out _ (by first | exact Below.refl _ _ | exact (Below.refl _ _).drew)).mono ?_); rintro e_ w6 ⟨A6, c6, rfl, ho6, hb6'⟩; have hb6 : Below wr.heap.size wr w6 := (by first | exact hb6' | exact undrew hb6'); have y1 := keep_cell hb6 p1'; have y0 := keep_cell hb6 t0; have yz := (Hti.out.below hb6).fz i; have Ho6 : Hid (w6.ownsRow wr.heap.size 70 4 (.slice A6 q c6) q (rowI (ruleL x.k x.a x.cs))) := Lib.hid ho6; have Hb6 := Lib.hid hb6; have sz6 := hb6.size; clear ho6 hb6' hb6)
            | (refine step_append_src _ (by rfl) (Operand.tmp 84) (Operand.tmp 86) _ (by rfl) w1.heap.size 70 i0 _ 4 8 under29 hi0 hz0 hz1 hz2 rfl (by decide) (.slice Au lq cu) lq (rowI lc) (by rfl) (own_low Hou.out Hb6.out) A6 q c6 (rowI (ruleL x.k x.a x.cs)) (by rfl) (src_own Ho6.out (rowI_cells _)) (by unfold maxLen; omega) (by omega) (by omega) ?_; intro v7 w7 hown7 hg7 hat7; obtain ⟨A7, c7, rfl⟩ := owns_form hown7; have tb7 := (Hti.out.below Hb6.out).grown hg7 (own_low Hou.out Hb6.out); have bk7 := (Hbi.out.below Hb6.out).grown hg7 (own_low Hou.out Hb6.out); have k7 := grownI0 (B := w1.heap.size) (Hb6.out.mono szi) szi (own_low Hou.out Hb6.out) hg7; have y7 : w7.cell? ⟨pb, 1, none⟩ = some (.slice (some ⟨lb, 0, none⟩) N N) := (k7.cell (show pb < w1.heap.size by omega)).trans p1'; have yc7 : w7.cell? ⟨lb, i, none⟩ = some (.slice Au lq cu) := (by rw [tb7.cell, List.getElem?_set, if_pos rfl, if_pos (by rw [Hvl.out]; exact hlt)]); have yz7 := tb7.fz i; have Hown7 := Lib.hid hown7; have TB7 := Lib.hid tb7; have BK7 := Lib.hid bk7; have K7 := Lib.hid k7; clear hown7 hg7 hat7 tb7 bk7 k7)
            | fail)
          all_goals
            have hu7 : Upto (fun k => k = lb) w1 (w7.setCell ⟨lb, i, none⟩ (.slice A7 (lq + q) c7)) := (Hui.out.trans (T := fun k => w1.heap.size ≤ k) (below_upto_ge K7.out) (fun k hk => .inr hk)).setCell (p := ⟨lb, i, none⟩) (.inl rfl) _
            have hin : InC l0 x nm m i lb wm.heap.size (.slice (some ⟨sg, so, none⟩) m cn') (.slice Bc mc cc) vs w1 (.int .i64 ((j + 1 : Nat) : Int)) (w7.setCell ⟨lb, i, none⟩ (.slice A7 (lq + q) c7)) := by
              refine ⟨j + 1, .slice A7 (lq + q) c7, by omega, rfl, ?_, ?_, BK7.out.set (p := ⟨lb, i, none⟩) (by show lb ≠ wm.heap.size; omega) _, hu7⟩
              · have := TB7.out.set i (.slice A7 (lq + q) c7)
                rwa [List.set_set] at this
              · have h8 : (l0 ++ namesL' x nm (x.ns.take (j + 1))).length = lq + q := by rw [Htk.out, ← List.append_assoc, Hlc.out, List.length_append, Hlq.out, Hq.out]
                unfold InsOwn
                rw [h8, Htk.out, ← List.append_assoc, Hlc.out, rowI_append]
                exact own_set Hown7.out (p := ⟨lb, i, none⟩) (own_ne TB7.out Hown7.out) _
            have HIn := Lib.hid hin
            clear hin hu7
            go_wp2
            go_roundw
            case rel => exact (by go_num : ((j + 1 : Nat) : Int) = (j : Int) + 1) ▸ HIn.out
            case measure => (simp [intOf] <;> omega)
end Go.Proofs.Ytjmmbadpknlmcaa
