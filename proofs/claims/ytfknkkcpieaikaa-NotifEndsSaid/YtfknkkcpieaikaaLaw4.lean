/- NotifEnds: it answers true. Conditions: the calls can be read, and take no more than the form's reach. -/
import Derived.Test.YtfknkkcpieaikaaSide
namespace Go.Proofs.Ytfknkkcpieaikaa
open Go.RowKit
set_option linter.unusedVariables false
set_option linter.unusedSimpArgs false

set_option maxRecDepth 100000 in
set_option maxHeartbeats 16000000 in
theorem law_ends (s t : Int) (lv mv : Value) (L M : List Opn) (w : World) (hL : OpsAt w lv L) (hM : OpsAt w mv M) (hcap : ∀ A n c, mv = .slice A n c → n ≤ c ∧ c * 40 ≤ 140737488351232) : Calls Try.prog 4 #[.agg #[.int .i64 s, .int .i64 t], lv, mv] w (Ret (.bool true) w) := by
  have A0 := awake_any (w.alloc (X2 s t))
  have k0 := new_cell w #[.int .i64 s, .int .i64 t] 22 0 rfl
  have k1 := new_cell w #[.int .i64 s, .int .i64 t] 22 1 rfl
  have hb0 := below_alloc w (X2 s t)
  obtain ⟨i7, hi7, hz7, hs7, hb7⟩ := info_parts info37
  obtain ⟨i4, hi4, hz4, hs4, hb4⟩ := info_parts info41
  cases hok : newOk s t with
  | false =>
    have N := fun W => new_bad s t 1 hok W
    clear hok hL hM
    go_enter Try.func4, Try.ntmps4
    go_wp2_with (first
      | (go_at_call 8; refine A0.mono ?_; rintro e_ w1 ⟨rfl, hb1⟩; have d0 := keep_cell hb1 k0; have d1 := keep_cell hb1 k1)
      | (go_at_call 9; refine (N _).mono ?_; rintro e_ w2 ⟨rfl, rfl⟩))
    go_ret
    exact ⟨rfl, Below.trans hb0 (hb1.mono hb0.size)⟩
  | true =>
    have N := fun W => new_ok s t 1 hok (by omega) (by omega) W
    have HLw := Lib.hid hL
    have HMw := Lib.hid hM
    obtain ⟨Am, cm, rfl, hmlen, hM9⟩ := hM
    obtain ⟨hc1, hc2⟩ := hcap _ _ _ rfl
    clear hM9 hcap
    obtain ⟨m, hm⟩ : ∃ m, M.length = m := ⟨_, rfl⟩
    rw [hm] at hmlen HMw hc1 ⊢
    have Hm := Lib.hid hm
    obtain ⟨T1, hpl⟩ : ∃ T', (playL ⟨s, t, 1, 0, []⟩ (L.take 200)).2 = T' := ⟨_, rfl⟩
    clear hok hL hm
    go_enter Try.func4, Try.ntmps4
    go_wp2_with (first
      | (go_at_call 8; refine A0.mono ?_; rintro e_ w1 ⟨rfl, hb1⟩; have d0 := keep_cell hb1 k0; have d1 := keep_cell hb1 k1)
      | (go_at_call 9; refine (N _).mono ?_; rintro e_ w2 ⟨b, B, rfl, hbb, hBB, hT2, hb2⟩; have hlow : Below w.heap.size w w1 := (Below.trans hb0 (hb1.mono hb0.size)); have PL := play_first (lv := lv) (L := L) (hT2 (fun _ => 0)) (own_new hbb hBB) hb2 (fun W hW => ops_low HLw.out (upto0_low hlow hW)))
      | (go_at_call 10; refine PL.mono ?_; rintro e_ w3 ⟨A, n, c, rfl, hn, hIn⟩; have hS3 : Side w1 b B T1 K0 w3 := (by rw [← hpl]; exact hIn.side.less (fun k o h => False.elim h)); have HS3 := Lib.hid hS3; clear hn hIn hS3))
    have HLow := Lib.hid hlow
    have HMat : Hid (∀ W, Upto F0 w1 W → OpsAt W (.slice Am m cm) M) := Lib.hid (fun W hW => ops_low HMw.out (upto0_low hlow hW))
    clear hpl PL hlow hT2 hb2 N A0 k0 k1 d0 d1 HLw HMw
    go_loopw [10, 11, 12, 13] (fun wv iv _ _ wr => ∃ j : Nat, j ≤ 200 ∧ iv = .int .u64 ((j : Int) + 1) ∧ Upto F0 w3 wr ∧ wr.ownsRow w3.heap.size 37 6 wv (wasL T1 j).length (rowE (wasL T1 j))) (fun _ iv _ _ _ => 201 - (intOf iv).toNat)
    case atStart => exact ⟨0, Nat.zero_le _, rfl, Upto.refl _ _, World.ownsRow_nil _ _ _ _⟩
    case round =>
      obtain ⟨j, hj, rfl, hu, hrow⟩ := hrel
      by_cases hlt : j < 200
      · have hltE : (((j : Int) + 1) < 201) = True := eq_true (by omega)
        have hw1 : IntKind.u64.wrap ((j : Int) + 1 + 1) = (j : Int) + 1 + 1 := by rw [IntKind.wrap_u64]; omega
        have HG := Lib.hid ((HS3.out.still hu).get_st (U64.of (x := (j : Int) + 1) (by omega) (by omega)))
        obtain ⟨m', hm'⟩ : ∃ m', (wasL T1 j).length = m' := ⟨_, rfl⟩
        have hml := (wasL_ok T1 j).2.1
        rw [hm'] at hrow hml
        obtain ⟨Aw, cw, rfl⟩ := owns_form hrow
        have Hm' := Lib.hid hm'
        have hsz := hu.size
        have HU := Lib.hid hu
        have HR := Lib.hid hrow
        clear hrow hu hm'
        have HFin := Lib.hid HS3.out.fine
        cases hget : getL T1.L ((j : Int) + 1) with
        | none =>
          rw [hget] at HG
          simp only [Option.getD_none, Option.isSome_none, entV, Ent.cells, Ent.nil] at HG
          have HW := Lib.hid (show wasL T1 (j + 1) = wasL T1 j by show wasL T1 j ++ wasOf T1 ((j : Int) + 1) = _; unfold wasOf; rw [hget]; simp)
          clear hget
          go_wp2_with (go_at_call 11; (with_reducible refine HG.out.mono ?_); rintro e_ w4 ⟨rfl, hb4⟩)
          go_roundw
          case rel => exact ⟨j + 1, by omega, by go_num, (HU.out.below hb4).alloc _, by rw [HW.out, Hm'.out]; exact own_kept HR.out ((below_upto (S := F0) hb4).alloc _) (fun _ h => False.elim h)⟩
          case measure => (simp [intOf] <;> omega)
        | some y =>
          rw [hget] at HG
          have hst := HFin.out.st y (getL_mem hget).1
          obtain ⟨id, task, st, left, kind, val⟩ := y
          simp only [Option.getD_some, Option.isSome_some, entV, Ent.cells] at HG
          simp only at hst
          by_cases s3 : st = 3
          · subst s3
            have HW := Lib.hid (show wasL T1 (j + 1) = wasL T1 j ++ [⟨id, task, 3, left, kind, val⟩] by show wasL T1 j ++ wasOf T1 ((j : Int) + 1) = _; unfold wasOf; rw [hget]; simp [Ent.waits])
            clear hget
            go_wp2_with (first
              | (go_at_call 11; (with_reducible refine HG.out.mono ?_); rintro e_ w4 ⟨rfl, hb4⟩; have hrow4 := own_kept HR.out (below_upto (S := F0) hb4) (fun _ h => False.elim h); have hsz4 := hb4.size)
              | (at_builtin; refine wpList_append_own_at _ rfl _ _ 33 rfl w3.heap.size 37 i7 _ 6 48 under33 hi7 hz7 hs7 hb7 rfl (by decide) _ _ _ rfl ((hrow4.alloc _).alloc _) ⟨w4.heap.size + 1, 0, none⟩ 1 1 [.int .u64 id, .int .i64 task, .int .i64 3, .int .i64 left, .int .i64 kind, .int .i64 val] rfl rfl (by have := cells_new (w4.alloc (.cells #[.int .u64 id, .int .i64 task, .int .i64 3, .int .i64 left, .int .i64 kind, .int .i64 val] 37)) #[.int .u64 id, .int .i64 task, .int .i64 3, .int .i64 left, .int .i64 kind, .int .i64 val] 37; simpa using this) (by simp [Value.oneCell']) (by unfold maxLen; omega) (by omega) (by simp; omega) ?_; intro v' w5 hown' hg5 hnil5 hat5; go_frame))
            go_roundw
            case rel => exact ⟨j + 1, by omega, by go_num, (((HU.out.below hb4).alloc _).alloc _).grown hg5 (fun k hk => .inr (own_lt HR.out hk).2), by rw [HW.out, List.length_append, Hm'.out]; simpa [rowE, Ent.cells] using hown'⟩
            case measure => (simp [intOf] <;> omega)
          · have s3E : (st == 3) = false := by simpa using s3
            by_cases s4 : st = 4
            · subst s4
              have HW := Lib.hid (show wasL T1 (j + 1) = wasL T1 j ++ [⟨id, task, 4, left, kind, val⟩] by show wasL T1 j ++ wasOf T1 ((j : Int) + 1) = _; unfold wasOf; rw [hget]; simp [Ent.waits])
              clear hget s3 s3E
              go_wp2_with (first
                | (go_at_call 11; (with_reducible refine HG.out.mono ?_); rintro e_ w4 ⟨rfl, hb4⟩; have hrow4 := own_kept HR.out (below_upto (S := F0) hb4) (fun _ h => False.elim h); have hsz4 := hb4.size)
                | (at_builtin; refine wpList_append_own_at _ rfl _ _ 33 rfl w3.heap.size 37 i7 _ 6 48 under33 hi7 hz7 hs7 hb7 rfl (by decide) _ _ _ rfl ((hrow4.alloc _).alloc _) ⟨w4.heap.size + 1, 0, none⟩ 1 1 [.int .u64 id, .int .i64 task, .int .i64 4, .int .i64 left, .int .i64 kind, .int .i64 val] rfl rfl (by have := cells_new (w4.alloc (.cells #[.int .u64 id, .int .i64 task, .int .i64 4, .int .i64 left, .int .i64 kind, .int .i64 val] 37)) #[.int .u64 id, .int .i64 task, .int .i64 4, .int .i64 left, .int .i64 kind, .int .i64 val] 37; simpa using this) (by simp [Value.oneCell']) (by unfold maxLen; omega) (by omega) (by simp; omega) ?_; intro v' w5 hown' hg5 hnil5 hat5; go_frame))
              go_roundw
              case rel => exact ⟨j + 1, by omega, by go_num, (((HU.out.below hb4).alloc _).alloc _).grown hg5 (fun k hk => .inr (own_lt HR.out hk).2), by rw [HW.out, List.length_append, Hm'.out]; simpa [rowE, Ent.cells] using hown'⟩
              case measure => (simp [intOf] <;> omega)
            · have s4E : (st == 4) = false := by simpa using s4
              have HW := Lib.hid (show wasL T1 (j + 1) = wasL T1 j by
                show wasL T1 j ++ wasOf T1 ((j : Int) + 1) = _
                unfold wasOf
                rw [hget]
                have : st = 1 ∨ st = 2 := by omega
                rcases this with e | e <;> simp [Ent.waits, e])
              clear hget s3 s4
              go_wp2_with (go_at_call 11; (with_reducible refine HG.out.mono ?_); rintro e_ w4 ⟨rfl, hb4⟩)
              go_roundw
              case rel => exact ⟨j + 1, by omega, by go_num, (HU.out.below hb4).alloc _, by rw [HW.out, Hm'.out]; exact own_kept HR.out ((below_upto (S := F0) hb4).alloc _) (fun _ h => False.elim h)⟩
              case measure => (simp [intOf] <;> omega)
      · obtain rfl : j = 200 := by omega
        have hwas := wasL_ok T1 200
        obtain ⟨was, hws⟩ : ∃ ys, wasL T1 200 = ys := ⟨_, rfl⟩
        rw [hws] at hrow hwas
        have hS4 := HS3.out.row hu hrow
        obtain ⟨Aw, cw, rfl⟩ := owns_form hrow
        obtain ⟨n', hn'⟩ : ∃ n', was.length = n' := ⟨_, rfl⟩
        rw [hn'] at hrow hS4 hwas ⊢
        have HS4 := Lib.hid hS4
        have HR4 := Lib.hid hrow
        have HWas := Lib.hid hwas
        have Hn' := Lib.hid hn'
        obtain ⟨w4, hw4⟩ : ∃ w4, w4 = wr := ⟨_, rfl⟩
        subst hw4
        clear hws hrow hu hwas hn' hS4 HS3 hlt
        go_wp2
        go_loopw [14, 15] (fun rv iv wr => ∃ j : Nat, j ≤ m ∧ iv = .int .i64 j ∧ Upto F0 w4 wr ∧ wr.ownsRow w4.heap.size 41 5 rv (restL M j).length (rowO (restL M j))) (fun _ iv _ => m - (intOf iv).toNat)
        case atStart => exact ⟨0, Nat.zero_le _, rfl, Upto.refl _ _, by simpa [restL, rowO] using World.ownsRow_nil _ _ _ _⟩
        case round =>
          obtain ⟨j, hj, rfl, hu, hrow⟩ := hrel
          by_cases hlt : j < m
          · have hlt' : (j : Int) < m := by omega
            obtain ⟨p, hp⟩ : ∃ p, M[j]? = some p := ⟨_, List.getElem?_eq_getElem (by rw [Hm.out]; exact hlt)⟩
            have HMwr := HMat.out _ (HS4.out.still hu).low
            obtain ⟨A1, cm1, eA, _, hcl⟩ := HMwr
            rw [Hm.out] at eA hcl
            injection eA with eA _ eC
            subst eA eC
            obtain ⟨gl, ol, rfl, hcl2⟩ := hcl (by omega)
            obtain ⟨q0, q1, q2, q3, q4, _, _⟩ := hcl2 j p hp
            obtain ⟨k', hk'⟩ : ∃ k', (restL M j).length = k' := ⟨_, rfl⟩
            have hkl := restL_len M j
            rw [hk'] at hrow hkl
            obtain ⟨Ar, cr, rfl⟩ := owns_form hrow
            have Hk' := Lib.hid hk'
            have hsz := hu.size
            have HU := Lib.hid hu
            have HR := Lib.hid hrow
            have Hp := Lib.hid hp
            obtain ⟨pd, pn, pi, pk, pv⟩ := p
            simp only at q0 q1 q2 q3 q4
            clear hrow hu hk' hcl hcl2 hp
            by_cases h9 : pd = 9
            · subst h9
              have HW := Lib.hid (restL_no Hp.out rfl)
              go_wp2
              go_roundw
              case rel => exact ⟨j + 1, by omega, by go_num, HU.out, by rw [HW.out, Hk'.out]; exact HR.out⟩
              case measure => (simp [intOf] <;> omega)
            · have h9b : (pd != 9) = true := by simpa using h9
              have h9f : (pd = 9) = False := eq_false h9
              have h9E : (pd == 9) = false := by simpa using h9
              have HW := Lib.hid (restL_yes Hp.out h9)
              have hrow4 := HR.out
              go_wp2_with (at_builtin; refine wpList_append_own_at _ rfl _ _ 24 rfl w4.heap.size 41 i4 _ 5 40 under24' hi4 hz4 hs4 hb4 rfl (by decide) _ _ _ rfl (hrow4.alloc _) ⟨wr.heap.size, 0, none⟩ 1 1 [.int .i64 pd, .int .i64 pn, .int .u64 pi, .int .i64 pk, .int .i64 pv] rfl rfl (cells_new wr #[.int .i64 pd, .int .i64 pn, .int .u64 pi, .int .i64 pk, .int .i64 pv] 41) (by simp [Value.oneCell']) (by unfold maxLen; omega) (by omega) (by simp; omega) ?_; intro v' w5 hown' hg5 hnil5 hat5; go_frame)
              go_roundw
              case rel => exact ⟨j + 1, by omega, by go_num, (HU.out.alloc _).grown hg5 (fun k hk => .inr (own_lt HR.out hk).2), by rw [HW.out, List.length_append, Hk'.out]; simpa [rowO, Opn.cells] using hown'⟩
              case measure => (simp [intOf] <;> omega)
          · obtain rfl : j = m := by omega
            have hrl := restL_len M j
            have hrm : ∀ p ∈ restL M j, p ∈ M ∧ p.d ≠ 9 := fun p hp => restL_mem hp
            obtain ⟨R, hR⟩ : ∃ R, restL M j = R := ⟨_, rfl⟩
            rw [hR] at hrow hrl hrm
            obtain ⟨r, hr⟩ : ∃ r, R.length = r := ⟨_, rfl⟩
            rw [hr] at hrow hrl
            obtain ⟨Ar, cr, rfl⟩ := owns_form hrow
            have hid : ∀ p ∈ R, 0 ≤ p.id ∧ p.id < 18446744073709551616 := fun p hp => by
              obtain ⟨h1, _⟩ := hrm p hp
              obtain ⟨i, hi⟩ := List.mem_iff_getElem?.1 h1
              obtain ⟨_, _, _, _, hcl⟩ := HMat.out _ (HS4.out.still hu).low
              obtain ⟨gl, ol, _, hcl2⟩ := hcl (by have := (List.getElem?_eq_some_iff.1 hi).1; omega)
              exact ⟨(hcl2 i p hi).2.2.2.2.2.1, (hcl2 i p hi).2.2.2.2.2.2⟩
            have hS5 := HS4.out.row hu hrow
            have hPL := hS5.play (lv := .slice Ar r cr) (L := R) (fun W hW => ops_of_row (row_same hrow (fun k hk => by
              obtain ⟨o, ho⟩ : ∃ o, wr.heap[k]? = some o := ⟨_, Array.getElem?_eq_getElem (own_lt hrow hk).1⟩
              exact (hW k o (.inr ⟨hk, ho⟩)).trans ho.symm)) hr (by omega) hid)
            have HPL := Lib.hid hPL
            have hst := stand_play (HS4.out.fine.ord) R (fun o ho => (hrm o ho).2) 200
            have hAll : ∀ (k : Nat) y, was[k]? = some y → getL (playL T1 (R.take 200)).2.L y.id = some y ∧ y.waits = false := fun k y hk => by
              obtain ⟨h1, h2, _⟩ := HWas.out.2.2 y (List.mem_of_getElem? hk)
              exact ⟨getL_of hst.1.1 (hst.2 y (getL_mem h1).1 h2), h2⟩
            obtain ⟨T2, hT2⟩ : ∃ T2, (playL T1 (R.take 200)).2 = T2 := ⟨_, rfl⟩
            rw [hT2] at HPL hAll
            have HAll := Lib.hid hAll
            clear hst hAll hT2 hPL hS5 hid hR hrl hrm hr hrow hu hlt
            have Hent := Lib.hid (fun h0 => ents_at HR4.out Hn'.out h0)
            go_wp2_with (go_at_call 10; (with_reducible refine HPL.out.mono ?_); rintro e_ w6 ⟨⟨A9, n9, c9, rfl⟩, hS6⟩; have HS6 : Hid (Side w1 b B T2 (fun k o => (Value.slice Aw n' cw).ownBlock = some k ∧ w4.heap[k]? = some o) w6) := Lib.hid (hS6.less (fun k o h => .inl (.inr h))); clear hS6)
            clear HPL
            go_loopw [16, 17, 18, 19, 20, 21, 22] (fun iv _ _ _ _ _ _ wr2 => ∃ i : Nat, i ≤ n' ∧ iv = .int .i64 i ∧ ∃ T', Side w1 b B T' (fun k o => (Value.slice Aw n' cw).ownBlock = some k ∧ w4.heap[k]? = some o) wr2 ∧ ∀ (k : Nat) y, i ≤ k → was[k]? = some y → getL T'.L y.id = some y) (fun iv _ _ _ _ _ _ _ => n' - (intOf iv).toNat)
            case atStart => exact ⟨0, Nat.zero_le _, rfl, T2, HS6.out, fun k y _ hk => (HAll.out k y hk).1⟩
            case round =>
              obtain ⟨i, hi, rfl, T', hS, hst⟩ := hrel
              clear HS6
              by_cases hlt : i < n'
              · have hlt' : (i : Int) < n' := by omega
                have hn200 : n' ≤ 200 := HWas.out.2.1
                obtain ⟨g, o, rfl, hcl⟩ := Hent.out (by omega)
                obtain ⟨y, hy⟩ : ∃ y, was[i]? = some y := ⟨_, List.getElem?_eq_getElem (by rw [Hn'.out]; exact hlt)⟩
                obtain ⟨c0, c1, c2, c3, c4, c5⟩ := hcl i y hy
                obtain ⟨o4, ho4⟩ : ∃ o4, w4.heap[g]? = some o4 := ⟨_, Array.getElem?_eq_getElem (World.block_lt_of_cell? _ _ c0)⟩
                have hget := hst i y (Nat.le_refl _) hy
                have hyw := (HAll.out i y hy).2
                have hids := hS.fine.ids y (getL_mem hget).1
                have hn2 := hS.fine.n2
                have hU : U64 y.id := U64.of (by omega) (by omega)
                have hnext : ∀ (k : Nat) z, i + 1 ≤ k → was[k]? = some z → getL (rmT T' y.id).L z.id = some z := fun k z hk hz => by
                  show getL (T'.L.filter _) z.id = some z
                  rw [getL_rm, if_neg, hst k z (by omega) hz]
                  have hlt := List.pairwise_iff_getElem.1 HWas.out.1 i k (List.getElem?_eq_some_iff.1 hy).1 (List.getElem?_eq_some_iff.1 hz).1 (by omega)
                  rw [(List.getElem?_eq_some_iff.1 hy).2, (List.getElem?_eq_some_iff.1 hz).2] at hlt
                  omega
                have hgone : getL (rmT T' y.id).L y.id = none := by
                  show getL (T'.L.filter _) y.id = none
                  rw [getL_rm, if_pos rfl]
                have HNext := Lib.hid hnext
                have HK : Hid ((Value.slice (some ⟨g, o, none⟩) n' cw).ownBlock = some g ∧ w4.heap[g]? = some o4) := Lib.hid ⟨rfl, ho4⟩
                have HX : Hid (∀ K T'' wx, Side w1 b B T'' K wx → K g o4 → wx.cell? ⟨g, o + i * 6, none⟩ = some (.int .u64 y.id) ∧ wx.cell? ⟨g, o + i * 6 + 1, none⟩ = some (.int .i64 y.task) ∧ wx.cell? ⟨g, o + i * 6 + 2, none⟩ = some (.int .i64 y.st) ∧ wx.cell? ⟨g, o + i * 6 + 3, none⟩ = some (.int .i64 y.left) ∧ wx.cell? ⟨g, o + i * 6 + 4, none⟩ = some (.int .i64 y.kind) ∧ wx.cell? ⟨g, o + i * 6 + 5, none⟩ = some (.int .i64 y.val)) := Lib.hid (fun K T'' wx h hk => ⟨h.cell hk ho4 c0, h.cell hk ho4 c1, h.cell hk ho4 c2, h.cell hk ho4 c3, h.cell hk ho4 c4, h.cell hk ho4 c5⟩)
                have HG1 : Hid (∀ K wx, Side w1 b B T' K wx → _) := Lib.hid (fun K wx (h : Side w1 b B T' K wx) => h.get hU)
                have HE : Hid (∀ K wx, Side w1 b B T' K wx → Calls Try.prog 12 #[.pointer (some ⟨b, 0, none⟩), .int .i64 y.task] wx (fun e w' => e = .returned (.tuple #[entV y, .bool true]) ∧ Side w1 b B (rmT T' y.id) K w')) := Lib.hid (fun K wx h => h.call (fun P hT => by have := ended_any b B P T' y.task wx hT; rwa [ended_is h.fine hget hyw] at this))
                have HG2 : Hid (∀ K wx, Side w1 b B (rmT T' y.id) K wx → _) := Lib.hid (fun K wx (h : Side w1 b B (rmT T' y.id) K wx) => h.get hU)
                rw [hget] at HG1
                rw [hgone] at HG2
                obtain ⟨cx0, cx1, cx2, cx3, cx4, cx5⟩ := HX.out _ _ _ hS HK.out
                obtain ⟨id, task, st, left, kind, val⟩ := y
                simp only [Option.getD_some, Option.isSome_some, Option.getD_none, Option.isSome_none, entV, Ent.cells, Ent.nil] at HG1 HG2 HE cx0 cx1 cx2 cx3 cx4 cx5 HX HNext
                clear hcl hy c0 c1 c2 c3 c4 c5 ho4 hget hyw hids hn2 hU hnext hgone hst
                go_upto_region 26 with (first
                  | (go_at_call 11; (with_reducible refine (HG1.out _ _ hS).mono ?_); rintro e_ w7 ⟨rfl, hS7⟩; have hT7 := hS7.new (.cells #[.int .u64 id, .int .i64 task, .int .i64 st, .int .i64 left, .int .i64 kind, .int .i64 val] 37); obtain ⟨_, cy1, _⟩ := HX.out _ _ _ hT7 (.inl HK.out))
                  | (go_at_call 12; (with_reducible refine (HE.out _ _ hT7).mono ?_); rintro e_ w8 ⟨rfl, hS8⟩; have hT8 := hS8.new (.cells #[.int .u64 id, .int .i64 task, .int .i64 st, .int .i64 left, .int .i64 kind, .int .i64 val] 37); obtain ⟨cz0, _⟩ := HX.out _ _ _ hT8 (.inl (.inl HK.out)))
                  | (go_at_call 11; (with_reducible refine (HG2.out _ _ hT8).mono ?_); rintro e_ w9 ⟨rfl, hS9⟩; have hT9 := hS9.new (.cells #[.int .u64 0, .int .i64 0, .int .i64 0, .int .i64 0, .int .i64 0, .int .i64 0] 37)))
                obtain ⟨x0, x1, x2, x3, x4, x5⟩ := HX.out _ _ _ hT9 (.inl (.inl (.inl HK.out)))
                have y0 := hT9.at (g := w7.heap.size) (j := 0) (.inl (.inl (.inr ⟨rfl, rfl⟩))) rfl
                have y1 := hT9.at (g := w7.heap.size) (j := 1) (.inl (.inl (.inr ⟨rfl, rfl⟩))) rfl
                have y2 := hT9.at (g := w7.heap.size) (j := 2) (.inl (.inl (.inr ⟨rfl, rfl⟩))) rfl
                have y3 := hT9.at (g := w7.heap.size) (j := 3) (.inl (.inl (.inr ⟨rfl, rfl⟩))) rfl
                have y4 := hT9.at (g := w7.heap.size) (j := 4) (.inl (.inl (.inr ⟨rfl, rfl⟩))) rfl
                have y5 := hT9.at (g := w7.heap.size) (j := 5) (.inl (.inl (.inr ⟨rfl, rfl⟩))) rfl
                have z0 := hT9.at (g := w8.heap.size) (j := 0) (.inl (.inr ⟨rfl, rfl⟩)) rfl
                have z1 := hT9.at (g := w8.heap.size) (j := 1) (.inl (.inr ⟨rfl, rfl⟩)) rfl
                have z2 := hT9.at (g := w8.heap.size) (j := 2) (.inl (.inr ⟨rfl, rfl⟩)) rfl
                have z3 := hT9.at (g := w8.heap.size) (j := 3) (.inl (.inr ⟨rfl, rfl⟩)) rfl
                have z4 := hT9.at (g := w8.heap.size) (j := 4) (.inl (.inr ⟨rfl, rfl⟩)) rfl
                have z5 := hT9.at (g := w8.heap.size) (j := 5) (.inl (.inr ⟨rfl, rfl⟩)) rfl
                have HEnd := Lib.hid (fun q => (hT9.less (K' := fun k o_1 => (Value.slice (some ⟨g, o, none⟩) n' cw).ownBlock = some k ∧ w4.heap[k]? = some o_1) (fun k o h => .inl (.inl (.inl h)))).drewN q)
                clear hS hS7 hT7 hS8 hT8 hS9 hT9 cx0 cx1 cx2 cx3 cx4 cx5 cy1 cz0 HG1 HG2 HE HX
                go_quiet (fail)
                go_wp2
                go_roundw
                case rel => exact ⟨i + 1, by omega, by go_num, _, HEnd.out _, HNext.out⟩
                case measure => (simp [intOf] <;> omega)
              · obtain rfl : i = n' := by omega
                have HEE := Lib.hid (upto0_low HLow.out hS.low)
                clear hS hst
                go_wp2
                go_ret
                exact ⟨rfl, HEE.out⟩
end Go.Proofs.Ytfknkkcpieaikaa
