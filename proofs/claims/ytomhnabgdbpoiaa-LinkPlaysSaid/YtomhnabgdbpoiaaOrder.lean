/- LinkOrder: it answers true. Conditions: the arguments' cells. -/
import Derived.Test.YtomhnabgdbpoiaaOrder0
namespace Go.Proofs.Ytomhnabgdbpoiaa
open Go.RowKit
attribute [local go_sem ↓] Go.wp_at_zero Go.wp_at_succ
set_option linter.unusedVariables false
set_option linter.unusedSimpArgs false

theorem info22 : (Try.prog.info? 30).map (fun i => (i.zero, i.size, i.bytes)) = some (some (.slice none 0 0), 1, 24) := by kernel_rfl

/-- A slice of bytes that came in, of whatever length. -/
def SlArg (W : World) (v : Value) (bs : List Int) : Prop := ∃ A n c, v = .slice A n c ∧ bs.length = n ∧ n ≤ 9223372036854775807 ∧ (0 < n → ∃ gb o, A = some ⟨gb, o, none⟩ ∧ Lies W gb o n bs)

def OrderRel (W w0 : World) (g gw n : Nat) (u : Value) (wr : World) : Prop :=
  ∃ k F st V us, k ≤ n ∧ u = .int .i64 k ∧ LinkAt wr g st F ∧ Since w0 wr F ∧ Want W w0 wr gw F V us st ∧ ∀ b, (st b).length ≤ k

theorem sendP_ok (st : St) (up : Bool) (bs : List Int) (h : sendOk (st up) bs = true) : sendP st up bs = upd st up (st up ++ [bs]) := by unfold sendP; rw [if_pos h]
theorem sendP_no (st : St) (up : Bool) (bs : List Int) (h : sendOk (st up) bs = false) : sendP st up bs = st := by unfold sendP; rw [if_neg (by rw [h]; decide)]
theorem SlArg.bytes {W w : World} {v : Value} {bs : List Int} (h : SlArg W v bs) (hb : Below W.heap.size W w) : BytesIn w v bs := by
  obtain ⟨A, n, c, rfl, rfl, hm, hl⟩ := h
  by_cases h0 : 0 < bs.length
  · obtain ⟨gb, o, rfl, hL⟩ := hl h0
    exact (hL.below hb).bytes rfl
  · exact ⟨A, c, rfl, fun h => absurd h h0⟩

def InRel (W w0 : World) (g gw : Nat) (up : Bool) (V : Bool → Value) (us : Bool → List Value) (st : St) (u : Value) (wr : World) : Prop :=
  ∃ (i : Nat) (F : Nat → Prop) (st' : St), u = .int .i64 i ∧ i ≤ (st up).length ∧ LinkAt wr g st' F ∧ Since w0 wr F ∧ Want W w0 wr gw F V us st ∧ st' up = (st up).drop i ∧ (if up then st' false = st false else st' true = [])

set_option maxRecDepth 100000 in
set_option maxHeartbeats 4000000 in
theorem order_yes (A B : Option Addr) (n c nu cu : Nat) (fs : Nat → List Int) (sv : Nat → Value) (bv : Nat → Bool) (w : World) (hn : n ≤ 64) (hnu : nu ≤ 9223372036854775807)
    (hl : 0 < n → ∃ gl o, A = some ⟨gl, o, none⟩ ∧ ∀ i, i < n → w.cell? ⟨gl, o + i, none⟩ = some (sv i)) (hf : ∀ i, i < n → SlArg w (sv i) (fs i))
    (hu : 0 < nu → ∃ gl o, B = some ⟨gl, o, none⟩ ∧ ∀ i, i < nu → w.cell? ⟨gl, o + i, none⟩ = some (.bool (bv i))) :
    Calls Try.prog 3 #[.slice A n c, .slice B nu cu] w (Ret (.bool true) w) := by
  have hn64 : ¬ (64 : Int) < (n : Int) := by omega
  obtain ⟨i30, hi30, hz30, hs30, hb30⟩ := info_parts info30
  have Hl := Lib.hid hl
  have Hf := Lib.hid hf
  have Hu := Lib.hid hu
  clear hl hf hu
  go_enter Try.func3, Try.ntmps3
  go_wp2_with (first | (go_at_call 8; refine (awake_ok _).mono ?_; rintro e w1 ⟨rfl, hb⟩))
  go_loopw [8] (fun u wr => OrderRel w w1 w1.heap.size (w1.heap.size + 1) n u wr) (fun v _ => n - (intOf v).toNat)
  case atStart =>
    refine ⟨0, fun k => k = w1.heap.size, fun _ => [], fun _ => .slice none 0 0, fun _ => [], Nat.zero_le _, rfl, (link_made w1).alloc _, (Since.made w1 _).alloc _, ⟨?_, fun b => ⟨rfl, .inl ⟨rfl, rfl⟩⟩, fun b k hk => by simp [Value.ownBlock] at hk, by simp, fun b k hk => by simp [Value.ownBlock] at hk, fun b k hk => by simp [Value.ownBlock] at hk, by omega, fun b => trivial⟩, fun b => Nat.zero_le _⟩
    have := heap_alloc_new (w1.alloc (.cells #[.slice none 0 0, .slice none 0 0] 28)) (.cells #[.slice none 0 0, .slice none 0 0] 29)
    simpa using this
  case round =>
    obtain ⟨k, F, st, V, us, hk, rfl, hL, hS, hW, hfew⟩ := hrel
    by_cases hlt : k < n
    · obtain ⟨gl, o, rfl, hcell⟩ := Hl.out (by omega)
      obtain ⟨A', m, c', hsv, hbl, hm, hb'⟩ := Hf.out k hlt
      have cw := hcell k hlt
      rw [hsv] at cw
      have hbw := hb.trans (hS.below.mono hb.size)
      have cl : wr.cell? ⟨gl, o + k, none⟩ = some (.slice A' m c') := (hbw.cell (World.block_lt_of_cell? _ _ cw)).trans cw
      have HB := Lib.hid (show BytesIn wr (.slice A' m c') (fs k) from hsv ▸ (Hf.out k hlt).bytes hbw)
      have Hb' := Lib.hid hb'
      have Hbl := Lib.hid hbl
      have Hcw := Lib.hid cw
      have HLn := Lib.hid hL
      have HSn := Lib.hid hS
      have HWn := Lib.hid hW
      have Hfew := Lib.hid hfew
      have Hbw := Lib.hid hbw
      clear hcell hb' cw hsv hbw
      by_cases h2000 : 2000 < m
      · have x0 : (2000 : Int) < (m : Int) := by omega
        clear hL hS hW hfew hbl
        go_wp2
        go_ret
        exact ⟨rfl, Hbw.out⟩
      · have x0 : ¬ (2000 : Int) < (m : Int) := by omega
        by_cases hku : k < nu
        · obtain ⟨gu, ou, rfl, hcu⟩ := Hu.out (by omega)
          have cu0 := hcu k hku
          have cu1 : wr.cell? ⟨gu, ou + k, none⟩ = some (.bool (bv k)) := (Hbw.out.cell (World.block_lt_of_cell? _ _ cu0)).trans cu0
          clear hcu cu0
          cases hbv : bv k with
          | true =>
            rw [hbv] at cu1
            clear hbv
            by_cases hm0 : 0 < m
            · by_cases hm1 : m ≤ 1024
              · obtain ⟨Av, cv, hV⟩ := owns_form (hW.owns true)
                obtain ⟨nv, hnv⟩ : ∃ n, (us true).length = n := ⟨_, rfl⟩
                rw [hnv] at hV
                have hnk : nv ≤ k := by have h1 := (hW.frs true).len; have h2 := hfew true; omega
                have HV := Lib.hid hV
                have Hnv := Lib.hid hnv
                have hok : sendOk (st true) (fs k) = true := by unfold sendOk; have h2 := hfew true; simp; omega
                have Hok := Lib.hid hok
                obtain ⟨gb, ob, rfl, hlies⟩ := Hb'.out hm0
                have HL := Lib.hid hlies
                have x1 : (0 : Int) < (m : Int) := by omega
                have x2 : (m : Int) ≤ 1024 := by omega
                clear hok hV hnv hlies
                go_wp2_with (first | (go_at_call 9; refine Calls.mono (send_is w1.heap.size st F true (.slice (some ⟨gb, ob, none⟩) m c') (fs k) _ HLn.out HB.out true _ Hok.out (sendP_ok _ _ _ Hok.out)) ?_; rintro e w2 ⟨rfl, F2, h2, U2, G2⟩; have HW2 := Lib.hid (HWn.out.keep U2 (fun _ h => h) (fun k hk => (G2 k hk).imp (fun h => h.1) id)); have HS2 := Lib.hid (HSn.out.step U2 G2); have L2 := Lib.hid h2; have d1 : w2.cell? ⟨gl, o + k, none⟩ = some (.slice (some ⟨gb, ob, none⟩) m c') := ((hb.trans (HS2.out.below.mono hb.size)).cell (World.block_lt_of_cell? _ _ Hcw.out)).trans Hcw.out; have lw2 : w1.heap.size + 1 < w2.heap.size := lt_of_block HW2.out.blk; have d2 : w2.cell? ⟨w1.heap.size + 1, 0, none⟩ = some (.slice Av nv cv) := (by rw [cell_of_row w2 (w1.heap.size + 1) 0 _ _ _ HW2.out.blk, ← HV.out]; rfl); have HO := Lib.hid (show w2.ownsRow 0 30 1 (.slice Av nv cv) nv (us true) from (by have := HW2.out.owns true; rw [HV.out, Hnv.out] at this; exact this)); clear h2 U2 G2))
                go_region_law (first
                  | ((refine step_append_lies _ (by rfl) (Operand.tmp 74) (Operand.tmp 79) _ (by rfl) 0 30 i30 _ 1 24 Try.underlying22 hi30 hz30 hs30 hb30 rfl (by omega) (.slice Av nv cv) nv (us true) (by rfl) (((Upto.refl (fun _ => False) w2).drew.alloc _).owns HO.out (fun _ _ h => h.elim)) ⟨w2.heap.size, 0, none⟩ 1 1 [.slice (some ⟨gb, ob, none⟩) m c'] (by rfl) (by rfl) (World.news_of_block (heap_alloc_new w2.drew _)) (by simp [Value.oneCell']) (by omega) (by unfold maxLen; omega) (by omega) (Nat.zero_le _) (w2.heap.size + 1) (by simp) ?_; intro g4 cap4 w4 hown4 hgrow4 hat4 hlt4; have b4 := ((Upto.refl (fun k => (Value.slice Av nv cv).ownBlock = some k) (w2.drew.alloc _)).grown hgrow4 (fun k hk => .inl hk)).blk (fun hk => HW2.out.row_ne true (by rw [HV.out]; exact hk) rfl) (((Upto.refl (fun _ => False) w2).drew.alloc _).blk (fun h => h.elim) HW2.out.blk); have e4 : w4.cell? ⟨w1.heap.size + 1, 0, none⟩ = some (.slice Av nv cv) := (by rw [cell_of_row w4 (w1.heap.size + 1) 0 _ _ _ b4, ← HV.out]; rfl); have f4 : w4.frozen? ⟨w1.heap.size + 1, 0, none⟩ = false := frozen_of_row b4; replace b4 := Lib.hid b4)))
                all_goals
                  have hpush := Lib.hid (HW2.out.push L2.out HS2.out true (av := .slice (some ⟨gb, ob, none⟩) m c') (bs := fs k) ⟨gb, ob, m, c', rfl, Hbl.out, hm0, HL.out⟩ ((Upto.refl (fun _ => False) w2).drew.alloc _) (row := (Value.slice Av nv cv).ownBlock) (by rw [HV.out]) hgrow4 Hnv.out.symm hown4 (by intro k hk; obtain rfl : g4 = k := (by simpa [Value.ownBlock] using hk); rcases hat4 with h | h; exact .inl (by rw [HV.out]; exact h); exact .inr (by omega)) rfl)
                  go_wp2
                  go_roundw
                  case rel => exact ⟨k + 1, F2, _, _, _, by omega, by go_num, hpush.out.1, hpush.out.2.1, hpush.out.2.2, fun b => by have := Hfew.out b; by_cases hb : b = true; (subst hb; rw [upd_same]; simp; omega); (rw [upd_other _ _ _ hb]; omega)⟩
                  case measure => simp [intOf]; omega
              · have hok : sendOk (st true) (fs k) = false := by unfold sendOk; simp; omega
                have Hok := Lib.hid hok
                clear hok
                have x1 : (0 : Int) < (m : Int) := by omega
                have x2 : decide ((m : Int) ≤ 1024) = false := by simp; omega
                go_wp2_with (first | (go_at_call 9; refine Calls.mono (send_is w1.heap.size st F true (.slice A' m c') (fs k) _ HLn.out HB.out false _ Hok.out (sendP_no _ _ _ Hok.out)) ?_; rintro e w2 ⟨rfl, F2, h2, U2, G2⟩; have HW2 := Lib.hid (HWn.out.keep U2 (fun _ h => h) (fun k hk => (G2 k hk).imp (fun h => h.1) id)); have HS2 := Lib.hid (HSn.out.step U2 G2); have L2 := Lib.hid h2; have d1 : w2.cell? ⟨gl, o + k, none⟩ = some (.slice A' m c') := ((hb.trans (HS2.out.below.mono hb.size)).cell (World.block_lt_of_cell? _ _ Hcw.out)).trans Hcw.out; clear h2 U2 G2))
                go_roundw
                case rel => exact ⟨k + 1, F2, _, _, _, by omega, by go_num, L2.out, HS2.out, HW2.out, fun b => by have := Hfew.out b; omega⟩
                case measure => simp [intOf]; omega
            · have hok : sendOk (st true) (fs k) = false := by unfold sendOk; simp; omega
              have Hok := Lib.hid hok
              clear hok
              obtain rfl : m = 0 := by omega
              go_wp2_with (first | (go_at_call 9; refine Calls.mono (send_is w1.heap.size st F true (.slice A' 0 c') (fs k) _ HLn.out HB.out false _ Hok.out (sendP_no _ _ _ Hok.out)) ?_; rintro e w2 ⟨rfl, F2, h2, U2, G2⟩; have HW2 := Lib.hid (HWn.out.keep U2 (fun _ h => h) (fun k hk => (G2 k hk).imp (fun h => h.1) id)); have HS2 := Lib.hid (HSn.out.step U2 G2); have L2 := Lib.hid h2; have d1 : w2.cell? ⟨gl, o + k, none⟩ = some (.slice A' 0 c') := ((hb.trans (HS2.out.below.mono hb.size)).cell (World.block_lt_of_cell? _ _ Hcw.out)).trans Hcw.out; clear h2 U2 G2))
              go_roundw
              case rel => exact ⟨k + 1, F2, _, _, _, by omega, by go_num, L2.out, HS2.out, HW2.out, fun b => by have := Hfew.out b; omega⟩
              case measure => simp [intOf]; omega
          | false =>
            rw [hbv] at cu1
            clear hbv
            by_cases hm0 : 0 < m
            · by_cases hm1 : m ≤ 1024
              · obtain ⟨Av, cv, hV⟩ := owns_form (hW.owns false)
                obtain ⟨nv, hnv⟩ : ∃ n, (us false).length = n := ⟨_, rfl⟩
                rw [hnv] at hV
                have hnk : nv ≤ k := by have h1 := (hW.frs false).len; have h2 := hfew false; omega
                have HV := Lib.hid hV
                have Hnv := Lib.hid hnv
                have hok : sendOk (st false) (fs k) = true := by unfold sendOk; have h2 := hfew false; simp; omega
                have Hok := Lib.hid hok
                obtain ⟨gb, ob, rfl, hlies⟩ := Hb'.out hm0
                have HL := Lib.hid hlies
                have x1 : (0 : Int) < (m : Int) := by omega
                have x2 : (m : Int) ≤ 1024 := by omega
                clear hok hV hnv hlies
                go_wp2_with (first | (go_at_call 9; refine Calls.mono (send_is w1.heap.size st F false (.slice (some ⟨gb, ob, none⟩) m c') (fs k) _ HLn.out HB.out true _ Hok.out (sendP_ok _ _ _ Hok.out)) ?_; rintro e w2 ⟨rfl, F2, h2, U2, G2⟩; have HW2 := Lib.hid (HWn.out.keep U2 (fun _ h => h) (fun k hk => (G2 k hk).imp (fun h => h.1) id)); have HS2 := Lib.hid (HSn.out.step U2 G2); have L2 := Lib.hid h2; have d1 : w2.cell? ⟨gl, o + k, none⟩ = some (.slice (some ⟨gb, ob, none⟩) m c') := ((hb.trans (HS2.out.below.mono hb.size)).cell (World.block_lt_of_cell? _ _ Hcw.out)).trans Hcw.out; have lw2 : w1.heap.size + 1 < w2.heap.size := lt_of_block HW2.out.blk; have d2 : w2.cell? ⟨w1.heap.size + 1, 1, none⟩ = some (.slice Av nv cv) := (by rw [cell_of_row w2 (w1.heap.size + 1) 1 _ _ _ HW2.out.blk, ← HV.out]; rfl); have HO := Lib.hid (show w2.ownsRow 0 30 1 (.slice Av nv cv) nv (us false) from (by have := HW2.out.owns false; rw [HV.out, Hnv.out] at this; exact this)); clear h2 U2 G2))
                go_region_law (first
                  | ((refine step_append_lies _ (by rfl) (Operand.tmp 74) (Operand.tmp 79) _ (by rfl) 0 30 i30 _ 1 24 Try.underlying22 hi30 hz30 hs30 hb30 rfl (by omega) (.slice Av nv cv) nv (us false) (by rfl) (((Upto.refl (fun _ => False) w2).drew.alloc _).owns HO.out (fun _ _ h => h.elim)) ⟨w2.heap.size, 0, none⟩ 1 1 [.slice (some ⟨gb, ob, none⟩) m c'] (by rfl) (by rfl) (World.news_of_block (heap_alloc_new w2.drew _)) (by simp [Value.oneCell']) (by omega) (by unfold maxLen; omega) (by omega) (Nat.zero_le _) (w2.heap.size + 1) (by simp) ?_; intro g4 cap4 w4 hown4 hgrow4 hat4 hlt4; have b4 := ((Upto.refl (fun k => (Value.slice Av nv cv).ownBlock = some k) (w2.drew.alloc _)).grown hgrow4 (fun k hk => .inl hk)).blk (fun hk => HW2.out.row_ne false (by rw [HV.out]; exact hk) rfl) (((Upto.refl (fun _ => False) w2).drew.alloc _).blk (fun h => h.elim) HW2.out.blk); have e4 : w4.cell? ⟨w1.heap.size + 1, 1, none⟩ = some (.slice Av nv cv) := (by rw [cell_of_row w4 (w1.heap.size + 1) 1 _ _ _ b4, ← HV.out]; rfl); have f4 : w4.frozen? ⟨w1.heap.size + 1, 1, none⟩ = false := frozen_of_row b4; replace b4 := Lib.hid b4)))
                all_goals
                  have hpush := Lib.hid (HW2.out.push L2.out HS2.out false (av := .slice (some ⟨gb, ob, none⟩) m c') (bs := fs k) ⟨gb, ob, m, c', rfl, Hbl.out, hm0, HL.out⟩ ((Upto.refl (fun _ => False) w2).drew.alloc _) (row := (Value.slice Av nv cv).ownBlock) (by rw [HV.out]) hgrow4 Hnv.out.symm hown4 (by intro k hk; obtain rfl : g4 = k := (by simpa [Value.ownBlock] using hk); rcases hat4 with h | h; exact .inl (by rw [HV.out]; exact h); exact .inr (by omega)) rfl)
                  go_wp2
                  go_roundw
                  case rel => exact ⟨k + 1, F2, _, _, _, by omega, by go_num, hpush.out.1, hpush.out.2.1, hpush.out.2.2, fun b => by have := Hfew.out b; by_cases hb : b = false; (subst hb; rw [upd_same]; simp; omega); (rw [upd_other _ _ _ hb]; omega)⟩
                  case measure => simp [intOf]; omega
              · have hok : sendOk (st false) (fs k) = false := by unfold sendOk; simp; omega
                have Hok := Lib.hid hok
                clear hok
                have x1 : (0 : Int) < (m : Int) := by omega
                have x2 : decide ((m : Int) ≤ 1024) = false := by simp; omega
                go_wp2_with (first | (go_at_call 9; refine Calls.mono (send_is w1.heap.size st F false (.slice A' m c') (fs k) _ HLn.out HB.out false _ Hok.out (sendP_no _ _ _ Hok.out)) ?_; rintro e w2 ⟨rfl, F2, h2, U2, G2⟩; have HW2 := Lib.hid (HWn.out.keep U2 (fun _ h => h) (fun k hk => (G2 k hk).imp (fun h => h.1) id)); have HS2 := Lib.hid (HSn.out.step U2 G2); have L2 := Lib.hid h2; have d1 : w2.cell? ⟨gl, o + k, none⟩ = some (.slice A' m c') := ((hb.trans (HS2.out.below.mono hb.size)).cell (World.block_lt_of_cell? _ _ Hcw.out)).trans Hcw.out; clear h2 U2 G2))
                go_roundw
                case rel => exact ⟨k + 1, F2, _, _, _, by omega, by go_num, L2.out, HS2.out, HW2.out, fun b => by have := Hfew.out b; omega⟩
                case measure => simp [intOf]; omega
            · have hok : sendOk (st false) (fs k) = false := by unfold sendOk; simp; omega
              have Hok := Lib.hid hok
              clear hok
              obtain rfl : m = 0 := by omega
              go_wp2_with (first | (go_at_call 9; refine Calls.mono (send_is w1.heap.size st F false (.slice A' 0 c') (fs k) _ HLn.out HB.out false _ Hok.out (sendP_no _ _ _ Hok.out)) ?_; rintro e w2 ⟨rfl, F2, h2, U2, G2⟩; have HW2 := Lib.hid (HWn.out.keep U2 (fun _ h => h) (fun k hk => (G2 k hk).imp (fun h => h.1) id)); have HS2 := Lib.hid (HSn.out.step U2 G2); have L2 := Lib.hid h2; have d1 : w2.cell? ⟨gl, o + k, none⟩ = some (.slice A' 0 c') := ((hb.trans (HS2.out.below.mono hb.size)).cell (World.block_lt_of_cell? _ _ Hcw.out)).trans Hcw.out; clear h2 U2 G2))
              go_roundw
              case rel => exact ⟨k + 1, F2, _, _, _, by omega, by go_num, L2.out, HS2.out, HW2.out, fun b => by have := Hfew.out b; omega⟩
              case measure => simp [intOf]; omega
        · have hku' : ¬ (k : Int) < (nu : Int) := by omega
          by_cases hm0 : 0 < m
          · by_cases hm1 : m ≤ 1024
            · obtain ⟨Av, cv, hV⟩ := owns_form (hW.owns false)
              obtain ⟨nv, hnv⟩ : ∃ n, (us false).length = n := ⟨_, rfl⟩
              rw [hnv] at hV
              have hnk : nv ≤ k := by have h1 := (hW.frs false).len; have h2 := hfew false; omega
              have HV := Lib.hid hV
              have Hnv := Lib.hid hnv
              have hok : sendOk (st false) (fs k) = true := by unfold sendOk; have h2 := hfew false; simp; omega
              have Hok := Lib.hid hok
              obtain ⟨gb, ob, rfl, hlies⟩ := Hb'.out hm0
              have HL := Lib.hid hlies
              have x1 : (0 : Int) < (m : Int) := by omega
              have x2 : (m : Int) ≤ 1024 := by omega
              clear hok hV hnv hlies
              go_wp2_with (first | (go_at_call 9; refine Calls.mono (send_is w1.heap.size st F false (.slice (some ⟨gb, ob, none⟩) m c') (fs k) _ HLn.out HB.out true _ Hok.out (sendP_ok _ _ _ Hok.out)) ?_; rintro e w2 ⟨rfl, F2, h2, U2, G2⟩; have HW2 := Lib.hid (HWn.out.keep U2 (fun _ h => h) (fun k hk => (G2 k hk).imp (fun h => h.1) id)); have HS2 := Lib.hid (HSn.out.step U2 G2); have L2 := Lib.hid h2; have d1 : w2.cell? ⟨gl, o + k, none⟩ = some (.slice (some ⟨gb, ob, none⟩) m c') := ((hb.trans (HS2.out.below.mono hb.size)).cell (World.block_lt_of_cell? _ _ Hcw.out)).trans Hcw.out; have lw2 : w1.heap.size + 1 < w2.heap.size := lt_of_block HW2.out.blk; have d2 : w2.cell? ⟨w1.heap.size + 1, 1, none⟩ = some (.slice Av nv cv) := (by rw [cell_of_row w2 (w1.heap.size + 1) 1 _ _ _ HW2.out.blk, ← HV.out]; rfl); have HO := Lib.hid (show w2.ownsRow 0 30 1 (.slice Av nv cv) nv (us false) from (by have := HW2.out.owns false; rw [HV.out, Hnv.out] at this; exact this)); clear h2 U2 G2))
              go_region_law (first
                | ((refine step_append_lies _ (by rfl) (Operand.tmp 74) (Operand.tmp 79) _ (by rfl) 0 30 i30 _ 1 24 Try.underlying22 hi30 hz30 hs30 hb30 rfl (by omega) (.slice Av nv cv) nv (us false) (by rfl) (((Upto.refl (fun _ => False) w2).drew.alloc _).owns HO.out (fun _ _ h => h.elim)) ⟨w2.heap.size, 0, none⟩ 1 1 [.slice (some ⟨gb, ob, none⟩) m c'] (by rfl) (by rfl) (World.news_of_block (heap_alloc_new w2.drew _)) (by simp [Value.oneCell']) (by omega) (by unfold maxLen; omega) (by omega) (Nat.zero_le _) (w2.heap.size + 1) (by simp) ?_; intro g4 cap4 w4 hown4 hgrow4 hat4 hlt4; have b4 := ((Upto.refl (fun k => (Value.slice Av nv cv).ownBlock = some k) (w2.drew.alloc _)).grown hgrow4 (fun k hk => .inl hk)).blk (fun hk => HW2.out.row_ne false (by rw [HV.out]; exact hk) rfl) (((Upto.refl (fun _ => False) w2).drew.alloc _).blk (fun h => h.elim) HW2.out.blk); have e4 : w4.cell? ⟨w1.heap.size + 1, 1, none⟩ = some (.slice Av nv cv) := (by rw [cell_of_row w4 (w1.heap.size + 1) 1 _ _ _ b4, ← HV.out]; rfl); have f4 : w4.frozen? ⟨w1.heap.size + 1, 1, none⟩ = false := frozen_of_row b4; replace b4 := Lib.hid b4)))
              all_goals
                have hpush := Lib.hid (HW2.out.push L2.out HS2.out false (av := .slice (some ⟨gb, ob, none⟩) m c') (bs := fs k) ⟨gb, ob, m, c', rfl, Hbl.out, hm0, HL.out⟩ ((Upto.refl (fun _ => False) w2).drew.alloc _) (row := (Value.slice Av nv cv).ownBlock) (by rw [HV.out]) hgrow4 Hnv.out.symm hown4 (by intro k hk; obtain rfl : g4 = k := (by simpa [Value.ownBlock] using hk); rcases hat4 with h | h; exact .inl (by rw [HV.out]; exact h); exact .inr (by omega)) rfl)
                go_wp2
                go_roundw
                case rel => exact ⟨k + 1, F2, _, _, _, by omega, by go_num, hpush.out.1, hpush.out.2.1, hpush.out.2.2, fun b => by have := Hfew.out b; by_cases hb : b = false; (subst hb; rw [upd_same]; simp; omega); (rw [upd_other _ _ _ hb]; omega)⟩
                case measure => simp [intOf]; omega
            · have hok : sendOk (st false) (fs k) = false := by unfold sendOk; simp; omega
              have Hok := Lib.hid hok
              clear hok
              have x1 : (0 : Int) < (m : Int) := by omega
              have x2 : decide ((m : Int) ≤ 1024) = false := by simp; omega
              go_wp2_with (first | (go_at_call 9; refine Calls.mono (send_is w1.heap.size st F false (.slice A' m c') (fs k) _ HLn.out HB.out false _ Hok.out (sendP_no _ _ _ Hok.out)) ?_; rintro e w2 ⟨rfl, F2, h2, U2, G2⟩; have HW2 := Lib.hid (HWn.out.keep U2 (fun _ h => h) (fun k hk => (G2 k hk).imp (fun h => h.1) id)); have HS2 := Lib.hid (HSn.out.step U2 G2); have L2 := Lib.hid h2; have d1 : w2.cell? ⟨gl, o + k, none⟩ = some (.slice A' m c') := ((hb.trans (HS2.out.below.mono hb.size)).cell (World.block_lt_of_cell? _ _ Hcw.out)).trans Hcw.out; clear h2 U2 G2))
              go_roundw
              case rel => exact ⟨k + 1, F2, _, _, _, by omega, by go_num, L2.out, HS2.out, HW2.out, fun b => by have := Hfew.out b; omega⟩
              case measure => simp [intOf]; omega
          · have hok : sendOk (st false) (fs k) = false := by unfold sendOk; simp; omega
            have Hok := Lib.hid hok
            clear hok
            obtain rfl : m = 0 := by omega
            go_wp2_with (first | (go_at_call 9; refine Calls.mono (send_is w1.heap.size st F false (.slice A' 0 c') (fs k) _ HLn.out HB.out false _ Hok.out (sendP_no _ _ _ Hok.out)) ?_; rintro e w2 ⟨rfl, F2, h2, U2, G2⟩; have HW2 := Lib.hid (HWn.out.keep U2 (fun _ h => h) (fun k hk => (G2 k hk).imp (fun h => h.1) id)); have HS2 := Lib.hid (HSn.out.step U2 G2); have L2 := Lib.hid h2; have d1 : w2.cell? ⟨gl, o + k, none⟩ = some (.slice A' 0 c') := ((hb.trans (HS2.out.below.mono hb.size)).cell (World.block_lt_of_cell? _ _ Hcw.out)).trans Hcw.out; clear h2 U2 G2))
            go_roundw
            case rel => exact ⟨k + 1, F2, _, _, _, by omega, by go_num, L2.out, HS2.out, HW2.out, fun b => by have := Hfew.out b; omega⟩
            case measure => simp [intOf]; omega
    · obtain rfl : n = k := by omega
      have HLn := Lib.hid hL
      have HSn := Lib.hid hS
      have HWn := Lib.hid hW
      have Hfew := Lib.hid hfew
      clear hL hS hW hfew
      go_wp2
      refine wp_loop_rounds 3 ?_
      rw [rounds_succ]
      go_wp2
      go_loopw [13] (fun u wr2 => InRel w w1 w1.heap.size (w1.heap.size + 1) true V us st u wr2) (fun v _ => (st true).length - (intOf v).toNat)
      case atStart => exact ⟨0, F, st, rfl, Nat.zero_le _, HLn.out, HSn.out, HWn.out, by simp, rfl⟩
      case round =>
        obtain ⟨i, F0, st0, rfl, hi, hL0, hS0, hW0, ea0, eb0⟩ := hrel
        have HL0 := Lib.hid hL0
        have HS0 := Lib.hid hS0
        have HW0 := Lib.hid hW0
        have EA0 := Lib.hid ea0
        have EB0 := Lib.hid eb0
        clear hL0 hS0 hW0 ea0 eb0
        obtain ⟨Av, cv, hV⟩ := owns_form (HW0.out.owns true)
        have hlen := (HW0.out.frs true).len
        rw [hlen] at hV
        have cv0 : wr.cell? ⟨w1.heap.size + 1, 0, none⟩ = some (.slice Av (st true).length cv) := by (rw [cell_of_row wr (w1.heap.size + 1) 0 _ _ _ HW0.out.blk, ← hV]; rfl)
        have HV := Lib.hid hV
        have Hlen := Lib.hid hlen
        have lw : w1.heap.size + 1 < wr.heap.size := lt_of_block HW0.out.blk
        clear hV hlen
        have hfe : (st true).length ≤ 64 := by have := Hfew.out true; omega
        by_cases hlti : i < (st true).length
        · obtain ⟨av, bs, hav, hbs, gb2, o2, n2, c2, rfl, hl2, h02, hL2⟩ := (HW0.out.frs true).at_ i hlti
          obtain ⟨r, cu2, hv, _, lr⟩ := (HW0.out.owns true).form (by rw [Hlen.out]; omega)
          rw [HV.out] at hv
          obtain rfl : Av = some ⟨r, 0, none⟩ := by injection hv
          have HCw := Lib.hid (show ∀ wz, Want w w1 wz (w1.heap.size + 1) (fun _ => False) V us st → wz.cell? ⟨r, i, none⟩ = some (.slice (some ⟨gb2, o2, none⟩) n2 c2) from fun wz h => by
            have := (h.owns true).cells (g := r) (by rw [HV.out]; rfl) i _ hav
            rw [addr_add, Nat.zero_add] at this
            exact this)
          have HT := Lib.hid (show (st0 true)[0]? = some bs from by rw [EA0.out, List.getElem?_drop]; simpa using hbs)
          have Hl2 := Lib.hid hl2
          have HL2 := Lib.hid hL2
          have x9 : (i : Int) < ((st true).length : Int) := by omega
          clear hv hav hbs hl2 hL2
          go_wp2_with (first | (go_at_call 10; refine Calls.mono (take_is w1.heap.size st0 F0 _ HL0.out true 0 bs _ HT.out rfl) ?_; rintro e w2 ⟨gt, ct, rfl, hF2, _, _, FG2, F2, h2, U2, G2⟩; rw [Hl2.out] at hF2 ⊢; have HW2 := Lib.hid (HW0.out.keep U2 (fun _ h => h) (fun k hk => (G2 k hk).imp (fun h => h.1) id)); have HS2 := Lib.hid (HS0.out.step U2 G2); have L2 := Lib.hid h2; have d1 : w2.cell? ⟨w1.heap.size + 1, 0, none⟩ = some (.slice (some ⟨r, 0, none⟩) (st true).length cv) := (by rw [cell_of_row w2 (w1.heap.size + 1) 0 _ _ _ HW2.out.blk, ← HV.out]; rfl); have d2 : w2.cell? ⟨r, i, none⟩ = some (.slice (some ⟨gb2, o2, none⟩) n2 c2) := HCw.out w2 (HW2.out.weak); have q1 := fun m => (hF2.upto ((Upto.refl (fun _ => False) w2).drewN m) (fun h => h.elim)).conv Hl2.out; have q2 := fun m => ((HL2.out.below (hb.trans (HS2.out.below.mono hb.size))).upto ((Upto.refl (fun _ => False) w2).drewN m)).conv (c := c2) Hl2.out; clear h2 U2 G2 hF2))
          go_quiet (fail)
          go_wp2
          go_roundw
          case rel => exact ⟨i + 1, F2, _, by go_num, by omega, L2.out.drewN _, HS2.out.drewN _, HW2.out.drewN _, by rw [upd_same, EA0.out]; simp [List.drop_drop, Nat.add_comm], by have := EB0.out; exact this⟩
          case measure => simp [intOf]; omega
        · obtain rfl : i = (st true).length := by omega
          have E0 : st0 true = [] := by rw [EA0.out]; simp
          have x8 : decide (((st true).length : Int) < ((st true).length : Int)) = false := by simp
          clear x8
          go_wp2
          rw [rounds_succ]
          go_wp2
          go_loopw [13] (fun u wr2 => InRel w w1 w1.heap.size (w1.heap.size + 1) false V us st u wr2) (fun v _ => (st false).length - (intOf v).toNat)
          case atStart => exact ⟨0, F0, st0, rfl, Nat.zero_le _, HL0.out, HS0.out, HW0.out, by have := EB0.out; simpa using this, E0⟩
          case round =>
            obtain ⟨i, F1, st1, rfl, hi, hL1, hS1, hW1, ea1, eb1⟩ := hrel
            have HL1 := Lib.hid hL1
            have HS1 := Lib.hid hS1
            have HW1 := Lib.hid hW1
            have EA1 := Lib.hid ea1
            have EB1 := Lib.hid eb1
            clear hL1 hS1 hW1 ea1 eb1
            obtain ⟨Av, cv, hV⟩ := owns_form (HW1.out.owns false)
            have hlen := (HW1.out.frs false).len
            rw [hlen] at hV
            have cv0 : wr.cell? ⟨w1.heap.size + 1, 1, none⟩ = some (.slice Av (st false).length cv) := by (rw [cell_of_row wr (w1.heap.size + 1) 1 _ _ _ HW1.out.blk, ← hV]; rfl)
            have HV := Lib.hid hV
            have Hlen := Lib.hid hlen
            have lw : w1.heap.size + 1 < wr.heap.size := lt_of_block HW1.out.blk
            clear hV hlen
            have hfe : (st false).length ≤ 64 := by have := Hfew.out false; omega
            by_cases hlti : i < (st false).length
            · obtain ⟨av, bs, hav, hbs, gb2, o2, n2, c2, rfl, hl2, h02, hL2⟩ := (HW1.out.frs false).at_ i hlti
              obtain ⟨r, cu2, hv, _, lr⟩ := (HW1.out.owns false).form (by rw [Hlen.out]; omega)
              rw [HV.out] at hv
              obtain rfl : Av = some ⟨r, 0, none⟩ := by injection hv
              have HCw := Lib.hid (show ∀ wz, Want w w1 wz (w1.heap.size + 1) (fun _ => False) V us st → wz.cell? ⟨r, i, none⟩ = some (.slice (some ⟨gb2, o2, none⟩) n2 c2) from fun wz h => by
                have := (h.owns false).cells (g := r) (by rw [HV.out]; rfl) i _ hav
                rw [addr_add, Nat.zero_add] at this
                exact this)
              have HT := Lib.hid (show (st1 false)[0]? = some bs from by rw [EA1.out, List.getElem?_drop]; simpa using hbs)
              have Hl2 := Lib.hid hl2
              have HL2 := Lib.hid hL2
              have x9 : (i : Int) < ((st false).length : Int) := by omega
              clear hv hav hbs hl2 hL2
              go_wp2_with (first | (go_at_call 10; refine Calls.mono (take_is w1.heap.size st1 F1 _ HL1.out false 0 bs _ HT.out rfl) ?_; rintro e w2 ⟨gt, ct, rfl, hF2, _, _, FG2, F2, h2, U2, G2⟩; rw [Hl2.out] at hF2 ⊢; have HW2 := Lib.hid (HW1.out.keep U2 (fun _ h => h) (fun k hk => (G2 k hk).imp (fun h => h.1) id)); have HS2 := Lib.hid (HS1.out.step U2 G2); have L2 := Lib.hid h2; have d1 : w2.cell? ⟨w1.heap.size + 1, 1, none⟩ = some (.slice (some ⟨r, 0, none⟩) (st false).length cv) := (by rw [cell_of_row w2 (w1.heap.size + 1) 1 _ _ _ HW2.out.blk, ← HV.out]; rfl); have d2 : w2.cell? ⟨r, i, none⟩ = some (.slice (some ⟨gb2, o2, none⟩) n2 c2) := HCw.out w2 (HW2.out.weak); have q1 := fun m => (hF2.upto ((Upto.refl (fun _ => False) w2).drewN m) (fun h => h.elim)).conv Hl2.out; have q2 := fun m => ((HL2.out.below (hb.trans (HS2.out.below.mono hb.size))).upto ((Upto.refl (fun _ => False) w2).drewN m)).conv (c := c2) Hl2.out; clear h2 U2 G2 hF2))
              go_quiet (fail)
              go_wp2
              go_roundw
              case rel => exact ⟨i + 1, F2, _, by go_num, by omega, L2.out.drewN _, HS2.out.drewN _, HW2.out.drewN _, by rw [upd_same, EA1.out]; simp [List.drop_drop, Nat.add_comm], by have := EB1.out; exact this⟩
              case measure => simp [intOf]; omega
            · obtain rfl : i = (st false).length := by omega
              have EX : st1 false = [] := by rw [EA1.out]; simp
              have x8 : decide (((st false).length : Int) < ((st false).length : Int)) = false := by simp
              have E1 : st0 true = [] := E0
              have E2 : st1 true = [] := EB1.out
              have z1 : ((st1 true).length : Int) = 0 := by rw [E2]; rfl
              have z2 : ((st1 false).length : Int) = 0 := by rw [EX]; rfl
              have Z1 := Lib.hid z1
              have Z2 := Lib.hid z2
              clear E0 EX E1 E2 z1 z2
              go_wp2
              rw [rounds_succ]
              go_wp2_with (first | (go_at_call 11; have hx := m1; refine Calls.mono (len_is w1.heap.size st1 F1 false _ HL1.out 0 Z2.out) ?_; rintro e w5 ⟨rfl, rfl⟩) | (go_at_call 11; refine Calls.mono (len_is w1.heap.size st1 F1 true _ HL1.out 0 Z1.out) ?_; rintro e w5 ⟨rfl, rfl⟩; have m1 : True ∨ True := .inl trivial))
              go_ret
              exact ⟨rfl, hb.trans (HS1.out.below.mono hb.size)⟩
end Go.Proofs.Ytomhnabgdbpoiaa
