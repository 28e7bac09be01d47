/- LinkSent: it answers true. Conditions: the arguments' cells. -/
import Derived.Test.YtomhnabgdbpoiaaSent0
namespace Go.Proofs.Ytomhnabgdbpoiaa
open Go.RowKit
attribute [local go_sem ↓] Go.wp_at_zero Go.wp_at_succ
set_option linter.unusedVariables false
set_option linter.unusedSimpArgs false

def SentRel (W w0 : World) (g n : Nat) (s c u : Value) (wr : World) : Prop :=
  ∃ (k : Nat) (F : Nat → Prop) (st : St) (us uc : List Value) (sent come : List (List Int)), k ≤ n ∧ u = .int .i64 k ∧ LinkAt wr g st F ∧ Since w0 wr F ∧ Gath W w0 wr F s c us uc sent come ∧ Cnts st sent come ∧ sent.length ≤ k ∧ come.length ≤ k

def OutRel (m : Nat) (w0 : World) (u : Value) (wr : World) : Prop := ∃ i : Nat, i ≤ m ∧ u = .int .i64 i ∧ Upto (fun _ => False) w0 wr
def sameStr (t : ByteArray) (b : List Int) : Bool := (strOfNums b).toList == t.toList
def CountRel (p : List Int → Bool) (l : List (List Int)) (w0 : World) (a u : Value) (wr : World) : Prop := ∃ k : Nat, k ≤ l.length ∧ u = .int .i64 k ∧ a = .int .i64 ((l.take k).countP p : Nat) ∧ Upto (fun _ => False) w0 wr
theorem take_none (g : Nat) (st : St) (F : Nat → Prop) (w : World) (hL : LinkAt w g st F) (up : Bool) (k : Int) (hk : k < 0 ∨ ((st up).length : Int) ≤ k) : Calls Try.prog 10 #[.pointer (some ⟨g, 0, none⟩), .bool up, .int .i64 k] w (Same (.tuple #[.slice none 0 0, .bool false]) w) := by
  refine (take_any g st F w hL up k).mono ?_
  rintro e w' (⟨n, hn, hlt, _⟩ | ⟨_, h⟩)
  · omega
  · exact h

set_option maxRecDepth 100000 in
set_option maxHeartbeats 4000000 in
theorem sent_any (v : Value) (n : Nat) (op : Nat → OpIs) (w : World) (h : OpsArg w v n op) : Calls Try.prog 4 #[v] w (Ret (.bool true) w) := by
  have hO := Lib.hid h
  obtain ⟨A, c, rfl, hm, hl, hf⟩ := h
  obtain ⟨i30, hi30, hz30, hs30, hb30⟩ := info_parts info30
  have Hl := Lib.hid hl
  have Hf := Lib.hid hf
  clear hl hf
  have HO := Lib.hid (show ∀ w1, Below w.heap.size w w1 → OpsArg w1 (.slice A n c) n op from fun w1 hb => hO.out.below hb)
  go_enter Try.func4, Try.ntmps4
  go_wp2_with (first | (go_at_call 8; refine (awake_ok _).mono ?_; rintro e w1 ⟨rfl, hb⟩) | (go_at_call 12; refine (few_any _ n op _ (HO.out _ hb)).mono ?_; rintro e w2 ⟨b, rfl, rfl, hfew⟩; have Hfew := Lib.hid hfew; clear hfew; cases b))
  · go_ret
    exact ⟨by simp, hb⟩
  obtain ⟨h200, hlens⟩ := Hfew.out (by simp)
  have Hlens := Lib.hid hlens
  clear hlens
  go_loopw [6, 7, 8] (fun s c u wr => SentRel w w1 w1.heap.size n s c u wr) (fun _ _ u _ => n - (intOf u).toNat)
  case atStart =>
    exact ⟨0, fun k => k = w1.heap.size, fun _ => [], [], [], [], [], Nat.zero_le _, rfl, link_made w1, Since.made w1 _, ⟨⟨rfl, .inl ⟨rfl, rfl⟩⟩, ⟨rfl, .inl ⟨rfl, rfl⟩⟩, fun k hk => by simp [Value.ownBlock] at hk, fun k hk => by simp [Value.ownBlock] at hk, fun k hk => by simp [Value.ownBlock] at hk, trivial, trivial⟩, Cnts.none, Nat.le_refl _, Nat.le_refl _⟩
  case round =>
    obtain ⟨k, F, st, us, uc, sent, come, hk, rfl, hL, hS, hG, hC, hls, hlc⟩ := hrel
    have HLn := Lib.hid hL
    have HSn := Lib.hid hS
    have HGn := Lib.hid hG
    have HCn := Lib.hid hC
    have Hls := Lib.hid hls
    have Hlc := Lib.hid hlc
    clear hL hS hG hC hls hlc
    by_cases hlt : k < n
    · obtain ⟨gl, o, rfl, hop⟩ := Hl.out (by omega)
      have h5 := hop k hlt
      have h6 := Hf.out k hlt
      have h7 := Hlens.out k hlt
      have hbw := hb.trans (HSn.out.below.mono hb.size)
      replace h5 := h5.below hbw
      obtain ⟨x, hx⟩ : ∃ x, op k = x := ⟨_, rfl⟩
      rw [hx] at h5 h6 h7
      obtain ⟨d, j, bit, up, sv, bs⟩ := x
      dsimp only at h6 h7
      obtain ⟨c0, c1, c2, c3, c4⟩ := h5
      dsimp only at c0 c1 c2 c3 c4
      obtain ⟨hsv, hb8, hj, hbit⟩ := h6
      have HB := Lib.hid (show ∀ w1, Below w.heap.size w w1 → BytesIn w1 sv bs from fun w1 h => hsv.bytes h)
      obtain ⟨A', m, c', rfl, hbl, hm', hb'⟩ := hsv
      rw [hbl] at h7
      have Hb' := Lib.hid hb'
      have Hbl := Lib.hid hbl
      have Hbw := Lib.hid hbw
      obtain ⟨hj1, hj2⟩ := hj
      clear hop hb' hbl hbw hx hb8 hbit
      by_cases hd0 : d = 0
      · subst hd0
        have Hlen := Lib.hid (HGn.out.frS.len)
        obtain ⟨nu, hnu⟩ : ∃ n, us.length = n := ⟨_, rfl⟩
        have hnk : nu ≤ 200 := by rw [← hnu, Hlen.out]; exact Nat.le_trans Hls.out (by omega)
        have Hnu := Lib.hid hnu
        clear hnu
        by_cases hok : sendOk (st up) bs = true
        · have hm0 : 0 < m := by have h := hok; unfold sendOk at h; simp at h; have := Hbl.out; omega
          have Hok := Lib.hid hok
          obtain ⟨gb, ob, rfl, hlies⟩ := Hb'.out hm0
          have HLi := Lib.hid hlies
          clear hok hlies
          go_wp2_with (first
            | (go_at_call 9; refine Calls.mono (send_is w1.heap.size st F up (.slice (some ⟨gb, ob, none⟩) m c') bs _ (HLn.out.alloc _) (HB.out _ (Hbw.out.alloc Hbw.out.size _)) true _ Hok.out (sendP_ok _ _ _ Hok.out)) ?_; rintro e w2 ⟨rfl, F2, h2, U2, G2⟩; have HG2 := Lib.hid ((HGn.out.quiet ((Upto.refl _ _).alloc _)).keep U2 (fun _ h => h) (fun k hk => (G2 k hk).imp (fun h => h.1) id)); have HS2 := Lib.hid ((HSn.out.alloc _).step U2 G2); have L2 := Lib.hid h2; have e4 : w2.cell? ⟨wr.heap.size, 4, none⟩ = some (.slice (some ⟨gb, ob, none⟩) m c') := U2.cell (p := ⟨wr.heap.size, 4, none⟩) (fun h => Nat.lt_irrefl _ (HSn.out.2 _ h).2) (by rw [World.cell?_alloc_mark]; rfl); have z2 : wr.heap.size < w2.heap.size := World.block_lt_of_cell? _ _ e4; clear h2 U2 G2)
            | (at_builtin; refine wpList_append_own_at _ rfl (Operand.tmp 46) (Operand.tmp 49) _ rfl 0 30 i30 _ 1 24 Try.underlying22 hi30 hz30 hs30 hb30 rfl (by omega) u6 nu us rfl (((Upto.refl (fun _ => False) w2).alloc _).owns (by have := HG2.out.ownsS; rw [Hnu.out] at this; exact this) (fun _ _ h => h.elim)) ⟨w2.heap.size, 0, none⟩ 1 1 [.slice (some ⟨gb, ob, none⟩) m c'] rfl (by simp) (World.news_of_block (heap_alloc_new w2 _)) (by simp [Value.oneCell']) (by unfold maxLen; omega) (by omega) (Nat.zero_le _) ?_; intro v2 w4 hown4 hgrow4 hnil4 hat4; have hpush := Lib.hid (HG2.out.pushS L2.out HS2.out ⟨gb, ob, m, c', rfl, Hbl.out, hm0, HLi.out⟩ ((Upto.refl (fun _ => False) w2).alloc _) rfl hgrow4 Hnu.out hown4 (by intro kk hk; rcases hat4 with h | h; exact .inl (h ▸ hk); (right; rw [h] at hk; simp at hk; omega))); clear hown4 hgrow4 hnil4 hat4))
          go_roundw
          case rel => exact ⟨k + 1, F2, _, _, _, _, _, by omega, by go_num, hpush.out.1, hpush.out.2.1, hpush.out.2.2, HCn.out.send up bs, by have := Hls.out; simp; omega, by have := Hlc.out; omega⟩
          case measure => simp [intOf]; omega
        · have hok' : sendOk (st up) bs = false := by simpa using hok
          have Hok := Lib.hid hok'
          clear hok hok'
          go_wp2_with (first
            | (go_at_call 9; refine Calls.mono (send_is w1.heap.size st F up (.slice A' m c') bs _ (HLn.out.alloc _) (HB.out _ (Hbw.out.alloc Hbw.out.size _)) false _ Hok.out (sendP_no _ _ _ Hok.out)) ?_; rintro e w2 ⟨rfl, F2, h2, U2, G2⟩; have HG2 := Lib.hid ((HGn.out.quiet ((Upto.refl _ _).alloc _)).keep U2 (fun _ h => h) (fun k hk => (G2 k hk).imp (fun h => h.1) id)); have HS2 := Lib.hid ((HSn.out.alloc _).step U2 G2); have L2 := Lib.hid h2; clear h2 U2 G2))
          go_roundw
          case rel => exact ⟨k + 1, F2, _, _, _, _, _, by omega, by go_num, L2.out, HS2.out, HG2.out, HCn.out, by have := Hls.out; omega, by have := Hlc.out; omega⟩
          case measure => simp [intOf]; omega
      by_cases hd1 : d = 1
      · subst hd1
        have Hlen := Lib.hid (HGn.out.frS.len)
        obtain ⟨nu, hnu⟩ : ∃ n, us.length = n := ⟨_, rfl⟩
        have hnk : nu ≤ 200 := by rw [← hnu, Hlen.out]; exact Nat.le_trans Hls.out (by omega)
        have Hnu := Lib.hid hnu
        clear hnu
        by_cases hok : sendOk (st up) bs = true
        · have hm0 : 0 < m := by have h := hok; unfold sendOk at h; simp at h; have := Hbl.out; omega
          have Hok := Lib.hid hok
          obtain ⟨gb, ob, rfl, hlies⟩ := Hb'.out hm0
          have HLi := Lib.hid hlies
          clear hok hlies
          go_wp2_with (first
            | (go_at_call 9; refine Calls.mono (send_is w1.heap.size st F up (.slice (some ⟨gb, ob, none⟩) m c') bs _ (HLn.out.alloc _) (HB.out _ (Hbw.out.alloc Hbw.out.size _)) true _ Hok.out (sendP_ok _ _ _ Hok.out)) ?_; rintro e w2 ⟨rfl, F2, h2, U2, G2⟩; have HG2 := Lib.hid ((HGn.out.quiet ((Upto.refl _ _).alloc _)).keep U2 (fun _ h => h) (fun k hk => (G2 k hk).imp (fun h => h.1) id)); have HS2 := Lib.hid ((HSn.out.alloc _).step U2 G2); have L2 := Lib.hid h2; have e4 : w2.cell? ⟨wr.heap.size, 4, none⟩ = some (.slice (some ⟨gb, ob, none⟩) m c') := U2.cell (p := ⟨wr.heap.size, 4, none⟩) (fun h => Nat.lt_irrefl _ (HSn.out.2 _ h).2) (by rw [World.cell?_alloc_mark]; rfl); have z2 : wr.heap.size < w2.heap.size := World.block_lt_of_cell? _ _ e4; clear h2 U2 G2)
            | (at_builtin; refine wpList_append_own_at _ rfl (Operand.tmp 46) (Operand.tmp 49) _ rfl 0 30 i30 _ 1 24 Try.underlying22 hi30 hz30 hs30 hb30 rfl (by omega) u6 nu us rfl (((Upto.refl (fun _ => False) w2).alloc _).owns (by have := HG2.out.ownsS; rw [Hnu.out] at this; exact this) (fun _ _ h => h.elim)) ⟨w2.heap.size, 0, none⟩ 1 1 [.slice (some ⟨gb, ob, none⟩) m c'] rfl (by simp) (World.news_of_block (heap_alloc_new w2 _)) (by simp [Value.oneCell']) (by unfold maxLen; omega) (by omega) (Nat.zero_le _) ?_; intro v2 w4 hown4 hgrow4 hnil4 hat4; have hpush := Lib.hid (HG2.out.pushS L2.out HS2.out ⟨gb, ob, m, c', rfl, Hbl.out, hm0, HLi.out⟩ ((Upto.refl (fun _ => False) w2).alloc _) rfl hgrow4 Hnu.out hown4 (by intro kk hk; rcases hat4 with h | h; exact .inl (h ▸ hk); (right; rw [h] at hk; simp at hk; omega))); clear hown4 hgrow4 hnil4 hat4))
          go_roundw
          case rel => exact ⟨k + 1, F2, _, _, _, _, _, by omega, by go_num, hpush.out.1, hpush.out.2.1, hpush.out.2.2, HCn.out.send up bs, by have := Hls.out; simp; omega, by have := Hlc.out; omega⟩
          case measure => simp [intOf]; omega
        · have hok' : sendOk (st up) bs = false := by simpa using hok
          have Hok := Lib.hid hok'
          clear hok hok'
          go_wp2_with (first
            | (go_at_call 9; refine Calls.mono (send_is w1.heap.size st F up (.slice A' m c') bs _ (HLn.out.alloc _) (HB.out _ (Hbw.out.alloc Hbw.out.size _)) false _ Hok.out (sendP_no _ _ _ Hok.out)) ?_; rintro e w2 ⟨rfl, F2, h2, U2, G2⟩; have HG2 := Lib.hid ((HGn.out.quiet ((Upto.refl _ _).alloc _)).keep U2 (fun _ h => h) (fun k hk => (G2 k hk).imp (fun h => h.1) id)); have HS2 := Lib.hid ((HSn.out.alloc _).step U2 G2); have L2 := Lib.hid h2; clear h2 U2 G2))
          go_roundw
          case rel => exact ⟨k + 1, F2, _, _, _, _, _, by omega, by go_num, L2.out, HS2.out, HG2.out, HCn.out, by have := Hls.out; omega, by have := Hlc.out; omega⟩
          case measure => simp [intOf]; omega
      by_cases hd2 : d = 2
      · subst hd2
        have Hlen := Lib.hid (HGn.out.frC.len)
        obtain ⟨nu, hnu⟩ : ∃ n, uc.length = n := ⟨_, rfl⟩
        have hnk : nu ≤ 200 := by rw [← hnu, Hlen.out]; exact Nat.le_trans Hlc.out (by omega)
        have Hnu := Lib.hid hnu
        clear hnu
        by_cases hok : j < 0 ∨ ((st up).length : Int) ≤ j
        · have Hok := Lib.hid hok
          clear hok
          go_wp2_with (first
            | (go_at_call 10; refine Calls.mono (take_none w1.heap.size st F _ (HLn.out.alloc _) up j Hok.out) ?_; rintro e w2 ⟨rfl, rfl⟩))
          go_roundw
          case rel => exact ⟨k + 1, F, _, _, _, _, _, by omega, by go_num, HLn.out.alloc _, HSn.out.alloc _, HGn.out.quiet ((Upto.refl _ _).alloc _), HCn.out, by have := Hls.out; omega, by have := Hlc.out; omega⟩
          case measure => simp [intOf]; omega
        · obtain ⟨kk, rfl⟩ : ∃ kk : Nat, j = kk := ⟨j.toNat, by omega⟩
          obtain ⟨b', hb1⟩ : ∃ b', (st up)[kk]? = some b' := ⟨_, List.getElem?_eq_getElem (by omega)⟩
          obtain ⟨q, hq⟩ : ∃ q, b'.length = q := ⟨_, rfl⟩
          have HB1 := Lib.hid hb1
          have Hq := Lib.hid hq
          clear hok hb1 hq
          go_wp2_with (first
            | (go_at_call 10; refine Calls.mono (take_is w1.heap.size st F _ (HLn.out.alloc _) up kk b' _ HB1.out rfl) ?_; rintro e w2 ⟨gt, ct, rfl, hF2, _, _, FG2, F2, h2, U2, G2⟩; have HCo := Lib.hid (show Come w2 F2 (.slice (some ⟨gt, 0, none⟩) b'.length ct) b' from ⟨gt, ct, rfl, hF2, fun h => by rcases G2 _ h with h' | h'; exact h'.2 rfl; (have := (HSn.out.2 gt FG2).2; simp at h'; omega)⟩); rw [Hq.out] at HCo ⊢; have HG2 := Lib.hid ((HGn.out.quiet ((Upto.refl _ _).alloc _)).keep U2 (fun _ h => h) (fun k hk => (G2 k hk).imp (fun h => h.1) id)); have HS2 := Lib.hid ((HSn.out.alloc _).step U2 G2); have L2 := Lib.hid h2; clear h2 U2 G2 hF2)
            | (at_builtin; refine wpList_append_own_at _ rfl (Operand.tmp 63) (Operand.tmp 65) _ rfl 0 30 i30 _ 1 24 Try.underlying22 hi30 hz30 hs30 hb30 rfl (by omega) u7 nu uc rfl (((Upto.refl (fun _ => False) w2).alloc _).owns (by have := HG2.out.ownsC; rw [Hnu.out] at this; exact this) (fun _ _ h => h.elim)) ⟨w2.heap.size, 0, none⟩ 1 1 [.slice (some ⟨gt, 0, none⟩) q ct] rfl (by simp) (World.news_of_block (heap_alloc_new w2 _)) (by simp [Value.oneCell']) (by unfold maxLen; omega) (by omega) (Nat.zero_le _) ?_; intro v2 w4 hown4 hgrow4 hnil4 hat4; have hpush := Lib.hid (HG2.out.pushC L2.out HS2.out HCo.out ((Upto.refl (fun _ => False) w2).alloc _) rfl hgrow4 Hnu.out hown4 (by intro kk hk; rcases hat4 with h | h; exact .inl (h ▸ hk); (right; rw [h] at hk; simp at hk; omega))); clear hown4 hgrow4 hnil4 hat4))
          go_roundw
          case rel => exact ⟨k + 1, F2, _, _, _, _, _, by omega, by go_num, hpush.out.1, hpush.out.2.1, hpush.out.2.2, HCn.out.take up kk b' HB1.out, by have := Hls.out; omega, by have := Hlc.out; simp; omega⟩
          case measure => simp [intOf]; omega
      by_cases hd3 : d = 3
      · subst hd3
        go_wp2_with (first
            | (go_at_call 13; refine Calls.mono (drop_any w1.heap.size st F _ (HLn.out.alloc _) j hj2) ?_; rintro e w2 ⟨rfl, F2, h2, U2, G2⟩; have HG2 := Lib.hid ((HGn.out.quiet ((Upto.refl _ _).alloc _)).keep U2 (fun _ h => h) (fun k hk => (G2 k hk).imp (fun h => h.1) id)); have HS2 := Lib.hid ((HSn.out.alloc _).step U2 G2); have L2 := Lib.hid h2; clear h2 U2 G2))
        go_roundw
        case rel => exact ⟨k + 1, F2, _, _, _, _, _, by omega, by go_num, L2.out, HS2.out, HG2.out, HCn.out.drop j, by have := Hls.out; omega, by have := Hlc.out; omega⟩
        case measure => simp [intOf]; omega
      · go_wp2
        go_roundw
        case rel => exact ⟨k + 1, F, _, _, _, _, _, by omega, by go_num, HLn.out.alloc _, HSn.out.alloc _, HGn.out.quiet ((Upto.refl _ _).alloc _), HCn.out, by have := Hls.out; omega, by have := Hlc.out; omega⟩
        case measure => simp [intOf]; omega
    · obtain rfl : n = k := by omega
      obtain ⟨As, cs, hu⟩ := owns_form HGn.out.ownsS
      rw [HGn.out.frS.len] at hu
      subst hu
      obtain ⟨Ac, cc0, hu⟩ := owns_form HGn.out.ownsC
      rw [HGn.out.frC.len] at hu
      subst hu
      have hls := Hls.out
      have hlc := Hlc.out
      obtain ⟨WZ, hWZ⟩ : ∃ WZ, WZ = wr := ⟨_, rfl⟩
      subst hWZ
      go_wp2
      go_loopw [12] (fun u wr2 => OutRel come.length WZ u wr2) (fun u _ => come.length - (intOf u).toNat)
      case atStart => exact ⟨0, Nat.zero_le _, rfl, Upto.refl _ _⟩
      case round =>
        obtain ⟨i, hi, rfl, UW⟩ := hrel
        have HUW := Lib.hid UW
        by_cases hlti : i < come.length
        · obtain ⟨vi, bi, hvi, hbi, gi, ci, rfl, hFi, _⟩ := (HGn.out.quiet UW).frC.at_ i hlti
          obtain ⟨ni, hni⟩ : ∃ n, bi.length = n := ⟨_, rfl⟩
          rw [hni] at hvi hFi
          obtain ⟨rc, ck3, hv3, _, lr3⟩ := HGn.out.ownsC.form (by rw [HGn.out.frC.len]; omega)
          obtain rfl : Ac = some ⟨rc, 0, none⟩ := by injection hv3
          have HIi := Lib.hid hvi
          have HFi := Lib.hid (show ∀ w2, Upto (fun _ => False) WZ w2 → ∀ m, (convert 30 9 (.slice (some ⟨gi, 0, none⟩) ni ci)).run Try.prog (w2.drewN m) = .ok (.string (strOfNums bi)) (w2.drewN m) from fun w2 hU m => by
            obtain ⟨vi', bi', hvi', hbi', gi', ci', hvv, hFi', _⟩ := (HGn.out.quiet hU).frC.at_ i hlti
            have e1 := hvi.symm.trans hvi'
            have e2 := hbi.symm.trans hbi'
            cases e2
            rw [hni] at hvv
            have e3 := (Option.some.inj e1).trans hvv
            subst hvv
            cases e3
            exact (hFi'.upto ((Upto.refl (fun _ => False) w2).drewN m) (fun h => h.elim)).conv hni)
          obtain ⟨WY, hWY⟩ : ∃ WY, WY = wr := ⟨_, rfl⟩
          subst hWY
          have y0 : (i : Int) < (come.length : Int) := by omega
          clear hvi hFi hv3 UW
          go_wp2
          go_loopw [13, 15] (fun a u wr3 => CountRel (sameStr (strOfNums bi)) sent WY a u wr3) (fun _ u _ => sent.length - (intOf u).toNat)
          case atStart => exact ⟨0, Nat.zero_le _, rfl, by simp, Upto.refl _ _⟩
          case round =>
            obtain ⟨k2, hk2', rfl, rfl, U2⟩ := hrel
            have HU2 := Lib.hid U2
            have hcp : (sent.take k2).countP (sameStr (strOfNums bi)) ≤ k2 := Nat.le_trans List.countP_le_length (List.length_take_le _ _)
            by_cases hk2 : k2 < sent.length
            · have HG2 := Lib.hid (HGn.out.quiet (HUW.out.trans U2 (fun _ h => .inl h)))
              have HS2 := Lib.hid (show Since w1 wr F from ⟨HSn.out.1.trans (HUW.out.trans U2 (fun _ h => .inl h)) (fun _ h => h.elim), fun k hk => ⟨(HSn.out.2 k hk).1, Nat.lt_of_lt_of_le (HSn.out.2 k hk).2 (HUW.out.trans U2 (fun _ h => .inl h)).size⟩⟩)
              clear U2
              obtain ⟨av, bk, hav, hbk, gk, ok, nk, ck, rfl, hlk, _, hLk⟩ := HG2.out.frS.at_ k2 hk2
              obtain ⟨rk, ck2, hv, _, lr⟩ := HG2.out.ownsS.form (by rw [HG2.out.frS.len]; omega)
              obtain rfl : As = some ⟨rk, 0, none⟩ := by injection hv
              have d1 : wr.cell? ⟨rk, k2, none⟩ = some (.slice (some ⟨gk, ok, none⟩) nk ck) := by
                have := HG2.out.ownsS.cells (g := rk) rfl k2 _ hav
                rw [addr_add, Nat.zero_add] at this
                exact this
              have d2 : wr.cell? ⟨rc, i, none⟩ = some (.slice (some ⟨gi, 0, none⟩) ni ci) := by
                have := HG2.out.ownsC.cells (g := rc) rfl i _ HIi.out
                rw [addr_add, Nat.zero_add] at this
                exact this
              have q1 := fun m => ((hLk.below (hb.trans (HS2.out.below.mono hb.size))).upto ((Upto.refl (fun _ => False) wr).drewN m)).conv (c := ck) hlk
              have q2 := fun m => (HFi.out wr ((HUW.out.trans HU2.out (fun _ h => .inl h))) m)
              have hnx := countP_next sent k2 bk hbk (sameStr (strOfNums bi))
              obtain ⟨sx, hsx⟩ : ∃ s, strOfNums bk = s := ⟨_, rfl⟩
              obtain ⟨tx, htx⟩ : ∃ s, strOfNums bi = s := ⟨_, rfl⟩
              rw [sameStr, hsx] at hnx
              rw [hsx] at q1
              simp only [htx] at q2 hnx hcp ⊢
              have y1 : (k2 : Int) < (sent.length : Int) := by omega
              have y2 : (sent.length : Int) ≤ 200 := by have := Hls.out; omega
              obtain ⟨cc, hcc⟩ : ∃ cc, (sent.take k2).countP (sameStr tx) = cc := ⟨_, rfl⟩
              obtain ⟨cn, hcn⟩ : ∃ cc, (sent.take (k2 + 1)).countP (sameStr tx) = cc := ⟨_, rfl⟩
              rw [hcc] at hcp hnx ⊢
              rw [hcn] at hnx
              clear hv hav hbk hsx
              by_cases he : (sx.toList == tx.toList) = true
              · rw [if_pos he] at hnx
                have Hnx := Lib.hid hnx
                have Hcn := Lib.hid hcn
                have Htx := Lib.hid htx
                clear hnx hcc hcn htx
                go_wp2
                go_quiet (fail)
                go_wp2
                go_roundw
                case rel => exact ⟨k2 + 1, by omega, by go_num, by rw [Hcn.out, Hnx.out]; go_num, HU2.out.drewN _⟩
                case measure => simp [intOf]; omega
              · rw [if_neg he] at hnx
                have he2 : (sx.toList == tx.toList) = false := by simpa using he
                clear he
                have Hnx := Lib.hid hnx
                have Hcn := Lib.hid hcn
                have Htx := Lib.hid htx
                clear hnx hcc hcn htx
                go_wp2
                go_quiet (fail)
                go_wp2
                go_roundw
                case rel => exact ⟨k2 + 1, by omega, by go_num, by rw [Hcn.out, Hnx.out, Nat.add_zero], HU2.out.drewN _⟩
                case measure => simp [intOf]; omega
            · obtain rfl : sent.length = k2 := by omega
              rw [List.take_length] at hcp ⊢
              have hca := HCn.out (sameStr (strOfNums bi))
              obtain ⟨ca, hca'⟩ : ∃ c, sent.countP (sameStr (strOfNums bi)) = c := ⟨_, rfl⟩
              rw [hca'] at hca hcp ⊢
              have hca2 : ca ≤ 200 := by omega
              have Hca := Lib.hid hca
              clear hca hca'
              go_wp2
              go_loopw [14, 16] (fun a u wr3 => CountRel (sameStr (strOfNums bi)) come WY a u wr3) (fun _ u _ => come.length - (intOf u).toNat)
              case atStart => exact ⟨0, Nat.zero_le _, rfl, by simp, HU2.out⟩
              case round =>
                obtain ⟨k2, hk2', rfl, rfl, U2⟩ := hrel
                have HU2 := Lib.hid U2
                have hcp : (come.take k2).countP (sameStr (strOfNums bi)) ≤ k2 := Nat.le_trans List.countP_le_length (List.length_take_le _ _)
                by_cases hk2 : k2 < come.length
                · have HG2 := Lib.hid (HGn.out.quiet (HUW.out.trans U2 (fun _ h => .inl h)))
                  have HS2 := Lib.hid (show Since w1 wr F from ⟨HSn.out.1.trans (HUW.out.trans U2 (fun _ h => .inl h)) (fun _ h => h.elim), fun k hk => ⟨(HSn.out.2 k hk).1, Nat.lt_of_lt_of_le (HSn.out.2 k hk).2 (HUW.out.trans U2 (fun _ h => .inl h)).size⟩⟩)
                  clear U2
                  obtain ⟨av, bk, hav, hbk, gk, ck, rfl, hFk, _⟩ := HG2.out.frC.at_ k2 hk2
                  obtain ⟨nk, hlk⟩ : ∃ n, bk.length = n := ⟨_, rfl⟩
                  rw [hlk] at hav hFk
                  have d1 : wr.cell? ⟨rc, k2, none⟩ = some (.slice (some ⟨gk, 0, none⟩) nk ck) := by
                    have := HG2.out.ownsC.cells (g := rc) rfl k2 _ hav
                    rw [addr_add, Nat.zero_add] at this
                    exact this
                  have d2 : wr.cell? ⟨rc, i, none⟩ = some (.slice (some ⟨gi, 0, none⟩) ni ci) := by
                    have := HG2.out.ownsC.cells (g := rc) rfl i _ HIi.out
                    rw [addr_add, Nat.zero_add] at this
                    exact this
                  have q1 := fun m => (hFk.upto ((Upto.refl (fun _ => False) wr).drewN m) (fun h => h.elim)).conv hlk
                  have q2 := fun m => (HFi.out wr ((HUW.out.trans HU2.out (fun _ h => .inl h))) m)
                  have hnx := countP_next come k2 bk hbk (sameStr (strOfNums bi))
                  obtain ⟨sx, hsx⟩ : ∃ s, strOfNums bk = s := ⟨_, rfl⟩
                  obtain ⟨tx, htx⟩ : ∃ s, strOfNums bi = s := ⟨_, rfl⟩
                  rw [sameStr, hsx] at hnx
                  rw [hsx] at q1
                  simp only [htx] at q2 hnx hcp ⊢
                  have y1 : (k2 : Int) < (come.length : Int) := by omega
                  have y2 : (come.length : Int) ≤ 200 := by have := Hlc.out; omega
                  obtain ⟨cc, hcc⟩ : ∃ cc, (come.take k2).countP (sameStr tx) = cc := ⟨_, rfl⟩
                  obtain ⟨cn, hcn⟩ : ∃ cc, (come.take (k2 + 1)).countP (sameStr tx) = cc := ⟨_, rfl⟩
                  rw [hcc] at hcp hnx ⊢
                  rw [hcn] at hnx
                  clear hav hbk hsx
                  by_cases he : (sx.toList == tx.toList) = true
                  · rw [if_pos he] at hnx
                    have Hnx := Lib.hid hnx
                    have Hcn := Lib.hid hcn
                    have Htx := Lib.hid htx
                    clear hnx hcc hcn htx
                    go_wp2
                    go_quiet (fail)
                    go_wp2
                    go_roundw
                    case rel => exact ⟨k2 + 1, by omega, by go_num, by rw [Hcn.out, Hnx.out]; go_num, HU2.out.drewN _⟩
                    case measure => simp [intOf]; omega
                  · rw [if_neg he] at hnx
                    have he2 : (sx.toList == tx.toList) = false := by simpa using he
                    clear he
                    have Hnx := Lib.hid hnx
                    have Hcn := Lib.hid hcn
                    have Htx := Lib.hid htx
                    clear hnx hcc hcn htx
                    go_wp2
                    go_quiet (fail)
                    go_wp2
                    go_roundw
                    case rel => exact ⟨k2 + 1, by omega, by go_num, by rw [Hcn.out, Hnx.out, Nat.add_zero], HU2.out.drewN _⟩
                    case measure => simp [intOf]; omega
                · obtain rfl : come.length = k2 := by omega
                  rw [List.take_length] at hcp ⊢
                  have hle : come.countP (sameStr (strOfNums bi)) ≤ ca := by have := Hca.out; omega
                  obtain ⟨cb, hcb⟩ : ∃ c, come.countP (sameStr (strOfNums bi)) = c := ⟨_, rfl⟩
                  rw [hcb] at hle hcp ⊢
                  have hle2 : ¬ (ca : Int) < (cb : Int) := by omega
                  clear hcb
                  go_wp2
                  go_roundw
                  case rel => exact ⟨i + 1, by omega, by go_num, HUW.out.trans HU2.out (fun _ h => .inl h)⟩
                  case measure => simp [intOf]; omega
        · obtain rfl : come.length = i := by omega
          have hcl := HCn.out.lens
          obtain ⟨nc, hnc⟩ : ∃ c, come.length = c := ⟨_, rfl⟩
          obtain ⟨ns, hns⟩ : ∃ c, sent.length = c := ⟨_, rfl⟩
          obtain ⟨x1, hx1⟩ : ∃ c, (st true).length = c := ⟨_, rfl⟩
          obtain ⟨x2, hx2⟩ : ∃ c, (st false).length = c := ⟨_, rfl⟩
          rw [hnc, hns, hx1, hx2] at hcl
          rw [hnc] at hlc ⊢
          rw [hns] at hls ⊢
          have L2 := Lib.hid (HLn.out.keep UW (fun _ _ h => h))
          have X1 := Lib.hid (show ((st true).length : Int) = x1 by rw [hx1])
          have X2 := Lib.hid (show ((st false).length : Int) = x2 by rw [hx2])
          have y3 : (nc : Int) + (x1 : Int) + (x2 : Int) ≤ (ns : Int) := by omega
          clear hnc hns hx1 hx2 UW
          go_wp2_with (first
            | (go_at_call 11; have hx := m1; refine Calls.mono (len_is w1.heap.size st F false _ L2.out _ X2.out) ?_; rintro e w5 ⟨rfl, rfl⟩)
            | (go_at_call 11; refine Calls.mono (len_is w1.heap.size st F true _ L2.out _ X1.out) ?_; rintro e w5 ⟨rfl, rfl⟩; have m1 : True ∨ True := .inl trivial))
          go_ret
          exact ⟨rfl, hb.trans ((HSn.out.below.mono hb.size).trans ((HUW.out.toBelow (Nat.le_refl _) (fun _ h => h.elim)).mono (Nat.le_trans hb.size HSn.out.1.size)))⟩
end Go.Proofs.Ytomhnabgdbpoiaa
