/- LinkPlays: it answers true. Conditions: the argument's cells. -/
import Derived.Test.YtomhnabgdbpoiaaDoes
import Derived.Test.YtomhnabgdbpoiaaAwake
namespace Go.Proofs.Ytomhnabgdbpoiaa
open Go.RowKit
attribute [local go_sem ↓] Go.wp_at_zero Go.wp_at_succ
set_option linter.unusedVariables false
set_option linter.unusedSimpArgs false

def DrainRel (w0 : World) (g r m : Nat) (u : Value) (wr : World) : Prop := ∃ (k : Nat) (st : St) (F G : Nat → Prop), k ≤ m ∧ u = .int .i64 k ∧ Two w0 wr g r st st F G

set_option maxRecDepth 100000 in
set_option maxHeartbeats 4000000 in
theorem drains_any (w0 w : World) (g r : Nat) (st : St) (F G : Nat → Prop) (hT : Two w0 w g r st st F G) :
    Calls Try.prog 18 #[.pointer (some ⟨g, 0, none⟩), .pointer (some ⟨r, 0, none⟩)] w (BothEnd w0 g r) := by
  have cn := conv_nil
  have HT0 := Lib.hid hT
  clear hT
  go_enter Try.func18, Try.ntmps18
  go_wp2
  go_loopw [5] (fun u wr => DrainRel w0 g r 2 u wr) (fun u _ => 2 - (intOf u).toNat)
  case atStart => exact ⟨0, st, F, G, by omega, rfl, HT0.out⟩
  case round =>
    clear HT0
    obtain ⟨k, st1, F1, G1, hk, rfl, hT⟩ := hrel
    have HT1 := Lib.hid hT
    clear hT
    by_cases hlt : k < 2
    · have hlt' : (k : Int) < 2 := by omega
      go_wp2
      obtain ⟨wo, hwo⟩ : ∃ wo, wo = wr := ⟨_, rfl⟩
      subst hwo
      go_loopw [6] (fun u wr => DrainRel w0 g r 70 u wr) (fun u _ => 70 - (intOf u).toNat)
      case atStart => exact ⟨0, st1, F1, G1, by omega, rfl, HT1.out⟩
      case round =>
        clear HT1
        obtain ⟨i, st, F, G, hi, rfl, hT⟩ := hrel
        have HT := Lib.hid hT
        clear hT
        by_cases hlti : i < 70
        case neg =>
          obtain rfl : i = 70 := by omega
          go_wp2
          go_roundw
          case rel => exact ⟨k + 1, st, F, G, by omega, by go_num, HT.out⟩
          case measure => (simp [intOf] <;> omega)
        have hlti' : (i : Int) < 70 := by omega
        by_cases e0 : k = 0
        · have q0 : ((k : Int) == 0) = true := by simp [e0]
          clear e0
          by_cases hno : (st true).length = 0
          · have N1 := Lib.hid (take_nought g st F _ HT.out.a true 0 (.inr (by omega)))
            have N2 := Lib.hid (R.take_none r st G _ HT.out.b true 0 (.inr (by omega)))
            clear hno
            go_wp2_with (first
              | (go_at_call 10; refine N1.out.mono ?_; rintro e w1 ⟨rfl, rfl⟩)
              | (go_at_call 23; refine N2.out.mono ?_; rintro e w1 ⟨rfl, rfl⟩))
            go_roundw
            case rel => exact ⟨i + 1, st, F, G, by omega, by go_num, HT.out⟩
            case measure => (simp [intOf] <;> omega)
          · obtain ⟨fr, hbs⟩ : ∃ fr, (st true)[0]? = some fr := ⟨_, List.getElem?_eq_getElem (by omega)⟩
            obtain ⟨st', hst⟩ : ∃ st', upd st true ((st true).take 0 ++ (st true).drop (0 + 1)) = st' := ⟨_, rfl⟩
            clear hno
            have T1 : Calls Try.prog 10 #[.pointer (some ⟨g, 0, none⟩), .bool true, .int .i64 0] wr (TakesIs wr g F fr st') := take_is g st F wr HT.out.a true 0 fr st' hbs hst
            have T2 := Lib.hid (show ∀ W F1, Two w0 W g r st' st F1 G → Calls Try.prog 23 #[.pointer (some ⟨r, 0, none⟩), .bool true, .int .i64 0] W (R.TakesIs W r G fr st') from fun W F1 h => R.take_is r st G _ h.b true 0 fr st' hbs hst)
            have T1' := Lib.hid T1
            clear T1 hbs hst
            go_wp2_with (first
              | (go_at_call 10; refine T1'.out.mono ?_; rintro e w1 ⟨gb, cb, rfl, hF1, _, _, hgF, hp1⟩; obtain ⟨F1, hT1, hU1, _⟩ := HT.out.left hp1; replace hT1 := Lib.hid hT1; clear hp1)
              | (go_at_call 23; refine (T2.out _ _ hT1.out).mono ?_; rintro e w2 ⟨gb2, cb2, rfl, hF2, _, _, _, hp2⟩; obtain ⟨G2, hT2, hU2, _⟩ := hT1.out.right hp2; have v1 := Frm.conv (hF1.upto hU2 (HT.out.dis _ hgF)) rfl; have v2 := hF2.conv rfl; replace hT2 := Lib.hid hT2; clear hp2))
            go_roundw
            case rel => exact ⟨i + 1, st', F1, G2, by omega, by go_num, hT2.out⟩
            case measure => (simp [intOf] <;> omega)
        · have q0 : ((k : Int) == 0) = false := by simp [e0]
          clear e0
          by_cases hno : (st false).length = 0
          · have N1 := Lib.hid (take_nought g st F _ HT.out.a false 0 (.inr (by omega)))
            have N2 := Lib.hid (R.take_none r st G _ HT.out.b false 0 (.inr (by omega)))
            clear hno
            go_wp2_with (first
              | (go_at_call 10; refine N1.out.mono ?_; rintro e w1 ⟨rfl, rfl⟩)
              | (go_at_call 23; refine N2.out.mono ?_; rintro e w1 ⟨rfl, rfl⟩))
            go_roundw
            case rel => exact ⟨i + 1, st, F, G, by omega, by go_num, HT.out⟩
            case measure => (simp [intOf] <;> omega)
          · obtain ⟨fr, hbs⟩ : ∃ fr, (st false)[0]? = some fr := ⟨_, List.getElem?_eq_getElem (by omega)⟩
            obtain ⟨st', hst⟩ : ∃ st', upd st false ((st false).take 0 ++ (st false).drop (0 + 1)) = st' := ⟨_, rfl⟩
            clear hno
            have T1 : Calls Try.prog 10 #[.pointer (some ⟨g, 0, none⟩), .bool false, .int .i64 0] wr (TakesIs wr g F fr st') := take_is g st F wr HT.out.a false 0 fr st' hbs hst
            have T2 := Lib.hid (show ∀ W F1, Two w0 W g r st' st F1 G → Calls Try.prog 23 #[.pointer (some ⟨r, 0, none⟩), .bool false, .int .i64 0] W (R.TakesIs W r G fr st') from fun W F1 h => R.take_is r st G _ h.b false 0 fr st' hbs hst)
            have T1' := Lib.hid T1
            clear T1 hbs hst
            go_wp2_with (first
              | (go_at_call 10; refine T1'.out.mono ?_; rintro e w1 ⟨gb, cb, rfl, hF1, _, _, hgF, hp1⟩; obtain ⟨F1, hT1, hU1, _⟩ := HT.out.left hp1; replace hT1 := Lib.hid hT1; clear hp1)
              | (go_at_call 23; refine (T2.out _ _ hT1.out).mono ?_; rintro e w2 ⟨gb2, cb2, rfl, hF2, _, _, _, hp2⟩; obtain ⟨G2, hT2, hU2, _⟩ := hT1.out.right hp2; have v1 := Frm.conv (hF1.upto hU2 (HT.out.dis _ hgF)) rfl; have v2 := hF2.conv rfl; replace hT2 := Lib.hid hT2; clear hp2))
            go_roundw
            case rel => exact ⟨i + 1, st', F1, G2, by omega, by go_num, hT2.out⟩
            case measure => (simp [intOf] <;> omega)
    · obtain rfl : k = 2 := by omega
      go_wp2
      go_ret
      exact ⟨rfl, _, _, _, HT1.out⟩

theorem two_made (w : World) : Two w ((w.alloc (.cells #[.slice none 0 0, .slice none 0 0] 28)).alloc (.cells #[.slice none 0 0, .slice none 0 0] 46)) w.heap.size (w.heap.size + 1) (fun _ => []) (fun _ => []) (fun k => k = w.heap.size) (fun k => k = w.heap.size + 1) := by
  have h1 := link_made w
  have h2 := R.link_made (w.alloc (.cells #[.slice none 0 0, .slice none 0 0] 28))
  have e : (w.alloc (.cells #[.slice none 0 0, .slice none 0 0] 28)).heap.size = w.heap.size + 1 := by simp
  rw [e] at h2
  have U : Upto (fun _ => False) (w.alloc (.cells #[.slice none 0 0, .slice none 0 0] 28)) ((w.alloc (.cells #[.slice none 0 0, .slice none 0 0] 28)).alloc (.cells #[.slice none 0 0, .slice none 0 0] 46)) := (Upto.refl _ _).alloc _
  have U0 := ((Upto.refl (fun _ => False) w).alloc (.cells #[.slice none 0 0, .slice none 0 0] 28)).alloc (.cells #[.slice none 0 0, .slice none 0 0] 46)
  refine ⟨h1.keep U (fun _ _ h => h), h2, ⟨U0, fun k hk => ?_⟩, ⟨U0, fun k hk => ?_⟩, fun k hk hg => by omega⟩
  · subst hk; simp; omega
  · subst hk; simp
theorem quiet_same_ {P : Program} {f : FuncId} {args : Array Value} {w : World} {n : Nat} {v : Value} (h : Calls P f args (w.drewN n) (Same v (w.drewN n))) : Calls P f args (w.drewN n) fun e w'' => e = .returned v ∧ ∃ m, w'' = w.drewN m :=
  h.mono fun _ _ ⟨he, hm⟩ => ⟨he, n, hm.symm⟩
def PlayRel (w0 : World) (g r n : Nat) (u : Value) (wr : World) : Prop := ∃ (k : Nat) (st : St) (F G : Nat → Prop), k ≤ n ∧ u = .int .i64 k ∧ Two w0 wr g r st st F G

set_option maxRecDepth 100000 in
set_option maxHeartbeats 4000000 in
theorem plays_any (v : Value) (n : Nat) (op : Nat → OpIs) (w : World) (h : OpsArg w v n op) : Calls Try.prog 7 #[v] w (Ret (.bool true) w) := by
  have hO := Lib.hid h
  obtain ⟨A, c, rfl, hm, hl, hf⟩ := h
  have Hl := Lib.hid hl
  have Hf := Lib.hid hf
  clear hl hf
  have HO := Lib.hid (show ∀ w1, Below w.heap.size w w1 → OpsArg w1 (.slice A n c) n op from fun w1 hb => hO.out.below hb)
  go_enter Try.func7, Try.ntmps7
  go_wp2_with (first | (go_at_call 8; refine (awake_ok _).mono ?_; rintro e w1 ⟨rfl, hb⟩) | (go_at_call 12; refine (few_any _ n op _ (HO.out _ hb)).mono ?_; rintro e w2 ⟨b, rfl, rfl, hfew⟩; have Hfew := Lib.hid hfew; clear hfew; cases b))
  · go_ret
    exact ⟨by simp, hb⟩
  clear Hfew HO
  go_loopw [7] (fun u wr => PlayRel w1 w1.heap.size (w1.heap.size + 1) n u wr) (fun u _ => n - (intOf u).toNat)
  case atStart => exact ⟨0, _, _, _, Nat.zero_le _, rfl, two_made w1⟩
  case round =>
    obtain ⟨k, st, F, G, hk, rfl, hT⟩ := hrel
    have HT := Lib.hid hT
    clear hT
    by_cases hlt : k < n
    · obtain ⟨gl, o, rfl, hop⟩ := Hl.out (by omega)
      have h5 := hop k hlt
      have h6 := Hf.out k hlt
      have hbw := hb.trans (HT.out.sa.below.mono hb.size)
      replace h5 := h5.below hbw
      obtain ⟨x, hx⟩ : ∃ x, op k = x := ⟨_, rfl⟩
      rw [hx] at h5 h6
      obtain ⟨d, j, bit, up, sv, bs⟩ := x
      dsimp only at h6
      obtain ⟨c0, c1, c2, c3, c4⟩ := h5
      dsimp only at c0 c1 c2 c3 c4
      obtain ⟨hsv, hb8, hj, hbit⟩ := h6
      have HD := Lib.hid (does_any w1 wr _ _ st F G HT.out d j bit up sv bs (fun w3 h3 => hsv.bytes (hb.trans (h3.mono hb.size))) hj.2)
      obtain ⟨A', m, c', rfl, hbl, hm', hb'⟩ := hsv
      have hlt' : (k : Int) < n := by omega
      clear hop hb' hbl hb8 hbit hj hbw hx HT
      go_wp2_with (go_at_call 17; refine HD.out.mono ?_; rintro e w3 ⟨rfl, st2, F2, G2, hT2⟩; have HT2 := Lib.hid hT2; clear hT2)
      obtain ⟨vr, ur, gr, hPr⟩ := HT2.out.b
      obtain ⟨B0, b0, hv0⟩ := owns_form (hPr.owns true)
      obtain ⟨B1, b1, hv1⟩ := owns_form (hPr.owns false)
      have hgr := hPr.blk
      rw [hv0, hv1, hPr.len true, hPr.len false] at hgr
      have e0 := cell_of_row w3 _ 0 _ _ _ hgr
      have e1 := cell_of_row w3 _ 1 _ _ _ hgr
      have LT := fun mm => quiet_same_ (len_any w1.heap.size st2 F2 true (w3.drewN mm) (HT2.out.goes ((Upto.refl _ w3).drewN mm)).a)
      have LF := fun mm => quiet_same_ (len_any w1.heap.size st2 F2 false (w3.drewN mm) (HT2.out.goes ((Upto.refl _ w3).drewN mm)).a)
      obtain ⟨nt, hnt⟩ : ∃ nt, (st2 true).length = nt := ⟨_, rfl⟩
      obtain ⟨nf, hnf⟩ : ∃ nf, (st2 false).length = nf := ⟨_, rfl⟩
      rw [hnt] at e0 LT
      rw [hnf] at e1 LF
      have e0' : w3.cell? ⟨w1.heap.size + 1, 0, none⟩ = some (.slice B0 nt b0) := e0
      have e1' : w3.cell? ⟨w1.heap.size + 1, 1, none⟩ = some (.slice B1 nf b1) := e1
      have LT' := Lib.hid LT
      have LF' := Lib.hid LF
      clear hPr hv0 hv1 hgr e0 e1 hnt hnf LT LF
      go_quiet ((go_at_call 11; first | with_reducible exact LT'.out _ | with_reducible exact LF'.out _))
      go_wp2
      go_roundw
      case rel => exact ⟨k + 1, st2, F2, G2, by omega, by go_num, HT2.out.goes ((Upto.refl _ w3).drewN nq)⟩
      case measure => (simp [intOf] <;> omega)
    · obtain rfl : k = n := by omega
      have HD := Lib.hid (drains_any w1 wr _ _ st F G HT.out)
      go_wp2_with (go_at_call 18; refine HD.out.mono ?_; rintro e w3 ⟨rfl, st2, F2, G2, hT2⟩; have HT2 := Lib.hid hT2; clear hT2)
      go_ret
      exact ⟨by simp, hb.trans (HT2.out.sa.below.mono hb.size)⟩
end Go.Proofs.Ytomhnabgdbpoiaa
