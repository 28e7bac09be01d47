/- NotifTimes: it answers true. Condition: the calls can be read. -/
import Derived.Test.YtfknkkcpieaikaaLaw1
import Derived.Test.YtfknkkcpieaikaaTimes
namespace Go.Proofs.Ytfknkkcpieaikaa
open Go.RowKit
set_option linter.unusedVariables false
set_option linter.unusedSimpArgs false

/-- No block that stood before may turn. -/
abbrev F0 : Nat → Prop := fun _ => False
theorem TPost.left {b B : Nat} {P : Int → Nat} {L : List Ent} {T' : Tb} {r : Value} {w : World} {e : Ending} {w' : World} (h : TPost b B P L T' r w e w') : e = .returned r ∧ ∃ P', TabAt w' b B P' T' ∧ Upto (Own b B P L) w w' ∧ ∀ x ∈ T'.L, Own b B P L (P' x.id) ∨ w.heap.size ≤ P' x.id := h
/-- A script behind another one. -/
theorem play_on {w1 wr : World} {b B : Nat} {T : Tb} {ids : List Int} {ov lv : Value} {L : List Opn} (h : PlayIn F0 w1 b B (ids, T) ov wr) (hL : ∀ W, Upto F0 w1 W → OpsAt W lv L) :
    Calls Try.prog 10 #[.pointer (some ⟨b, 0, none⟩), lv] wr (fun e w' => ∃ A n c, e = .returned (.slice A n c) ∧ PlayIn F0 w1 b B (ids, (playL T (L.take 200)).2) ov w') := by
  obtain ⟨P, hT, hP⟩ := h
  refine (play_any (Own b B P T.L) b B P T lv L wr hT (fun k hk => .inl hk) (fun W hW => hL W (hP.low.trans hW hP.own))).mono ?_
  rintro e w' ⟨A, n, c, rfl, _, hin⟩
  exact ⟨A, n, c, rfl, hP.op hin.left⟩
/-- The table at the start. -/
theorem play_first {w1 w2 : World} {b B : Nat} {P : Int → Nat} {T : Tb} {lv : Value} {L : List Opn} (hT : TabAt w2 b B P T) (hown : ∀ k, Own b B P T.L k → w1.heap.size ≤ k) (hb : Below w1.heap.size w1 w2) (hL : ∀ W, Upto F0 w1 W → OpsAt W lv L) :
    Calls Try.prog 10 #[.pointer (some ⟨b, 0, none⟩), lv] w2 (fun e w' => ∃ A n c, e = .returned (.slice A n c) ∧ (playL T (L.take 200)).1.length = n ∧ PlayIn F0 w1 b B (playL T (L.take 200)) (.slice A n c) w') := by
  refine (play_any (Own b B P T.L) b B P T lv L w2 hT (fun k hk => .inl hk) (fun W hW => hL W ((below_upto hb).trans hW (fun k hk => .inr (hown k hk))))).mono ?_
  rintro e w' ⟨A, n, c, rfl, hn, hin⟩
  exact ⟨A, n, c, rfl, hn, hin.back (below_upto hb) (fun k hk => .inr (hown k hk))⟩
theorem upto0_low {w w1 w' : World} (h : Below w.heap.size w w1) (hu : Upto F0 w1 w') : Below w.heap.size w w' := h.trans (hu.toBelow h.size (fun _ h => h.elim))
theorem own_new {b B m : Nat} {P : Int → Nat} (h1 : m ≤ b) (h2 : m ≤ B) (k : Nat) (hk : Own b B P [] k) : m ≤ k := by
  rcases hk with hk | hk | ⟨x, hx, _⟩
  · rw [hk]; exact h1
  · rw [hk]; exact h2
  · simp at hx
theorem tick_on {w1 wr : World} {b B : Nat} {T : Tb} {ids : List Int} {ov : Value} (h : PlayIn F0 w1 b B (ids, T) ov wr) :
    Calls Try.prog 13 #[.pointer (some ⟨b, 0, none⟩)] wr (fun e w' => ∃ A n c, e = .returned (.slice A n c) ∧ PlayIn F0 w1 b B (ids, tickT T) ov w') := by
  obtain ⟨P, hT, hP⟩ := h
  refine (tick_any b B P T wr hT).mono ?_
  rintro e w' ⟨A6, n6, c6, rfl, _, _, _, hT6, hu6⟩
  exact ⟨A6, n6, c6, rfl, hP.op ⟨P, hT6, hu6, fun x hx => .inl (own_tick hx)⟩⟩
theorem get_on {w1 wr : World} {b B : Nat} {T : Tb} {ids : List Int} {ov : Value} {id : Int} (hU : U64 id) (h : PlayIn F0 w1 b B (ids, T) ov wr) :
    Calls Try.prog 11 #[.pointer (some ⟨b, 0, none⟩), .int .u64 id] wr (fun e w' => e = .returned (.tuple #[entV ((getL T.L id).getD Ent.nil), .bool (getL T.L id).isSome]) ∧ PlayIn F0 w1 b B (ids, T) ov w') := by
  obtain ⟨P, hT, hP⟩ := h
  refine (get_any b B P T id wr hU hT).mono ?_
  rintro e w' ⟨rfl, hb⟩
  exact ⟨rfl, P, hT.below hb, hP.below hb⟩
theorem PlayIn.alloc {S : Nat → Prop} {w wr : World} {b B : Nat} {s : List Int × Tb} {ov : Value} (h : PlayIn S w b B s ov wr) (o : Obj) : PlayIn S w b B s ov (wr.alloc o) := by
  obtain ⟨P, hT, hP⟩ := h
  exact ⟨P, hT.below (below_alloc _ _), hP.alloc hT o⟩
theorem PlayIn.below {S : Nat → Prop} {w wr w3 : World} {b B : Nat} {s : List Int × Tb} {ov : Value} (h : PlayIn S w b B s ov wr) (hb : Below wr.heap.size wr w3) : PlayIn S w b B s ov w3 := by
  obtain ⟨P, hT, hP⟩ := h
  exact ⟨P, hT.below hb, hP.below hb⟩
theorem PlayIn.fine {S : Nat → Prop} {w wr : World} {b B : Nat} {s : List Int × Tb} {ov : Value} (h : PlayIn S w b B s ov wr) : Fine s.2 := by
  obtain ⟨P, hT, hP⟩ := h
  exact hT.f
theorem PlayIn.low {S : Nat → Prop} {w wr : World} {b B : Nat} {s : List Int × Tb} {ov : Value} (h : PlayIn S w b B s ov wr) : Upto S w wr := by
  obtain ⟨P, hT, hP⟩ := h
  exact hP.low
theorem PlayIn.row {S : Nat → Prop} {w wr : World} {b B : Nat} {s : List Int × Tb} {ov : Value} (h : PlayIn S w b B s ov wr) : wr.ownsRow w.heap.size 23 1 ov s.1.length (s.1.map (Value.int .u64)) := by
  obtain ⟨P, hT, hP⟩ := h
  exact hP.row
/-- One call out of many. -/
theorem ops_one {w : World} {n c c' : Nat} {L : List Opn} {g o : Nat} (h : OpsAt w (.slice (some ⟨g, o, none⟩) n c) L) {i : Nat} {p : Opn} (hp : L[i]? = some p) : OpsAt w (.slice (some ⟨g, o + i * 5, none⟩) 1 c') [p] := by
  obtain ⟨A, c2, e, hl, hc⟩ := h
  injection e with e1 e2 e3
  obtain ⟨g', o', e4, hc⟩ := hc (by have := (List.getElem?_eq_some_iff.1 hp).1; omega)
  rw [e4] at e1
  injection e1 with e1
  injection e1 with e5 e6 e7
  subst e5 e6
  refine ⟨_, _, rfl, by simp, fun _ => ⟨g, o + i * 5, rfl, fun j q hq => ?_⟩⟩
  have hj : j = 0 := by have := (List.getElem?_eq_some_iff.1 hq).1; simp at this; omega
  subst hj
  cases hq
  simpa using hc i p hp
theorem play_one (T : Tb) (o : Opn) : (playL T ([o].take 200)).2 = (does1 T o).2 := by
  simp [playL]
set_option maxRecDepth 100000 in
set_option maxHeartbeats 8000000 in
theorem law_times (s t : Int) (lv mv : Value) (L M : List Opn) (w : World) (hL : OpsAt w lv L) (hM : OpsAt w mv M) (hcap : ∀ A n c, mv = .slice A n c → n ≤ c ∧ c ≤ 9223372036854775807) : Calls Try.prog 5 #[.agg #[.int .i64 s, .int .i64 t], lv, mv] w (Ret (.bool true) w) := by
  have A0 := awake_any (w.alloc (X2 s t))
  have k0 := new_cell w #[.int .i64 s, .int .i64 t] 22 0 rfl
  have k1 := new_cell w #[.int .i64 s, .int .i64 t] 22 1 rfl
  have hb0 := below_alloc w (X2 s t)
  cases hok : newOk s t with
  | false =>
    have N := fun W => new_bad s t 1 hok W
    clear hok hL hM
    go_enter Try.func5, Try.ntmps5
    go_wp2_with (first
      | (go_at_call 8; refine A0.mono ?_; rintro e_ w1 ⟨rfl, hb1⟩; have d0 := keep_cell hb1 k0; have d1 := keep_cell hb1 k1)
      | (go_at_call 9; refine (N _).mono ?_; rintro e_ w2 ⟨rfl, rfl⟩))
    go_ret
    exact ⟨rfl, Below.trans hb0 (hb1.mono hb0.size)⟩
  | true =>
    have N := fun W => new_ok s t 1 hok (by omega) (by omega) W
    have ht : 1 ≤ t := by simp [newOk] at hok; omega
    have HLw := Lib.hid hL
    have HMw := Lib.hid hM
    obtain ⟨Am, cm, rfl, hmlen, hM9⟩ := hM
    obtain ⟨hc1, hc2⟩ := hcap _ _ _ rfl
    clear hM9 hcap
    obtain ⟨m, hm⟩ : ∃ m, M.length = m := ⟨_, rfl⟩
    rw [hm] at hmlen HMw hc1 ⊢
    have Hm := Lib.hid hm
    clear hok hL hm
    by_cases h60 : 60 < t
    · go_enter Try.func5, Try.ntmps5
      go_wp2_with (first
        | (go_at_call 8; refine A0.mono ?_; rintro e_ w1 ⟨rfl, hb1⟩; have d0 := keep_cell hb1 k0; have d1 := keep_cell hb1 k1)
        | (go_at_call 9; refine (N _).mono ?_; rintro e_ w2 ⟨b, B, rfl, hbb, hBB, hT2, hb2⟩; have f0 := keep_cell hb2 d0; have f1 := keep_cell hb2 d1))
      go_ret
      exact ⟨rfl, (Below.trans hb0 (hb1.mono hb0.size)).trans (hb2.mono (Nat.le_trans hb0.size hb1.size))⟩
    have h60' : t ≤ 60 := by omega
    obtain ⟨tn, rfl⟩ : ∃ tn : Nat, t = tn := ⟨t.toNat, by omega⟩
    clear h60
    go_enter Try.func5, Try.ntmps5
    go_wp2_with (first
      | (go_at_call 8; refine A0.mono ?_; rintro e_ w1 ⟨rfl, hb1⟩; have d0 := keep_cell hb1 k0; have d1 := keep_cell hb1 k1)
      | (go_at_call 9; refine (N _).mono ?_; rintro e_ w2 ⟨b, B, rfl, hbb, hBB, hT2, hb2⟩; have f0 := keep_cell hb2 d0; have f1 := keep_cell hb2 d1; have hlow : Below w.heap.size w w1 := (Below.trans hb0 (hb1.mono hb0.size)); have PL := play_first (lv := lv) (L := L) (hT2 (fun _ => 0)) (own_new hbb hBB) hb2 (fun W hW => ops_low HLw.out (upto0_low hlow hW)))
      | (go_at_call 10; refine PL.mono ?_; rintro e_ w3 ⟨A, n, c, rfl, hn, hIn⟩))
    have hids := play_ids ⟨s, tn, 1, 0, []⟩ L 200
    have hwait := play_wait ⟨s, tn, 1, 0, []⟩ L 200
    have hlen := play_len ⟨s, tn, 1, 0, []⟩ L 200
    obtain ⟨⟨ids, T1⟩, hpl⟩ : ∃ s', playL ⟨s, tn, 1, 0, []⟩ (L.take 200) = s' := ⟨_, rfl⟩
    rw [hpl] at hn hIn hids hwait hlen
    simp only at hn hids hwait hlen
    rw [hn] at hlen
    have hbd : 1 + (n : Int) < 18446744073709551616 := by
      have h1 := hIn.fine.n2
      have h2 : T1.next = 1 + (ids.length : Int) := hids.1
      simp only at h1
      rw [h2, hn] at h1
      exact h1
    have hB1 : Bound ((tn : Int) - (0 : Nat)) T1 := fun x hx hw => by
      have := (hIn.fine.wait x hx hw).2
      rw [hwait] at this
      simpa using this
    have HIn := Lib.hid hIn
    have HB1 := Lib.hid hB1
    have HID := Lib.hid hids.2
    have Hn := Lib.hid hn
    have HLow := Lib.hid hlow
    have HMat : Hid (∀ W, Upto F0 w1 W → OpsAt W (.slice Am m cm) M) := Lib.hid (fun W hW => ops_low HMw.out (upto0_low hlow hW))
    clear hids hwait hIn hB1 hn hpl PL hlow hT2 hb2 N A0 k0 k1 d0 f0 f1 HLw HMw
    go_loopw [11, 12] (fun kv iv wr => ∃ i k : Nat, i ≤ tn ∧ k ≤ 200 + i ∧ kv = .int .i64 k ∧ iv = .int .i64 i ∧ ∃ T', PlayIn F0 w1 b B (ids, T') (.slice A n c) wr ∧ Bound ((tn : Int) - (i : Nat)) T') (fun _ iv _ => tn - (intOf iv).toNat)
    case atStart => exact ⟨0, 0, by omega, by omega, rfl, rfl, T1, HIn.out, HB1.out⟩
    case round =>
      obtain ⟨i, k, hi, hk, rfl, rfl, T2, hIn2, hB2⟩ := hrel
      have e1 := hIn2.low.cell (fun h => h.elim) d1
      by_cases hlt : i < tn
      · have hlt' : (i : Int) < tn := by omega
        have HIn2 := Lib.hid hIn2
        have HB2 := Lib.hid hB2
        clear hIn2 hB2 HB1 HIn
        go_wp2
        go_loopw [11] (fun kv wr2 => ∃ k2 : Nat, k2 ≤ 200 + i ∧ kv = .int .i64 k2 ∧ ∃ T', PlayIn F0 w1 b B (ids, T') (.slice A n c) wr2 ∧ Bound ((tn : Int) - (i : Nat)) T') (fun kv _ => 300 - (intOf kv).toNat)
        case atStart => exact ⟨k, by omega, rfl, T2, HIn2.out, HB2.out⟩
        case round =>
          obtain ⟨k2, hk2, rfl, T3, hInk, hBk⟩ := hrel
          have HBk := Lib.hid hBk
          clear hBk HIn2 HB2 e1
          by_cases c1 : k2 < m
          case neg =>
            have c1' : (m : Int) ≤ k2 := by omega
            have c1n : m ≤ k2 := by omega
            have HK := Lib.hid (tick_on hInk)
            clear hInk
            go_wp2_with (go_at_call 13; (with_reducible refine HK.out.mono ?_); rintro e_ w5 ⟨A5, n5, c5, rfl, hIn5⟩)
            have H5 := Lib.hid hIn5
            clear hIn5
            go_roundw
            case rel => exact ⟨i + 1, k2 + 1, by omega, by omega, by go_num, by go_num, _, H5.out, (HBk.out.tick).mono (by omega)⟩
            case measure => (simp [intOf] <;> omega)
          have c1' : (k2 : Int) < m := by omega
          by_cases c2 : k2 < 200
          case neg =>
            have c2E : ((k2 : Int) < 200) = False := by simp; omega
            clear c1 c2
            have HK := Lib.hid (tick_on hInk)
            clear hInk
            go_wp2_with (go_at_call 13; (with_reducible refine HK.out.mono ?_); rintro e_ w5 ⟨A5, n5, c5, rfl, hIn5⟩)
            have H5 := Lib.hid hIn5
            clear hIn5
            go_roundw
            case rel => exact ⟨i + 1, k2 + 1, by omega, by omega, by go_num, by go_num, _, H5.out, (HBk.out.tick).mono (by omega)⟩
            case measure => (simp [intOf] <;> omega)
          have c2' : (k2 : Int) < 200 := by omega
          obtain ⟨p, hp⟩ : ∃ p, M[k2]? = some p := ⟨_, List.getElem?_eq_getElem (by rw [Hm.out]; exact c1)⟩
          have HMwr := HMat.out _ hInk.low
          obtain ⟨A1, cm1, eA, _, hcl⟩ := id HMwr
          rw [Hm.out] at eA hcl
          injection eA with eA _ eC
          subst eA eC
          obtain ⟨gl, ol, rfl, hcl2⟩ := hcl (by omega)
          obtain ⟨q0, _⟩ := hcl2 k2 p hp
          have HONE : Hid (∀ W c', Upto F0 w1 W → OpsAt W (.slice (some ⟨gl, ol + k2 * 5, none⟩) 1 c') [p]) := Lib.hid (fun W c' hW => ops_one (HMat.out W hW) hp)
          have HF := Lib.hid hInk.fine
          clear hcl hcl2 hp HMwr
          by_cases c3 : p.d = 6
          · rw [c3] at q0
            have HK := Lib.hid (tick_on hInk)
            clear hInk
            go_wp2_with (go_at_call 13; (with_reducible refine HK.out.mono ?_); rintro e_ w5 ⟨A5, n5, c5, rfl, hIn5⟩)
            have H5 := Lib.hid hIn5
            clear hIn5
            go_roundw
            case rel => exact ⟨i + 1, k2 + 1, by omega, by omega, by go_num, by go_num, _, H5.out, (HBk.out.tick).mono (by omega)⟩
            case measure => (simp [intOf] <;> omega)
          have c3E : (p.d == 6) = false := by simpa using c3
          obtain ⟨pd, hpd⟩ : ∃ pd, p.d = pd := ⟨_, rfl⟩
          rw [hpd] at q0 c3E c3
          have c3b : (pd != 6) = true := by simpa using c3
          have c3f : (pd = 6) = False := eq_false c3
          by_cases c4 : 1 < pd
          · have HPD := Lib.hid (show 1 < p.d by rw [hpd]; exact c4)
            clear hpd
            have c4E : (1 < pd) = True := eq_true c4
            have hs1 : (k2 : Int) + 1 ≤ cm := by omega
            have hs2 : (k2 : Int) ≤ (k2 : Int) + 1 := by omega
            have hs3 : (0 : Int) ≤ (k2 : Int) := by omega
            have HPl := Lib.hid (fun (c' : Nat) => play_on hInk (fun W hW => HONE.out W c' hW))
            clear hInk
            go_wp2_with (go_at_call 10; (with_reducible refine (HPl.out _).mono ?_); rintro e_ w4 ⟨A4, n4, c4, rfl, hIn4⟩)
            have H4 := Lib.hid hIn4
            clear hIn4
            go_roundw
            case rel => exact ⟨k2 + 1, by omega, by go_num, _, H4.out, by rw [play_one]; exact HBk.out.does HF.out _ HPD.out⟩
            case measure => (simp [intOf] <;> omega)
          · have c4E : (1 < pd) = False := eq_false c4
            clear c4 hpd
            have H4 := Lib.hid hInk
            clear hInk
            go_wp2
            go_roundw
            case rel => exact ⟨k2 + 1, by omega, by go_num, _, H4.out, HBk.out⟩
            case measure => (simp [intOf] <;> omega)
      · obtain rfl : tn = i := by omega
        have hz := (show Bound 0 T2 by simpa using hB2).zero hIn2.fine
        have HZ := Lib.hid hz
        have HIn2 := Lib.hid hIn2
        clear hIn2 hB2 hz HB1 HIn
        go_wp2
        clear e1
        go_loopw [13, 14, 15] (fun iv _ _ wr2 => ∃ j : Nat, j ≤ n ∧ iv = .int .i64 j ∧ PlayIn F0 w1 b B (ids, T2) (.slice A n c) wr2) (fun iv _ _ _ => n - (intOf iv).toNat)
        case atStart => exact ⟨0, Nat.zero_le _, rfl, HIn2.out⟩
        case round =>
          obtain ⟨j, hj, rfl, hIn3⟩ := hrel
          clear HIn2
          by_cases hlt : j < n
          · have hlt' : (j : Int) < n := by omega
            have hrow := hIn3.row
            simp only [Hn.out] at hrow
            obtain ⟨g, o, rfl, hcl⟩ := (nums_own hrow Hn.out).at' (by omega)
            obtain ⟨x, hx⟩ : ∃ x, ids[j]? = some x := ⟨_, List.getElem?_eq_getElem (by rw [Hn.out]; exact hlt)⟩
            have cx := hcl j x hx
            obtain ⟨hx1, hx2⟩ := HID.out j x hx
            have hx1' : x = 1 + j := hx1
            have HG := Lib.hid (get_on (U64.of (x := x) (by omega) (by omega)) hIn3)
            have hzz := fun y (hy : getL T2.L x = some y) => HZ.out y (getL_mem hy).1
            clear hcl hx hx1 hx2 hx1' hIn3 hrow
            cases hget : getL T2.L x with
            | none =>
              rw [hget] at HG
              simp only [Option.getD_none, Option.isSome_none, entV, Ent.cells, Ent.nil] at HG
              clear hzz
              go_wp2_with (go_at_call 11; (with_reducible refine HG.out.mono ?_); rintro e_ w4 ⟨rfl, hIn4⟩; have HIn4 := Lib.hid hIn4; clear hIn4)
              go_roundw
              case rel => exact ⟨j + 1, by omega, by go_num, HIn4.out.alloc _⟩
              case measure => (simp [intOf] <;> omega)
            | some y =>
              rw [hget] at HG
              obtain ⟨y1, y2⟩ := hzz y hget
              obtain ⟨id, task, st, left, kind, val⟩ := y
              simp only [Option.getD_some, Option.isSome_some, entV, Ent.cells] at HG
              clear hzz hget
              have s1 : (st == 1) = false := by simp [Ent.waits] at y1; simpa using y1.1
              have s2 : (st == 2) = false := by simp [Ent.waits] at y1; simpa using y1.2
              have s3 : (kind == 0) = false := by simpa using y2
              clear y1 y2
              go_wp2_with (go_at_call 11; (with_reducible refine HG.out.mono ?_); rintro e_ w4 ⟨rfl, hIn4⟩; have HIn4 := Lib.hid hIn4; clear hIn4)
              go_roundw
              case rel => exact ⟨j + 1, by omega, by go_num, HIn4.out.alloc _⟩
              case measure => (simp [intOf] <;> omega)
          · obtain rfl : j = n := by omega
            have HE := Lib.hid (upto0_low HLow.out hIn3.low)
            clear hIn3
            go_wp2
            go_ret
            exact ⟨rfl, HE.out⟩
end Go.Proofs.Ytfknkkcpieaikaa
