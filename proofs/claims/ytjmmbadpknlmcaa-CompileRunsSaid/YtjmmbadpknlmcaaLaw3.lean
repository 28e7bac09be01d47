/- CompileRuns: whatever the rules and the calls, the law returns true. Conditions: the arguments can be read; their numbers are of their kinds. -/
import Derived.Test.YtjmmbadpknlmcaaUse
import Derived.Test.YtjmmbadpknlmcaaOpen
import Derived.BigQuiet
import Derived.Deep.RegionHeld3
import Derived.Deep.RegionLaw
namespace Go.Proofs.Ytjmmbadpknlmcaa
open Go.RowKit
set_option linter.unusedVariables false
set_option linter.unusedSimpArgs false
set_option maxRecDepth 100000

/-- The numbers of the acts, as the law lays them. -/
def numR : Array Value := #[.int .u32 0, .int .u32 2147483648, .int .u32 0, .int .u32 196608, .int .u32 327680, .int .u32 2143289344, .int .u32 2146435072, .int .u32 2147221504, .int .u32 2147418112]
theorem numR_at (k : Int) (h1 : 1 ≤ k) (h8 : k ≤ 8) : numR[k.toNat]? = some (.int .u32 (numV k)) := by
  have : k = 1 ∨ k = 2 ∨ k = 3 ∨ k = 4 ∨ k = 5 ∨ k = 6 ∨ k = 7 ∨ k = 8 := by omega
  rcases this with rfl | rfl | rfl | rfl | rfl | rfl | rfl | rfl <;> rfl
theorem val_sum (k a : Int) (h : actB k a = true) : valV k a = numV k + a ∧ 1 ≤ k ∧ k ≤ 8 ∧ 0 ≤ a ∧ a ≤ 65535 ∧ 0 ≤ numV k ∧ numV k + a < 4294967296 := by
  have h' := h
  unfold actB at h'
  simp only [Bool.and_eq_true, decide_eq_true_eq] at h'
  obtain ⟨⟨h1, h2, h3, h4⟩, _⟩ := h'
  have hk : ∃ q : Nat, numV k = ((q * 65536 : Nat) : Int) ∧ q < 65536 := by
    have : k = 1 ∨ k = 2 ∨ k = 3 ∨ k = 4 ∨ k = 5 ∨ k = 6 ∨ k = 7 ∨ k = 8 := by omega
    rcases this with rfl | rfl | rfl | rfl | rfl | rfl | rfl | rfl
    · exact ⟨32768, by decide, by decide⟩
    · exact ⟨0, by decide, by decide⟩
    · exact ⟨3, by decide, by decide⟩
    · exact ⟨5, by decide, by decide⟩
    · exact ⟨32704, by decide, by decide⟩
    · exact ⟨32752, by decide, by decide⟩
    · exact ⟨32764, by decide, by decide⟩
    · exact ⟨32767, by decide, by decide⟩
  obtain ⟨q, hq, hq2⟩ := hk
  refine ⟨?_, h1, h2, h3, h4, by omega, by omega⟩
  unfold valV
  rw [if_pos h, u32_or _ _ (by omega) (by omega) (by omega) (by omega), hq, Int.toNat_natCast]
  obtain ⟨b, rfl⟩ : ∃ b : Nat, a = b := ⟨a.toNat, by omega⟩
  rw [Int.toNat_natCast]
  have e := Nat.two_pow_add_eq_or_of_lt (i := 16) (b := b) (by omega) q
  have e2 : 2 ^ 16 * q = q * 65536 := by omega
  rw [e2] at e
  rw [← e]
  omega
set_option maxHeartbeats 4000000 in
theorem value14_any (k a : Int) (h : actB k a = true) (w : World) : Calls Try.prog 17 #[.agg #[.int .i64 k, .int .i64 a]] w (Ret (.int .u32 (valV k a)) w) := by
  obtain ⟨hv, h1, h2, h3, h4, h5, h6⟩ := val_sum k a h
  have hn := numR_at k h1 h2
  rw [hv]
  obtain ⟨z, hz⟩ : ∃ z, numV k = z := ⟨_, rfl⟩
  rw [hz] at hn h5 h6 ⊢
  have r0 := new_cell w #[.int .i64 k, .int .i64 a] 23 0 rfl
  have r1 := new_cell w #[.int .i64 k, .int .i64 a] 23 1 rfl
  have b1 := below_alloc w (.cells #[.int .i64 k, .int .i64 a] 23)
  have b2 := below_alloc (w.alloc (.cells #[.int .i64 k, .int .i64 a] 23)) (.cells numR 45)
  have hs : (w.alloc (.cells #[.int .i64 k, .int .i64 a] 23)).heap.size = w.heap.size + 1 := by simp
  have q0 := keep_cell b2 r0
  have q1 := keep_cell b2 r1
  have qk := new_cell (w.alloc (.cells #[.int .i64 k, .int .i64 a] 23)) numR 45 k.toNat hn
  rw [hs] at qk
  obtain ⟨i, rfl⟩ : ∃ i : Nat, k = i := ⟨k.toNat, by omega⟩
  rw [Int.toNat_natCast] at qk
  have BB := Lib.hid (b1.trans (b2.mono b1.size))
  obtain ⟨W, hW⟩ : ∃ W, (w.alloc (.cells #[.int .i64 (i : Int), .int .i64 a] 23)).alloc (.cells numR 45) = W := ⟨_, rfl⟩
  rw [hW] at q0 q1 qk BB
  have y0 : ∀ n, (W.drewN n).cell? ⟨w.heap.size, 0, none⟩ = some (.int .i64 i) := fun n => q0
  have y1 : ∀ n, (W.drewN n).cell? ⟨w.heap.size, 1, none⟩ = some (.int .i64 a) := fun n => q1
  have yk : ∀ n, (W.drewN n).cell? ⟨w.heap.size + 1, i, none⟩ = some (.int .u32 z) := fun n => qk
  have hi9 : (i : Int) < 9 := by omega
  have hi0 : ((i : Int) < 0) = False := eq_false (by omega)
  have hi8 : ((8 : Int) < i) = False := eq_false (by omega)
  have hwa : IntKind.u32.wrap a = a := by rw [IntKind.wrap_u32]; omega
  have hwz : IntKind.u32.wrap (z + a) = z + a := by rw [IntKind.wrap_u32]; omega
  unfold numR at hW
  clear h hv hn b1 b2 hs
  go_enter Try.func17, Try.ntmps17
  go_wp2
  go_quiet (fail)
  go_wp2
  go_ret
  exact ⟨rfl, below_drewR BB.out _⟩

theorem decL_is (d : Dat) (k a : Int) : ∀ L, decL d.nr d.x0 d.x1 d.x2 d.x3 d.x4 d.x5 k a L = decD d k a L
  | [] => rfl
  | r :: L => by
    show (if meetsB d.nr d.x0 d.x1 d.x2 d.x3 d.x4 d.x5 r then (r.k, r.a) else decL d.nr d.x0 d.x1 d.x2 d.x3 d.x4 d.x5 k a L) = (if meetsD d r then (r.k, r.a) else decD d k a L)
    rw [decL_is d k a L]
    rfl
theorem dec_act (d : Dat) (k a : Int) (hk : actB k a = true) : ∀ L : List Rul, (∀ r ∈ L, actB r.k r.a = true) → actB (decD d k a L).1 (decD d k a L).2 = true
  | [], _ => hk
  | r :: L, h => by
    show actB (if meetsD d r then (r.k, r.a) else decD d k a L).1 (if meetsD d r then (r.k, r.a) else decD d k a L).2 = true
    split
    · exact h r (List.mem_cons_self ..)
    · exact dec_act d k a hk L (fun x hx => h x (List.mem_cons_of_mem _ hx))
/-- What is decided, and what the program answers. -/
theorem dec_ans {k a : Int} {L : List Rul} (hf : (checkV k a L).1 = 0) (hw : WfL L) (d : Dat) : ∃ p1 p2, decV d.nr d.ar d.x0 d.x1 d.x2 d.x3 d.x4 d.x5 k a L = ((p1, p2), 0) ∧ actB p1 p2 = true ∧ ansD d k a L = valV p1 p2 := by
  obtain ⟨hk, hr⟩ := fit_of hf hw
  unfold decV ansD
  rw [if_pos hf]
  by_cases har : d.ar = 3221225534
  · rw [if_pos har, if_pos har, decL_is]
    exact ⟨_, _, rfl, dec_act d k a hk L (fun r hm => (hr r hm).1), rfl⟩
  · rw [if_neg har, if_neg har]
    exact ⟨1, 0, rfl, rfl, rfl⟩
set_option maxHeartbeats 8000000 in
theorem law_runs (k a : Int) (lv dv : Value) (L : List Rul) (ds : List Dat) (w : World) (hL : RulsAt w lv L) (hw : WfL L) (hD : ListAt 9 DatQ w dv ds) (hdw : ∀ d ∈ ds, WfD d) : Calls Try.prog 7 #[.agg #[.int .i64 k, .int .i64 a, lv], dv] w (Ret (.bool true) w) := by
  obtain ⟨A0, c0, rfl⟩ := hL.form
  obtain ⟨AD, cD, rfl⟩ := hD.form
  have HL := Lib.hid (fun W (hb : Below w.heap.size w W) => ruls_below hb hL)
  have LT := Lib.hid (fun W hb => light_any k a _ L W (HL.out W hb))
  have AW := Lib.hid (fun W => awake_any W)
  have r0 := new_cell w #[.int .i64 k, .int .i64 a, .slice A0 L.length c0] 26 0 rfl
  have r1 := new_cell w #[.int .i64 k, .int .i64 a, .slice A0 L.length c0] 26 1 rfl
  have r2 := new_cell w #[.int .i64 k, .int .i64 a, .slice A0 L.length c0] 26 2 rfl
  have hb0 := below_alloc w (.cells #[.int .i64 k, .int .i64 a, .slice A0 L.length c0] 26)
  obtain ⟨n, hn⟩ : ∃ n, L.length = n := ⟨_, rfl⟩
  obtain ⟨m, hm⟩ : ∃ m, ds.length = m := ⟨_, rfl⟩
  have HD := Lib.hid hD
  have HDw := Lib.hid hdw
  have Hm := Lib.hid hm
  rw [hn] at HL LT r0 r1 r2 hb0 ⊢
  rw [hm] at HD ⊢
  obtain ⟨W0, hW0⟩ : ∃ W, w.alloc (.cells #[.int .i64 k, .int .i64 a, .slice A0 n c0] 26) = W := ⟨_, rfl⟩
  rw [hW0] at hb0 r0 r1 r2
  have HB0 := Lib.hid hb0
  obtain ⟨y, hy⟩ : ∃ y, lightB L = y := ⟨_, rfl⟩
  rw [hy] at LT
  have AA : ∀ W, Below W0.heap.size W0 W → Below w.heap.size w W := fun W hb => HB0.out.trans (hb.mono HB0.out.size)
  have HAA := Lib.hid AA
  cases y with
  | false =>
    clear hn hb0 hy AA hD hdw hm
    go_enter Try.func7, Try.ntmps7
    go_wp2_with (first
      | (go_at_call 8; (with_reducible refine (AW.out _).mono ?_); rintro e_ w1 ⟨rfl, hb1⟩; have s0 := keep_cell hb1 r0; have s1 := keep_cell hb1 r1; have s2 := keep_cell hb1 r2; have B1 := Lib.hid hb1; clear hb1)
      | (go_at_call 9; (with_reducible refine (LT.out _ (HAA.out _ B1.out)).mono ?_); rintro e_ w2 ⟨rfl, hb2⟩; have t0 := keep_cell hb2 s0; have t1 := keep_cell hb2 s1; have t2 := keep_cell hb2 s2; have B2 := Lib.hid (B1.out.trans (hb2.mono B1.out.size)); clear hb2))
    go_ret
    exact ⟨rfl, HAA.out _ B2.out⟩
  | true =>
    by_cases h50 : m ≤ 50
    case neg =>
      have hE : (50 : Int) < m := by omega
      clear hn hb0 hy AA hD hdw hm
      go_enter Try.func7, Try.ntmps7
      go_wp2_with (first
        | (go_at_call 8; (with_reducible refine (AW.out _).mono ?_); rintro e_ w1 ⟨rfl, hb1⟩; have s0 := keep_cell hb1 r0; have s1 := keep_cell hb1 r1; have s2 := keep_cell hb1 r2; have B1 := Lib.hid hb1; clear hb1)
        | (go_at_call 9; (with_reducible refine (LT.out _ (HAA.out _ B1.out)).mono ?_); rintro e_ w2 ⟨rfl, hb2⟩; have t0 := keep_cell hb2 s0; have t1 := keep_cell hb2 s1; have t2 := keep_cell hb2 s2; have B2 := Lib.hid (B1.out.trans (hb2.mono B1.out.size)); clear hb2))
      go_ret
      exact ⟨rfl, HAA.out _ B2.out⟩
    have hE : decide ((50 : Int) < m) = false := by simp; omega
    obtain ⟨f1, hf1⟩ : ∃ f, (checkV k a L).1 = f := ⟨_, rfl⟩
    by_cases h0 : f1 = 0
    case neg =>
      have CP := Lib.hid (fun W hb => compile_err (HL.out W hb) hy hw hf1 h0)
      have hfE : (f1 == 0) = false := by simpa using h0
      clear hn hb0 hy AA hf1 hD hdw hm
      go_enter Try.func7, Try.ntmps7
      go_wp2_with (first
        | (go_at_call 8; (with_reducible refine (AW.out _).mono ?_); rintro e_ w1 ⟨rfl, hb1⟩; have s0 := keep_cell hb1 r0; have s1 := keep_cell hb1 r1; have s2 := keep_cell hb1 r2; have B1 := Lib.hid hb1; clear hb1)
        | (go_at_call 9; (with_reducible refine (LT.out _ (HAA.out _ B1.out)).mono ?_); rintro e_ w2 ⟨rfl, hb2⟩; have t0 := keep_cell hb2 s0; have t1 := keep_cell hb2 s1; have t2 := keep_cell hb2 s2; have B2 := Lib.hid (B1.out.trans (hb2.mono B1.out.size)); clear hb2)
        | (go_at_call 10; (with_reducible refine (CP.out _ (HAA.out _ B2.out)).mono ?_); rintro e_ w3 ⟨rfl, hb3⟩; have B3 := Lib.hid (B2.out.trans (hb3.mono B2.out.size)); clear hb3))
      go_ret
      exact ⟨rfl, HAA.out _ B3.out⟩
    subst h0
    obtain ⟨q, hq⟩ : ∃ q, (compL k a L).length = q := ⟨_, rfl⟩
    by_cases hlong : q ≤ 4096
    case neg =>
      have CP := Lib.hid (fun W hb => compile_long (k := k) (a := a) (HL.out W hb) hy hw hf1 (by omega))
      clear hn hb0 hy AA hf1 hD hdw hm hq
      go_enter Try.func7, Try.ntmps7
      go_wp2_with (first
        | (go_at_call 8; (with_reducible refine (AW.out _).mono ?_); rintro e_ w1 ⟨rfl, hb1⟩; have s0 := keep_cell hb1 r0; have s1 := keep_cell hb1 r1; have s2 := keep_cell hb1 r2; have B1 := Lib.hid hb1; clear hb1)
        | (go_at_call 9; (with_reducible refine (LT.out _ (HAA.out _ B1.out)).mono ?_); rintro e_ w2 ⟨rfl, hb2⟩; have t0 := keep_cell hb2 s0; have t1 := keep_cell hb2 s1; have t2 := keep_cell hb2 s2; have B2 := Lib.hid (B1.out.trans (hb2.mono B1.out.size)); clear hb2)
        | (go_at_call 10; (with_reducible refine (CP.out _ (HAA.out _ B2.out)).mono ?_); rintro e_ w3 ⟨rfl, hb3⟩; have B3 := Lib.hid (B2.out.trans (hb3.mono B2.out.size)); clear hb3))
      go_ret
      exact ⟨rfl, HAA.out _ B3.out⟩
    have CP := Lib.hid (fun W hb => compile_ok (HL.out W hb) hy hw hf1 hq hlong)
    have RU : Hid (∀ d : Dat, WfD d → ∃ t : Nat, ∀ (v : Value) (w : World), InsRd w v (compL k a L) → Calls Try.prog 15 #[v, .agg d.arr] w (Ret (.tuple #[.int .u32 (ansD d k a L), .int .i64 t, .int .i64 0]) w)) := Lib.hid (fun d hd => by
      obtain ⟨t, _, h⟩ := run_comp hf1 hw (by omega) hd
      exact ⟨t, h⟩)
    have DA := Lib.hid (fun d => dec_ans hf1 hw d)
    have DC := Lib.hid (fun (d : Dat) W hb => decide_any k a d.nr d.ar d.ip d.x0 d.x1 d.x2 d.x3 d.x4 d.x5 _ L W (HL.out W hb))
    clear hn hb0 hy AA hf1 hD hdw hm hq
    go_enter Try.func7, Try.ntmps7
    go_wp2_with (first
      | (go_at_call 8; (with_reducible refine (AW.out _).mono ?_); rintro e_ w1 ⟨rfl, hb1⟩; have s0 := keep_cell hb1 r0; have s1 := keep_cell hb1 r1; have s2 := keep_cell hb1 r2; have B1 := Lib.hid hb1; clear hb1)
      | (go_at_call 9; (with_reducible refine (LT.out _ (HAA.out _ B1.out)).mono ?_); rintro e_ w2 ⟨rfl, hb2⟩; have t0 := keep_cell hb2 s0; have t1 := keep_cell hb2 s1; have t2 := keep_cell hb2 s2; have B2 := Lib.hid (B1.out.trans (hb2.mono B1.out.size)); clear hb2)
      | (go_at_call 10; (with_reducible refine (CP.out _ (HAA.out _ B2.out)).mono ?_); rintro e_ w3 ⟨A3, c3, rfl, hr3, hb3⟩; have u0 := keep_cell hb3 t0; have u1 := keep_cell hb3 t1; have u2 := keep_cell hb3 t2; have Hr3 := Lib.hid hr3; have B3 := Lib.hid (B2.out.trans (hb3.mono B2.out.size)); clear hb3 hr3))
    go_loopw [9] (fun iv wr => ∃ j : Nat, j ≤ m ∧ iv = .int .i64 j ∧ Below w3.heap.size w3 wr) (fun iv _ => m - (intOf iv).toNat)
    case atStart => exact ⟨0, by omega, rfl, Below.refl _ _⟩
    case round =>
      obtain ⟨j, hj, rfl, hb⟩ := hrel
      have BWr : Below w.heap.size w wr := HAA.out _ (B3.out.trans (hb.mono B3.out.size))
      have HBW := Lib.hid BWr
      by_cases hjm : j < m
      case neg =>
        obtain rfl : j = m := by omega
        go_wp2
        go_ret
        exact ⟨rfl, HBW.out⟩
      obtain ⟨d, hd⟩ : ∃ d, ds[j]? = some d := ⟨_, List.getElem?_eq_getElem (by rw [Hm.out]; omega)⟩
      obtain ⟨A', c', e, _, hcl⟩ := HD.out
      injection e with e1 e2 e3
      clear e2
      subst e1
      obtain ⟨g, o, rfl, hcc⟩ := hcl (by rw [Hm.out]; omega)
      have dq := hcc j d hd
      have q0 : wr.cell? ⟨g, o + j * 9, none⟩ = some (.int .u32 d.nr) := keep_cell BWr (dq 0 _ rfl)
      have q1 : wr.cell? ⟨g, o + j * 9 + 1, none⟩ = some (.int .u32 d.ar) := keep_cell BWr (dq 1 _ rfl)
      have q2 : wr.cell? ⟨g, o + j * 9 + 2, none⟩ = some (.int .u64 d.ip) := keep_cell BWr (dq 2 _ rfl)
      have q3 : wr.cell? ⟨g, o + j * 9 + 3, none⟩ = some (.int .u64 d.x0) := keep_cell BWr (dq 3 _ rfl)
      have q4 : wr.cell? ⟨g, o + j * 9 + 4, none⟩ = some (.int .u64 d.x1) := keep_cell BWr (dq 4 _ rfl)
      have q5 : wr.cell? ⟨g, o + j * 9 + 5, none⟩ = some (.int .u64 d.x2) := keep_cell BWr (dq 5 _ rfl)
      have q6 : wr.cell? ⟨g, o + j * 9 + 6, none⟩ = some (.int .u64 d.x3) := keep_cell BWr (dq 6 _ rfl)
      have q7 : wr.cell? ⟨g, o + j * 9 + 7, none⟩ = some (.int .u64 d.x4) := keep_cell BWr (dq 7 _ rfl)
      have q8 : wr.cell? ⟨g, o + j * 9 + 8, none⟩ = some (.int .u64 d.x5) := keep_cell BWr (dq 8 _ rfl)
      have v0 := keep_cell hb u0
      have v1 := keep_cell hb u1
      have v2 := keep_cell hb u2
      have hjm' : (j : Int) < m := by omega
      obtain ⟨tt, hR⟩ := RU.out d (HDw.out d (List.mem_of_getElem? hd))
      have RC := Lib.hid (hR _ wr (Hr3.out.below hb))
      obtain ⟨p1, p2, hdv, hact, hans⟩ := DA.out d
      have DCd : Hid (∀ W, Below w.heap.size w W → Calls Try.prog 16 #[.agg #[.int .i64 k, .int .i64 a, .slice A0 n c0], .agg #[.int .u32 d.nr, .int .u32 d.ar, .int .u64 d.ip, .int .u64 d.x0, .int .u64 d.x1, .int .u64 d.x2, .int .u64 d.x3, .int .u64 d.x4, .int .u64 d.x5]] W (Ret (.tuple #[.agg #[.int .i64 p1, .int .i64 p2], .int .i64 0]) W)) := Lib.hid (fun W hb => by
        have := DC.out d W hb
        rw [hdv] at this
        exact this)
      rw [hans] at RC
      have VA := Lib.hid (fun W => value14_any p1 p2 hact W)
      obtain ⟨z, hz⟩ : ∃ z, valV p1 p2 = z := ⟨_, rfl⟩
      rw [hz] at RC VA
      have hzE : (z != z) = false := by simp
      have HB := Lib.hid hb
      unfold Dat.arr at RC
      clear hd hcl hcc dq e3 hR hdv hact hans hz hb BWr
      go_upto_region 12 with (go_at_call 15; (with_reducible refine RC.out.mono ?_); rintro e_ w4 ⟨rfl, hb4⟩; have y0 := keep_cell hb4 q0; have y1 := keep_cell hb4 q1; have y2 := keep_cell hb4 q2; have y3 := keep_cell hb4 q3; have y4 := keep_cell hb4 q4; have y5 := keep_cell hb4 q5; have y6 := keep_cell hb4 q6; have y7 := keep_cell hb4 q7; have y8 := keep_cell hb4 q8; have x0 := keep_cell hb4 v0; have x1 := keep_cell hb4 v1; have x2 := keep_cell hb4 v2; have BW4 := Lib.hid (HBW.out.trans (hb4.mono HBW.out.size)); have Hb4 := Lib.hid hb4; have sz4 := hb4.size; clear hb4)
      have ya0 := fun ob => keep_cell (below_alloc w4 ob) y0
      have ya1 := fun ob => keep_cell (below_alloc w4 ob) y1
      have ya2 := fun ob => keep_cell (below_alloc w4 ob) y2
      have ya3 := fun ob => keep_cell (below_alloc w4 ob) y3
      have ya4 := fun ob => keep_cell (below_alloc w4 ob) y4
      have ya5 := fun ob => keep_cell (below_alloc w4 ob) y5
      have ya6 := fun ob => keep_cell (below_alloc w4 ob) y6
      have ya7 := fun ob => keep_cell (below_alloc w4 ob) y7
      have ya8 := fun ob => keep_cell (below_alloc w4 ob) y8
      have xa0 := fun ob => keep_cell (below_alloc w4 ob) x0
      have xa1 := fun ob => keep_cell (below_alloc w4 ob) x1
      have xa2 := fun ob => keep_cell (below_alloc w4 ob) x2
      have hsw4 := BW4.out.size
      have hsw3 := HB.out.size
      go_region_law (first
        | (go_simp; go_at_call 16; (with_reducible refine (DCd.out _ (by first | exact BW4.out | exact BW4.out.drew | exact BW4.out.alloc hsw4 _ | exact (BW4.out.alloc hsw4 _).drew | exact BW4.out.drew.alloc hsw4 _)).mono ?_); rintro e_ w6 ⟨rfl, hb6'⟩; have hb6 : Below w4.heap.size w4 w6 := (by first | exact hb6' | exact undrew hb6' | exact undrew (below_of hb6') | exact below_of (undrew hb6')); (try (have al : w6.heap[w4.heap.size]? = some (.cells #[.int .i64 0, .int .i64 0] 23 (0, 0)) := (hb6'.block w4.heap.size (by simp)).trans (by first | exact World.alloc_heap_new w4 _ | exact World.alloc_heap_new w4.drew _); have al0 : w6.cell? ⟨w4.heap.size, 0, none⟩ = some (.int .i64 0) := (by unfold World.cell?; rw [al]; rfl); have al1 : w6.cell? ⟨w4.heap.size, 1, none⟩ = some (.int .i64 0) := (by unfold World.cell?; rw [al]; rfl); have af0 : w6.frozen? ⟨w4.heap.size, 0, none⟩ = false := (by simp [World.frozen?, al]); have af1 : w6.frozen? ⟨w4.heap.size, 1, none⟩ = false := (by simp [World.frozen?, al]); clear al)); have Hb6 := Lib.hid hb6; have sz6 := hb6.size; clear hb6 hb6')
        | fail)
      all_goals
        go_wp2_with (go_at_call 17; (with_reducible refine (VA.out _).mono ?_); rintro e_ w7 ⟨rfl, hb7⟩; have Hb7 := Lib.hid hb7; clear hb7)
        go_roundw
        case rel =>
          refine ⟨j + 1, by omega, by go_num, ?_⟩
          have h46 : Below w3.heap.size w3 w6 := (HB.out.trans (Hb4.out.mono hsw3)).trans (Hb6.out.mono (by omega))
          first
            | exact (h46.alloc (by omega) _).trans (Hb7.out.mono (by simp; omega))
            | exact ((h46.setCell (p := ⟨w4.heap.size, 0, none⟩) (by show w3.heap.size ≤ w4.heap.size; omega) _).setCell (p := ⟨w4.heap.size, 1, none⟩) (by show w3.heap.size ≤ w4.heap.size; omega) _).trans (Hb7.out.mono (by simp; omega))
        case measure => (simp [intOf] <;> omega)
end Go.Proofs.Ytjmmbadpknlmcaa
