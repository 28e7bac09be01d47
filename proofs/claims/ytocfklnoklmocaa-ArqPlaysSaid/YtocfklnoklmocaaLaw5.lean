/- ArqPlays: it answers true. Conditions: the calls can be read, its numbers are numbers. -/
import Derived.Test.YtocfklnoklmocaaLaw3
import Derived.Test.YtocfklnoklmocaaOpen
import Derived.Test.YtocfklnoklmocaaRRise
import Derived.Deep.RegionHeld3
namespace Go.Proofs.Ytocfklnoklmocaa
open Go.RowKit
set_option linter.unusedVariables false
set_option linter.unusedSimpArgs false

theorem below_eq {B : Nat} {w w' w'' : World} (h : Below B w w') (h1 : w''.heap = w'.heap := by rfl) (h2 : w''.os = w'.os := by rfl) (h3 : w''.tape = w'.tape := by rfl) (h4 : w''.output = w'.output := by rfl) : Below B w w'' :=
  ⟨h2.trans h.os, h3.trans h.tape, h4.trans h.output, by rw [h1]; exact h.size, fun k hk => by rw [h1]; exact h.block k hk⟩
theorem below_to {w w' : World} {R : Nat} (h : Below R w w') : Upto (fun k => R ≤ k) w w' := ⟨h.os, h.tape, h.output, h.size, fun k _ hk => h.block k (by have hk : ¬ R ≤ k := hk; omega)⟩
theorem TimAt.low {w w' : World} {b B K R : Nat} {e : Int} {f : Int → Option Int} (h : TimAt w b B K e f) (hb : Below R w w') (h1 : b < R) (h2 : B < R) : TimAt w' b B K e f := h.upto (below_to hb) (by show ¬ R ≤ b; omega) (by show ¬ R ≤ B; omega)
theorem NumsAt.drewB {w : World} {v : Value} {xs : List Int} (h : NumsAt w v xs) (w' : World) (hw : w'.heap = w.heap := by rfl) : NumsAt w' v xs := by
  obtain ⟨A, c, rfl, h2⟩ := h
  refine ⟨A, c, rfl, fun h0 => ?_⟩
  obtain ⟨g, o, e, hc⟩ := h2 h0
  exact ⟨g, o, e, fun j x hx => by have := hc j x hx; unfold World.cell? at *; rw [hw]; exact this⟩
theorem NumsAt.upto {S : Nat → Prop} {w w' : World} {A : Option Addr} {n c : Nat} {xs : List Int} (h : NumsAt w (.slice A n c) xs) (hu : Upto S w w') (hA : ∀ a, A = some a → ¬ S a.block) : NumsAt w' (.slice A n c) xs := by
  obtain ⟨A', c', e, h2⟩ := h
  refine ⟨A', c', e, fun h0 => ?_⟩
  obtain ⟨g, o, e2, hc⟩ := h2 h0
  injection e with e3
  exact ⟨g, o, e2, fun j x hx => hu.cell (show ¬ S g from hA ⟨g, o, none⟩ (e3.trans e2)) (hc j x hx)⟩
theorem same_true {A1 A2 : Option Addr} {c1 c2 : Nat} {xs ys : List Int} {w : World} (hX : NumsAt w (.slice A1 xs.length c1) xs) (hY : NumsAt w (.slice A2 ys.length c2) ys) (hn : xs.length ≤ 1000000) (he : xs = ys) : Calls Try.prog 17 #[.slice A1 xs.length c1, .slice A2 ys.length c2] w (Ret (.bool true) w) := by
  have := same_any A1 A2 c1 c2 xs ys w hX hY hn
  rwa [decide_eq_true he] at this
theorem rstop_is (b : Nat) (e x : Int) (ids lefts : List Int) (t : Bool) (w : World) (hN : ids.length ≤ 1000000) (h : RefAt w b e ids lefts) (ht : decide (x ∈ ids) = t) :
    Calls Try.prog 16 #[.pointer (some ⟨b, 0, none⟩), .int .u64 x] w (fun en w' => en = .returned (.bool t) ∧ ∃ ids' lefts', RefAt w' b e ids' lefts' ∧ Gone x ids lefts ids' lefts' ∧ Below b w w') := by
  rw [← ht]; exact rstop_both b e x ids lefts w hN h
theorem Rel.is {f : Int → Option Int} {ids lefts : List Int} (h : Rel f ids lefts) (x : Int) : (f x).isSome = decide (x ∈ ids) := by
  by_cases hx : x ∈ ids
  · obtain ⟨c, hc, _⟩ := (ids_mem h x).1 hx
    simp [hc, hx]
  · simp [h.out x hx, hx]
theorem rel_fine {f : Int → Option Int} {ids lefts : List Int} {e : Int} (h : Rel f ids lefts) (hF : Fine e f) : ∀ (i : Nat) c, lefts[i]? = some c → 1 ≤ c ∧ c ≤ 1000 := by
  intro i c hc
  have hl := (List.getElem?_eq_some_iff.1 hc).1
  obtain ⟨x, hx⟩ : ∃ x, ids[i]? = some x := ⟨_, List.getElem?_eq_getElem (by rw [h.len]; exact hl)⟩
  have := hF.2.2 x c (h.val i x c hx hc)
  have := hF.2.1
  omega
def PlayIn (w : World) (b B rb e i : Nat) (wr : World) : Prop :=
  ∃ (K : Nat) (f : Int → Option Int) (ids lefts : List Int), TimAt wr b B K e f ∧ Fine e f ∧ K ≤ i ∧ RefAt wr rb e ids lefts ∧ Rel f ids lefts ∧ ids.length ≤ i ∧ Below w.heap.size w wr

theorem plays_bad (e : Int) (lv : Value) (L : List Opn) (w : World) (hL : OpsAt w lv L) (h : e < 1 ∨ 1000 < e) : Calls Try.prog 5 #[.int .i64 e, lv] w (Ret (.bool true) w) := by
  have A0 := awake_any w
  have N := fun W => new_bad e h W
  have M := fun W => rnew_bad e h W
  obtain ⟨Al, cl, rfl, hlen, hcl⟩ := hL
  obtain ⟨n, hn⟩ : ∃ n, L.length = n := ⟨_, rfl⟩
  rw [hn] at hlen ⊢
  clear h hcl hn
  go_enter Try.func5, Try.ntmps5
  go_wp2_with (first
    | (go_at_call 8; refine A0.mono ?_; rintro e w1 ⟨rfl, hb1⟩)
    | (go_at_call 11; refine (N _).mono ?_; rintro e w2 ⟨rfl, rfl⟩)
    | (go_at_call 12; refine (M _).mono ?_; rintro e w3 ⟨rfl, rfl⟩))
  refine wp_loop_rounds 1 ?_
  rw [rounds_succ]
  by_cases h0 : n = 0
  · subst h0
    go_wp2
    go_ret
    exact ⟨rfl, hb1⟩
  · have h1 : (0 : Int) < n := by omega
    clear h0
    go_wp2
    go_ret
    exact ⟨rfl, hb1⟩

set_option maxRecDepth 100000 in
set_option maxHeartbeats 8000000 in
theorem plays_ok (e : Nat) (lv : Value) (L : List Opn) (w : World) (hL : OpsAt w lv L) (h1 : 1 ≤ e) (h2 : e ≤ 1000) : Calls Try.prog 5 #[.int .i64 (e : Int), lv] w (Ret (.bool true) w) := by
  have A0 := awake_any w
  have N := fun W => new_ok e (by omega) (by omega) W
  have M := fun W => rnew_ok e (by omega) (by omega) W
  have hewf : (Lit.int .i64 (e : Int)).wf = true := wf_small (by omega) (by omega)
  have hS := Lib.hid (fun b B K x f W (hx : U64 x) (hK : K < 1000000) h => set_any b B K e x f W hx hewf hK h)
  obtain ⟨Al, cl, rfl, hlen, hcl⟩ := hL
  have Hcl := Lib.hid hcl
  obtain ⟨n, hn⟩ : ∃ n, L.length = n := ⟨_, rfl⟩
  rw [hn] at Hcl hlen ⊢
  have Hn := Lib.hid hn
  have e1 : (1 : Int) ≤ e := by omega
  have e2 : (e : Int) ≤ 1000 := by omega
  clear hewf hcl hn
  go_enter Try.func5, Try.ntmps5
  go_wp2_with (first
    | (go_at_call 8; refine A0.mono ?_; rintro e w1 ⟨rfl, hb1⟩)
    | (go_at_call 11; refine (N _).mono ?_; rintro e w2 ⟨b, B, rfl, hb0, hB0, T2, hb2⟩)
    | (go_at_call 12; refine (M _).mono ?_; rintro e w3 ⟨rb, rfl, hrb0, R3, hb3⟩))
  have hBw : w.heap.size ≤ B := Nat.le_trans hb1.size hB0
  have hbr : b < rb := Nat.lt_of_lt_of_le T2.lt.1 hrb0
  have hBr : B < rb := Nat.lt_of_lt_of_le T2.lt.2 hrb0
  have k2 := bchain hb1 hb1.size hb2
  have HP0 : Hid (PlayIn w b B rb e 0 w3) := Lib.hid ⟨0, _, [], [], T2.below hb3, ⟨e1, e2, fun x c h => by cases h⟩, Nat.le_refl _, R3, Rel.nil, Nat.le_refl _, bchain k2 k2.size hb3⟩
  clear T2 hb2 R3 hb3 k2 hb1 hb0 hB0 hrb0 A0 N M
  go_loopw [10, 11, 12] (fun iv _ _ wr => ∃ i : Nat, i ≤ 200 ∧ iv = .int .i64 i ∧ PlayIn w b B rb e i wr) (fun iv _ _ _ => 200 - (intOf iv).toNat)
  case atStart => exact ⟨0, by omega, rfl, HP0.out⟩
  case round =>
    obtain ⟨i, hi, rfl, K, f, ids, lefts, hT, hF, hK, hR, hL, hids, hkw⟩ := hrel
    have HT := Lib.hid hT
    have HF := Lib.hid hF
    have HR := Lib.hid hR
    have HL := Lib.hid hL
    have HKW := Lib.hid hkw
    clear hT hF hR hL hkw HP0
    by_cases hin : i < n ∧ i < 200
    case neg =>
      by_cases hg1 : i < n
      · have hg1' : (i : Int) < n := by omega
        have hg2 : (200 : Int) ≤ i := by omega
        clear hin
        go_wp2
        go_ret
        exact ⟨rfl, HKW.out⟩
      · have hg2 : (n : Int) ≤ i := by omega
        clear hin hg1
        go_wp2
        go_ret
        exact ⟨rfl, HKW.out⟩
    obtain ⟨hin1, hin2⟩ := hin
    have hin1' : (i : Int) < n := by omega
    have hin2' : (i : Int) < 200 := by omega
    obtain ⟨p, hp⟩ : ∃ p, L[i]? = some p := ⟨_, List.getElem?_eq_getElem (by rw [Hn.out]; exact hin1)⟩
    obtain ⟨gl, ol, rfl, hcl⟩ := Hcl.out (by omega)
    obtain ⟨q0, q1, qU⟩ := hcl i p hp
    obtain ⟨pd, px⟩ := p
    simp only at q0 q1 qU
    have c0 : wr.cell? ⟨gl, ol + i * 2, none⟩ = some (.int .i64 pd) := keep_cell HKW.out q0
    have c1 : wr.cell? ⟨gl, ol + i * 2 + 1, none⟩ = some (.int .u64 px) := keep_cell HKW.out q1
    have QU := Lib.hid qU
    clear hcl q0 qU hp
    by_cases h0 : pd = 0
    · subst h0
      have hs := hS.out b B K px f wr QU.out (by omega) HT.out
      have HS := Lib.hid hs
      clear hs
      go_wp2_with (first
        | (go_at_call 13; (with_reducible refine HS.out.mono ?_); rintro e_ w5 ⟨rfl, T5, u5⟩; have k5 := upto_low HKW.out u5 hBw; have d1 := keep_cell k5 q1; have HT5 := Lib.hid T5; have Hu5 := Lib.hid u5; have HK5 := Lib.hid k5; clear T5 u5 k5)
        | (go_at_call 14; (with_reducible refine (rset_any rb e px ids lefts _ (by omega) (HR.out.upto Hu5.out hBr)).mono ?_); rintro e_ w6 ⟨rfl, ids', lefts', R6, G6, b6⟩; have HR6 := Lib.hid R6; have HG6 := Lib.hid G6; have Hb6 := Lib.hid b6; clear R6 G6 b6))
      have hrel9 := HG6.out.rel HL.out
      have hlen9 := HG6.out.len
      obtain ⟨K9, hK9⟩ : ∃ k, (if (f px).isSome then K else K + 1) = k := ⟨_, rfl⟩
      have K8 : K9 ≤ i + 1 := by rw [← hK9]; split <;> omega
      obtain ⟨ids9, hids9⟩ : ∃ l, ids' ++ [px] = l := ⟨_, rfl⟩
      obtain ⟨lefts9, hlefts9⟩ : ∃ l, lefts' ++ [(e : Int)] = l := ⟨_, rfl⟩
      obtain ⟨f9, hf9⟩ : ∃ l, upd f px e = l := ⟨_, rfl⟩
      have N9 : ids9.length ≤ i + 1 := by rw [← hids9, List.length_append]; simp; omega
      have T9 : TimAt w6 b B K9 e f9 := by rw [← hK9, ← hf9]; exact HT5.out.low Hb6.out hbr hBr
      have F9 : Fine e f9 := by rw [← hf9]; exact HF.out.upd px
      have R9 : RefAt w6 rb e ids9 lefts9 := by rw [← hids9, ← hlefts9]; exact HR6.out
      have L9 : Rel f9 ids9 lefts9 := by rw [← hids9, ← hlefts9, ← hf9, ← upd_del]; exact hrel9.1.push hrel9.2 e
      have KW9 : Below w.heap.size w w6 := HK5.out.trans (Hb6.out.mono (by omega))
      clear hrel9 hK9 hids9 hlefts9 hf9 HT5 Hu5 HK5 HR6 HG6 Hb6 hlen9 c0 c1 d1
      obtain ⟨vI, vL, hT9, hl9, hI9, hL9, hA9⟩ := id R9
      obtain ⟨n9, hn9⟩ : ∃ n, ids9.length = n := ⟨_, rfl⟩
      rw [hn9] at hI9 N9
      obtain ⟨A9, c9, rfl⟩ := owns_form hI9
      have r1 := hT9.c1
      have z9 := hT9.lt
      have Hnum : Hid (∀ V, Below w6.heap.size w6 V → NumsAt V (.slice A9 ids9.length c9) ids9) := Lib.hid (fun V hV => by rw [hn9]; exact (nums_of_own hI9 hn9).below hV)
      have HI : Hid (∀ V, Below w6.heap.size w6 V → Calls Try.prog 20 #[.pointer (some ⟨b, 0, none⟩)] V (IdsPost K9 f9 (fun _ => true) V)) := Lib.hid (fun V hV => ids_any b B K9 e f9 V (by omega) (T9.below hV))
      have HRi : Hid (∀ V, Below w6.heap.size w6 V → Calls Try.prog 21 #[.slice A9 n9 c9] V (RisePost ids9 V)) := Lib.hid (fun V hV => by have := rise_any A9 c9 ids9 V (Hnum.out V hV) (by omega); rwa [hn9] at this)
      have HE : Hid (∀ ks, Keys f9 (fun _ => true) ks → ks = riseL ids9) := Lib.hid (fun ks hk => Keys.same hk (riseL_all L9.nd).1 (fun x => by rw [(riseL_all L9.nd).2 x, ids_mem L9 x]))
      have HT9 := Lib.hid T9
      have HF9 := Lib.hid F9
      have HR9 := Lib.hid R9
      have HL9 := Lib.hid L9
      have HKW9 := Lib.hid KW9
      have HN9 : Hid (K9 ≤ i + 1 ∧ ids9.length ≤ i + 1) := Lib.hid ⟨K8, by rw [hn9]; exact N9⟩
      clear hT9 hl9 hI9 hL9 hA9 hn9 T9 F9 R9 L9 KW9
      go_region_held3 (fun w' => w'.cell? ⟨rb, 1, none⟩ = some (.slice A9 n9 c9)) (first | assumption | (exact keep_cell (by repeat (first | with_reducible assumption | with_reducible exact Below.refl _ _ | (with_reducible refine below_drewS ?_ _) | (with_reducible refine Below.drew ?_))) r1))
        (first
          | (go_at_call 20; (with_reducible refine (HI.out _ (by repeat (first | with_reducible assumption | with_reducible exact Below.refl _ _ | (with_reducible refine below_drewS ?_ _) | (with_reducible refine Below.drew ?_)))).mono ?_); rintro e_ w7 ⟨A7, c7, ks, rfl, hn7, hk7, _, hl7, hb7⟩; have k7 : Below w6.heap.size w6 w7 := Below.trans (show Below w6.heap.size w6 _ from (by repeat (first | with_reducible assumption | with_reducible exact Below.refl _ _ | (with_reducible refine below_drewS ?_ _) | (with_reducible refine Below.drew ?_)))) (hb7.mono (show Below w6.heap.size w6 _ from (by repeat (first | with_reducible assumption | with_reducible exact Below.refl _ _ | (with_reducible refine below_drewS ?_ _) | (with_reducible refine Below.drew ?_)))).size); have r7 := keep_cell k7 r1; have Hn7 := Lib.hid hn7; have Hk7 := Lib.hid hk7; clear hn7 hk7)
          | (go_at_call 21; (with_reducible refine (HRi.out _ (by repeat (first | with_reducible assumption | with_reducible exact Below.refl _ _ | (with_reducible refine below_drewS ?_ _) | (with_reducible refine Below.drew ?_)))).mono ?_); rintro e_ w8 ⟨A8, c8, rfl, hn8, hb8⟩; have k8 : Below w6.heap.size w6 w8 := Below.trans (show Below w6.heap.size w6 _ from (by repeat (first | with_reducible assumption | with_reducible exact Below.refl _ _ | (with_reducible refine below_drewS ?_ _) | (with_reducible refine Below.drew ?_)))) (hb8.mono (show Below w6.heap.size w6 _ from (by repeat (first | with_reducible assumption | with_reducible exact Below.refl _ _ | (with_reducible refine below_drewS ?_ _) | (with_reducible refine Below.drew ?_)))).size); have r8 := keep_cell k8 r1; have Hn8 := Lib.hid hn8; have Hn7b := Lib.hid ((Hn7.out.drewB _).below hb8); clear hn8)
          | (go_at_call 17; (with_reducible refine (same_true (Hn7b.out.drewB _) (Hn8.out.drewB _) (by omega) (HE.out _ Hk7.out)).mono ?_); rintro e_ w10 ⟨rfl, hb10⟩; have k10 : Below w6.heap.size w6 w10 := Below.trans (show Below w6.heap.size w6 _ from (by repeat (first | with_reducible assumption | with_reducible exact Below.refl _ _ | (with_reducible refine below_drewS ?_ _) | (with_reducible refine Below.drew ?_)))) (hb10.mono (show Below w6.heap.size w6 _ from (by repeat (first | with_reducible assumption | with_reducible exact Below.refl _ _ | (with_reducible refine below_drewS ?_ _) | (with_reducible refine Below.drew ?_)))).size); have r10 := keep_cell k10 r1)
          | fail)
      all_goals
        go_wp2
        go_roundw
        case rel =>
          refine ⟨i + 1, by omega, by go_num, K9, f9, ids9, lefts9, HT9.out.below (by repeat (first | with_reducible assumption | with_reducible exact Below.refl _ _ | (with_reducible refine below_drewS ?_ _) | (with_reducible refine Below.drew ?_))), HF9.out, HN9.out.1, HR9.out.below (by repeat (first | with_reducible assumption | with_reducible exact Below.refl _ _ | (with_reducible refine below_drewS ?_ _) | (with_reducible refine Below.drew ?_))), HL9.out, HN9.out.2, bchain HKW9.out HKW9.out.size (by repeat (first | with_reducible assumption | with_reducible exact Below.refl _ _ | (with_reducible refine below_drewS ?_ _) | (with_reducible refine Below.drew ?_)))⟩
        case measure => (simp [intOf] <;> omega)
    have h0E : (pd == 0) = false := by simpa using h0
    by_cases h1 : pd = 1
    · subst h1
      have hs := hS.out b B K px f wr QU.out (by omega) HT.out
      have HS := Lib.hid hs
      clear hs h0
      go_wp2_with (first
        | (go_at_call 13; (with_reducible refine HS.out.mono ?_); rintro e_ w5 ⟨rfl, T5, u5⟩; have k5 := upto_low HKW.out u5 hBw; have d1 := keep_cell k5 q1; have HT5 := Lib.hid T5; have Hu5 := Lib.hid u5; have HK5 := Lib.hid k5; clear T5 u5 k5)
        | (go_at_call 14; (with_reducible refine (rset_any rb e px ids lefts _ (by omega) (HR.out.upto Hu5.out hBr)).mono ?_); rintro e_ w6 ⟨rfl, ids', lefts', R6, G6, b6⟩; have HR6 := Lib.hid R6; have HG6 := Lib.hid G6; have Hb6 := Lib.hid b6; clear R6 G6 b6))
      have hrel9 := HG6.out.rel HL.out
      have hlen9 := HG6.out.len
      obtain ⟨K9, hK9⟩ : ∃ k, (if (f px).isSome then K else K + 1) = k := ⟨_, rfl⟩
      have K8 : K9 ≤ i + 1 := by rw [← hK9]; split <;> omega
      obtain ⟨ids9, hids9⟩ : ∃ l, ids' ++ [px] = l := ⟨_, rfl⟩
      obtain ⟨lefts9, hlefts9⟩ : ∃ l, lefts' ++ [(e : Int)] = l := ⟨_, rfl⟩
      obtain ⟨f9, hf9⟩ : ∃ l, upd f px e = l := ⟨_, rfl⟩
      have N9 : ids9.length ≤ i + 1 := by rw [← hids9, List.length_append]; simp; omega
      have T9 : TimAt w6 b B K9 e f9 := by rw [← hK9, ← hf9]; exact HT5.out.low Hb6.out hbr hBr
      have F9 : Fine e f9 := by rw [← hf9]; exact HF.out.upd px
      have R9 : RefAt w6 rb e ids9 lefts9 := by rw [← hids9, ← hlefts9]; exact HR6.out
      have L9 : Rel f9 ids9 lefts9 := by rw [← hids9, ← hlefts9, ← hf9, ← upd_del]; exact hrel9.1.push hrel9.2 e
      have KW9 : Below w.heap.size w w6 := HK5.out.trans (Hb6.out.mono (by omega))
      clear hrel9 hK9 hids9 hlefts9 hf9 HT5 Hu5 HK5 HR6 HG6 Hb6 hlen9 c0 c1 d1
      obtain ⟨vI, vL, hT9, hl9, hI9, hL9, hA9⟩ := id R9
      obtain ⟨n9, hn9⟩ : ∃ n, ids9.length = n := ⟨_, rfl⟩
      rw [hn9] at hI9 N9
      obtain ⟨A9, c9, rfl⟩ := owns_form hI9
      have r1 := hT9.c1
      have z9 := hT9.lt
      have Hnum : Hid (∀ V, Below w6.heap.size w6 V → NumsAt V (.slice A9 ids9.length c9) ids9) := Lib.hid (fun V hV => by rw [hn9]; exact (nums_of_own hI9 hn9).below hV)
      have HI : Hid (∀ V, Below w6.heap.size w6 V → Calls Try.prog 20 #[.pointer (some ⟨b, 0, none⟩)] V (IdsPost K9 f9 (fun _ => true) V)) := Lib.hid (fun V hV => ids_any b B K9 e f9 V (by omega) (T9.below hV))
      have HRi : Hid (∀ V, Below w6.heap.size w6 V → Calls Try.prog 21 #[.slice A9 n9 c9] V (RisePost ids9 V)) := Lib.hid (fun V hV => by have := rise_any A9 c9 ids9 V (Hnum.out V hV) (by omega); rwa [hn9] at this)
      have HE : Hid (∀ ks, Keys f9 (fun _ => true) ks → ks = riseL ids9) := Lib.hid (fun ks hk => Keys.same hk (riseL_all L9.nd).1 (fun x => by rw [(riseL_all L9.nd).2 x, ids_mem L9 x]))
      have HT9 := Lib.hid T9
      have HF9 := Lib.hid F9
      have HR9 := Lib.hid R9
      have HL9 := Lib.hid L9
      have HKW9 := Lib.hid KW9
      have HN9 : Hid (K9 ≤ i + 1 ∧ ids9.length ≤ i + 1) := Lib.hid ⟨K8, by rw [hn9]; exact N9⟩
      clear hT9 hl9 hI9 hL9 hA9 hn9 T9 F9 R9 L9 KW9
      go_region_held3 (fun w' => w'.cell? ⟨rb, 1, none⟩ = some (.slice A9 n9 c9)) (first | assumption | (exact keep_cell (by repeat (first | with_reducible assumption | with_reducible exact Below.refl _ _ | (with_reducible refine below_drewS ?_ _) | (with_reducible refine Below.drew ?_))) r1))
        (first
          | (go_at_call 20; (with_reducible refine (HI.out _ (by repeat (first | with_reducible assumption | with_reducible exact Below.refl _ _ | (with_reducible refine below_drewS ?_ _) | (with_reducible refine Below.drew ?_)))).mono ?_); rintro e_ w7 ⟨A7, c7, ks, rfl, hn7, hk7, _, hl7, hb7⟩; have k7 : Below w6.heap.size w6 w7 := Below.trans (show Below w6.heap.size w6 _ from (by repeat (first | with_reducible assumption | with_reducible exact Below.refl _ _ | (with_reducible refine below_drewS ?_ _) | (with_reducible refine Below.drew ?_)))) (hb7.mono (show Below w6.heap.size w6 _ from (by repeat (first | with_reducible assumption | with_reducible exact Below.refl _ _ | (with_reducible refine below_drewS ?_ _) | (with_reducible refine Below.drew ?_)))).size); have r7 := keep_cell k7 r1; have Hn7 := Lib.hid hn7; have Hk7 := Lib.hid hk7; clear hn7 hk7)
          | (go_at_call 21; (with_reducible refine (HRi.out _ (by repeat (first | with_reducible assumption | with_reducible exact Below.refl _ _ | (with_reducible refine below_drewS ?_ _) | (with_reducible refine Below.drew ?_)))).mono ?_); rintro e_ w8 ⟨A8, c8, rfl, hn8, hb8⟩; have k8 : Below w6.heap.size w6 w8 := Below.trans (show Below w6.heap.size w6 _ from (by repeat (first | with_reducible assumption | with_reducible exact Below.refl _ _ | (with_reducible refine below_drewS ?_ _) | (with_reducible refine Below.drew ?_)))) (hb8.mono (show Below w6.heap.size w6 _ from (by repeat (first | with_reducible assumption | with_reducible exact Below.refl _ _ | (with_reducible refine below_drewS ?_ _) | (with_reducible refine Below.drew ?_)))).size); have r8 := keep_cell k8 r1; have Hn8 := Lib.hid hn8; have Hn7b := Lib.hid ((Hn7.out.drewB _).below hb8); clear hn8)
          | (go_at_call 17; (with_reducible refine (same_true (Hn7b.out.drewB _) (Hn8.out.drewB _) (by omega) (HE.out _ Hk7.out)).mono ?_); rintro e_ w10 ⟨rfl, hb10⟩; have k10 : Below w6.heap.size w6 w10 := Below.trans (show Below w6.heap.size w6 _ from (by repeat (first | with_reducible assumption | with_reducible exact Below.refl _ _ | (with_reducible refine below_drewS ?_ _) | (with_reducible refine Below.drew ?_)))) (hb10.mono (show Below w6.heap.size w6 _ from (by repeat (first | with_reducible assumption | with_reducible exact Below.refl _ _ | (with_reducible refine below_drewS ?_ _) | (with_reducible refine Below.drew ?_)))).size); have r10 := keep_cell k10 r1)
          | fail)
      all_goals
        go_wp2
        go_roundw
        case rel =>
          refine ⟨i + 1, by omega, by go_num, K9, f9, ids9, lefts9, HT9.out.below (by repeat (first | with_reducible assumption | with_reducible exact Below.refl _ _ | (with_reducible refine below_drewS ?_ _) | (with_reducible refine Below.drew ?_))), HF9.out, HN9.out.1, HR9.out.below (by repeat (first | with_reducible assumption | with_reducible exact Below.refl _ _ | (with_reducible refine below_drewS ?_ _) | (with_reducible refine Below.drew ?_))), HL9.out, HN9.out.2, bchain HKW9.out HKW9.out.size (by repeat (first | with_reducible assumption | with_reducible exact Below.refl _ _ | (with_reducible refine below_drewS ?_ _) | (with_reducible refine Below.drew ?_)))⟩
        case measure => (simp [intOf] <;> omega)
    have h1E : (pd == 1) = false := by simpa using h1
    by_cases h2' : pd = 2
    · subst h2'
      obtain ⟨t, ht⟩ : ∃ t, decide (px ∈ ids) = t := ⟨_, rfl⟩
      have HP := Lib.hid (show ∀ V, Below wr.heap.size wr V → Calls Try.prog 15 #[.pointer (some ⟨b, 0, none⟩), .int .u64 px] V (fun en w' => en = .returned (.bool t) ∧ TimAt w' b B K e (del f px) ∧ Upto (fun k => k = B) V w') from fun V hV => by
        have := stop_any b B K e px f V QU.out (HT.out.below hV)
        rwa [HL.out.is px, ht] at this)
      have Hmem := Lib.hid ht
      clear ht h0 h1
      cases t
      all_goals
        go_wp2
        go_region_held3 (fun w' => w'.cell? ⟨gl, ol + i * 2 + 1, none⟩ = some (.int .u64 px)) (first | assumption | (exact keep_cell (by repeat (first | with_reducible assumption | with_reducible exact Below.refl _ _ | (with_reducible refine below_drewS ?_ _) | (with_reducible refine Below.drew ?_))) c1))
          (first
            | (go_at_call 15; (with_reducible refine (HP.out _ (by repeat (first | with_reducible assumption | with_reducible exact Below.refl _ _ | (with_reducible refine below_drewS ?_ _) | (with_reducible refine Below.drew ?_)))).mono ?_); rintro e_ w5 ⟨rfl, T5, u5⟩; have k5 := upto_low (bchain HKW.out HKW.out.size (by repeat (first | with_reducible assumption | with_reducible exact Below.refl _ _ | (with_reducible refine below_drewS ?_ _) | (with_reducible refine Below.drew ?_)))) u5 hBw; have d1 := keep_cell k5 q1; have HT5 := Lib.hid T5; have HR5 := Lib.hid ((HR.out.below (by repeat (first | with_reducible assumption | with_reducible exact Below.refl _ _ | (with_reducible refine below_drewS ?_ _) | (with_reducible refine Below.drew ?_)))).upto u5 hBr); have HK5 := Lib.hid k5; clear T5 u5 k5)
            | (go_at_call 16; (with_reducible refine (rstop_is rb e px ids lefts _ _ (by omega) (HR5.out.below (below_eq (Below.refl _ _))) Hmem.out).mono ?_); rintro e_ w6 ⟨rfl, ids', lefts', R6, G6, b6⟩; have d2 := keep_cell (show Below w.heap.size w w6 from (below_eq HK5.out).trans (b6.mono (by omega))) q1; have HR6 := Lib.hid R6; have HG6 := Lib.hid G6; have Hb6 := Lib.hid b6; have HK6 := Lib.hid ((below_eq HK5.out).trans (b6.mono (show w.heap.size ≤ rb by omega))); have HT6 := Lib.hid ((HT5.out.below (below_eq (Below.refl _ _))).low b6 hbr hBr); clear R6 G6 b6)
            | fail)
        all_goals
          have hrel9 := HG6.out.rel HL.out
          have hlen9 := HG6.out.len
          obtain ⟨f9, hf9⟩ : ∃ l, del f px = l := ⟨_, rfl⟩
          obtain ⟨K9, hK9⟩ : ∃ l, K = l := ⟨_, rfl⟩
          obtain ⟨ids9, hids9⟩ : ∃ l, ids' = l := ⟨_, rfl⟩
          obtain ⟨lefts9, hlefts9⟩ : ∃ l, lefts' = l := ⟨_, rfl⟩
          have K8 : K9 ≤ i + 1 := by omega
          have N9 : ids9.length ≤ i + 1 := by rw [← hids9]; omega
          have T9 : TimAt w6 b B K9 e f9 := by rw [← hK9, ← hf9]; exact HT6.out
          have F9 : Fine e f9 := by rw [← hf9]; exact HF.out.del px
          have R9 : RefAt w6 rb e ids9 lefts9 := by rw [← hids9, ← hlefts9]; exact HR6.out
          have L9 : Rel f9 ids9 lefts9 := by rw [← hids9, ← hlefts9, ← hf9]; exact hrel9.1
          have KW9 : Below w.heap.size w w6 := HK6.out
          clear hrel9 hK9 hids9 hlefts9 hf9 HT5 HR5 HK5 HR6 HG6 Hb6 HK6 HT6 hlen9 c0 c1 d1 d2
          go_wp2
          obtain ⟨vI, vL, hT9, hl9, hI9, hL9, hA9⟩ := id R9
          obtain ⟨n9, hn9⟩ : ∃ n, ids9.length = n := ⟨_, rfl⟩
          rw [hn9] at hI9 N9
          obtain ⟨A9, c9, rfl⟩ := owns_form hI9
          have r1 := hT9.c1
          have z9 := hT9.lt
          have Hnum : Hid (∀ V, Below w6.heap.size w6 V → NumsAt V (.slice A9 ids9.length c9) ids9) := Lib.hid (fun V hV => by rw [hn9]; exact (nums_of_own hI9 hn9).below hV)
          have HI : Hid (∀ V, Below w6.heap.size w6 V → Calls Try.prog 20 #[.pointer (some ⟨b, 0, none⟩)] V (IdsPost K9 f9 (fun _ => true) V)) := Lib.hid (fun V hV => ids_any b B K9 e f9 V (by omega) (T9.below hV))
          have HRi : Hid (∀ V, Below w6.heap.size w6 V → Calls Try.prog 21 #[.slice A9 n9 c9] V (RisePost ids9 V)) := Lib.hid (fun V hV => by have := rise_any A9 c9 ids9 V (Hnum.out V hV) (by omega); rwa [hn9] at this)
          have HE : Hid (∀ ks, Keys f9 (fun _ => true) ks → ks = riseL ids9) := Lib.hid (fun ks hk => Keys.same hk (riseL_all L9.nd).1 (fun x => by rw [(riseL_all L9.nd).2 x, ids_mem L9 x]))
          have HT9 := Lib.hid T9
          have HF9 := Lib.hid F9
          have HR9 := Lib.hid R9
          have HL9 := Lib.hid L9
          have HKW9 := Lib.hid KW9
          have HN9 : Hid (K9 ≤ i + 1 ∧ ids9.length ≤ i + 1) := Lib.hid ⟨K8, by rw [hn9]; exact N9⟩
          clear hT9 hl9 hI9 hL9 hA9 hn9 T9 F9 R9 L9 KW9
          go_region_held3 (fun w' => w'.cell? ⟨rb, 1, none⟩ = some (.slice A9 n9 c9)) (first | assumption | (exact keep_cell (by repeat (first | with_reducible assumption | with_reducible exact Below.refl _ _ | (with_reducible refine below_drewS ?_ _) | (with_reducible refine Below.drew ?_))) r1))
            (first
              | (go_at_call 20; (with_reducible refine (HI.out _ (by repeat (first | with_reducible assumption | with_reducible exact Below.refl _ _ | (with_reducible refine below_drewS ?_ _) | (with_reducible refine Below.drew ?_)))).mono ?_); rintro e_ w7 ⟨A7, c7, ks, rfl, hn7, hk7, _, hl7, hb7⟩; have k7 : Below w6.heap.size w6 w7 := Below.trans (show Below w6.heap.size w6 _ from (by repeat (first | with_reducible assumption | with_reducible exact Below.refl _ _ | (with_reducible refine below_drewS ?_ _) | (with_reducible refine Below.drew ?_)))) (hb7.mono (show Below w6.heap.size w6 _ from (by repeat (first | with_reducible assumption | with_reducible exact Below.refl _ _ | (with_reducible refine below_drewS ?_ _) | (with_reducible refine Below.drew ?_)))).size); have r7 := keep_cell k7 r1; have Hn7 := Lib.hid hn7; have Hk7 := Lib.hid hk7; clear hn7 hk7)
              | (go_at_call 21; (with_reducible refine (HRi.out _ (by repeat (first | with_reducible assumption | with_reducible exact Below.refl _ _ | (with_reducible refine below_drewS ?_ _) | (with_reducible refine Below.drew ?_)))).mono ?_); rintro e_ w8 ⟨A8, c8, rfl, hn8, hb8⟩; have k8 : Below w6.heap.size w6 w8 := Below.trans (show Below w6.heap.size w6 _ from (by repeat (first | with_reducible assumption | with_reducible exact Below.refl _ _ | (with_reducible refine below_drewS ?_ _) | (with_reducible refine Below.drew ?_)))) (hb8.mono (show Below w6.heap.size w6 _ from (by repeat (first | with_reducible assumption | with_reducible exact Below.refl _ _ | (with_reducible refine below_drewS ?_ _) | (with_reducible refine Below.drew ?_)))).size); have r8 := keep_cell k8 r1; have Hn8 := Lib.hid hn8; have Hn7b := Lib.hid ((Hn7.out.drewB _).below hb8); clear hn8)
              | (go_at_call 17; (with_reducible refine (same_true (Hn7b.out.drewB _) (Hn8.out.drewB _) (by omega) (HE.out _ Hk7.out)).mono ?_); rintro e_ w10 ⟨rfl, hb10⟩; have k10 : Below w6.heap.size w6 w10 := Below.trans (show Below w6.heap.size w6 _ from (by repeat (first | with_reducible assumption | with_reducible exact Below.refl _ _ | (with_reducible refine below_drewS ?_ _) | (with_reducible refine Below.drew ?_)))) (hb10.mono (show Below w6.heap.size w6 _ from (by repeat (first | with_reducible assumption | with_reducible exact Below.refl _ _ | (with_reducible refine below_drewS ?_ _) | (with_reducible refine Below.drew ?_)))).size); have r10 := keep_cell k10 r1)
              | fail)
          all_goals
            go_wp2
            go_roundw
            case rel =>
              refine ⟨i + 1, by omega, by go_num, K9, f9, ids9, lefts9, HT9.out.below (by repeat (first | with_reducible assumption | with_reducible exact Below.refl _ _ | (with_reducible refine below_drewS ?_ _) | (with_reducible refine Below.drew ?_))), HF9.out, HN9.out.1, HR9.out.below (by repeat (first | with_reducible assumption | with_reducible exact Below.refl _ _ | (with_reducible refine below_drewS ?_ _) | (with_reducible refine Below.drew ?_))), HL9.out, HN9.out.2, bchain HKW9.out HKW9.out.size (by repeat (first | with_reducible assumption | with_reducible exact Below.refl _ _ | (with_reducible refine below_drewS ?_ _) | (with_reducible refine Below.drew ?_)))⟩
            case measure => (simp [intOf] <;> omega)
    have h2E : (pd == 2) = false := by simpa using h2'
    clear h0 h1 h2'
    have HTT := Lib.hid (tick_any b B K e f wr (by omega) HF.out HT.out)
    go_wp2_with (first
      | (go_at_call 18; (with_reducible refine HTT.out.mono ?_); rintro e_ w4 ⟨A5, c5, ks, rfl, n5, hk5, hfr5, hl5, T5, u5⟩; have k5 := upto_low HKW.out u5 hBw; have HN5 := Lib.hid n5; have HFr5 := Lib.hid hfr5.2; have HKs := Lib.hid (Keys.same hk5 (riseL_all (offs_nd HL.out)).1 (fun x => by rw [(riseL_all (offs_nd HL.out)).2 x, offs_mem HL.out x])); have HT5 := Lib.hid T5; have HR5 := Lib.hid (HR.out.upto u5 hBr); have HBl := Lib.hid (HR.out.blocks.upto HR.out u5 (show ¬ rb = B by omega)); have HK5 := Lib.hid k5; clear n5 hk5 hfr5 T5 u5 k5)
      | (go_at_call 19; (with_reducible refine (rtick_any wr.heap.size rb e ids lefts _ (fun A c xs W h1 h2 => rise_any A c xs W h1 h2) (by omega) (rel_fine HL.out HF.out) ⟨e1, e2⟩ HBl.out HR5.out).mono ?_); rintro e_ w6 ⟨A6, c6, rfl, n6, R6, b6, u6⟩; have HN6 := Lib.hid n6; have HR6 := Lib.hid R6; have HN5b := Lib.hid (HN5.out.upto u6 (fun a ha => by have h := HFr5.out a ha; show ¬ a.block < wr.heap.size; omega)); have HT6 := Lib.hid (HT5.out.low b6 hbr hBr); have HK6 := Lib.hid (HK5.out.trans (b6.mono (show w.heap.size ≤ rb by omega))); clear n6 R6 b6 u6)
      | (go_at_call 17; (with_reducible refine (same_true HN5b.out HN6.out (by omega) HKs.out).mono ?_); rintro e_ wt ⟨rfl, b7⟩; have Hb7 := Lib.hid b7; clear b7))
    obtain ⟨f9, hf9⟩ : ∃ l, tickF e f = l := ⟨_, rfl⟩
    obtain ⟨K9, hK9⟩ : ∃ l, K = l := ⟨_, rfl⟩
    obtain ⟨ids9, hids9⟩ : ∃ l, ids = l := ⟨_, rfl⟩
    obtain ⟨lefts9, hlefts9⟩ : ∃ l, lefts.map (tk e) = l := ⟨_, rfl⟩
    have K8 : K9 ≤ i + 1 := by omega
    have N9 : ids9.length ≤ i + 1 := by rw [← hids9]; omega
    have T9 : TimAt wt b B K9 e f9 := by rw [← hK9, ← hf9]; exact HT6.out.below Hb7.out
    have F9 : Fine e f9 := by rw [← hf9]; exact HF.out.tick
    have R9 : RefAt wt rb e ids9 lefts9 := by rw [← hids9, ← hlefts9]; exact HR6.out.below Hb7.out
    have L9 : Rel f9 ids9 lefts9 := by rw [← hids9, ← hlefts9, ← hf9]; exact HL.out.tick e
    have KW9 : Below w.heap.size w wt := bchain HK6.out HK6.out.size Hb7.out
    clear hK9 hids9 hlefts9 hf9 HT5 HR5 HK5 HR6 HK6 HT6 Hb7 HN5 HN5b HN6 HKs HFr5 HBl HTT c0 c1 q1
    obtain ⟨vI, vL, hT9, hl9, hI9, hL9, hA9⟩ := id R9
    obtain ⟨n9, hn9⟩ : ∃ n, ids9.length = n := ⟨_, rfl⟩
    rw [hn9] at hI9 N9
    obtain ⟨A9, c9, rfl⟩ := owns_form hI9
    have r1 := hT9.c1
    have z9 := hT9.lt
    have Hnum : Hid (∀ V, Below wt.heap.size wt V → NumsAt V (.slice A9 ids9.length c9) ids9) := Lib.hid (fun V hV => by rw [hn9]; exact (nums_of_own hI9 hn9).below hV)
    have HI : Hid (∀ V, Below wt.heap.size wt V → Calls Try.prog 20 #[.pointer (some ⟨b, 0, none⟩)] V (IdsPost K9 f9 (fun _ => true) V)) := Lib.hid (fun V hV => ids_any b B K9 e f9 V (by omega) (T9.below hV))
    have HRi : Hid (∀ V, Below wt.heap.size wt V → Calls Try.prog 21 #[.slice A9 n9 c9] V (RisePost ids9 V)) := Lib.hid (fun V hV => by have := rise_any A9 c9 ids9 V (Hnum.out V hV) (by omega); rwa [hn9] at this)
    have HE : Hid (∀ ks, Keys f9 (fun _ => true) ks → ks = riseL ids9) := Lib.hid (fun ks hk => Keys.same hk (riseL_all L9.nd).1 (fun x => by rw [(riseL_all L9.nd).2 x, ids_mem L9 x]))
    have HT9 := Lib.hid T9
    have HF9 := Lib.hid F9
    have HR9 := Lib.hid R9
    have HL9 := Lib.hid L9
    have HKW9 := Lib.hid KW9
    have HN9 : Hid (K9 ≤ i + 1 ∧ ids9.length ≤ i + 1) := Lib.hid ⟨K8, by rw [hn9]; exact N9⟩
    clear hT9 hl9 hI9 hL9 hA9 hn9 T9 F9 R9 L9 KW9
    go_region_held3 (fun w' => w'.cell? ⟨rb, 1, none⟩ = some (.slice A9 n9 c9)) (first | assumption | (exact keep_cell (by repeat (first | with_reducible assumption | with_reducible exact Below.refl _ _ | (with_reducible refine below_drewS ?_ _) | (with_reducible refine Below.drew ?_))) r1))
      (first
        | (go_at_call 20; (with_reducible refine (HI.out _ (by repeat (first | with_reducible assumption | with_reducible exact Below.refl _ _ | (with_reducible refine below_drewS ?_ _) | (with_reducible refine Below.drew ?_)))).mono ?_); rintro e_ w7 ⟨A7, c7, ks, rfl, hn7, hk7, _, hl7, hb7⟩; have k7 : Below wt.heap.size wt w7 := Below.trans (show Below wt.heap.size wt _ from (by repeat (first | with_reducible assumption | with_reducible exact Below.refl _ _ | (with_reducible refine below_drewS ?_ _) | (with_reducible refine Below.drew ?_)))) (hb7.mono (show Below wt.heap.size wt _ from (by repeat (first | with_reducible assumption | with_reducible exact Below.refl _ _ | (with_reducible refine below_drewS ?_ _) | (with_reducible refine Below.drew ?_)))).size); have r7 := keep_cell k7 r1; have Hn7 := Lib.hid hn7; have Hk7 := Lib.hid hk7; clear hn7 hk7)
        | (go_at_call 21; (with_reducible refine (HRi.out _ (by repeat (first | with_reducible assumption | with_reducible exact Below.refl _ _ | (with_reducible refine below_drewS ?_ _) | (with_reducible refine Below.drew ?_)))).mono ?_); rintro e_ w8 ⟨A8, c8, rfl, hn8, hb8⟩; have k8 : Below wt.heap.size wt w8 := Below.trans (show Below wt.heap.size wt _ from (by repeat (first | with_reducible assumption | with_reducible exact Below.refl _ _ | (with_reducible refine below_drewS ?_ _) | (with_reducible refine Below.drew ?_)))) (hb8.mono (show Below wt.heap.size wt _ from (by repeat (first | with_reducible assumption | with_reducible exact Below.refl _ _ | (with_reducible refine below_drewS ?_ _) | (with_reducible refine Below.drew ?_)))).size); have r8 := keep_cell k8 r1; have Hn8 := Lib.hid hn8; have Hn7b := Lib.hid ((Hn7.out.drewB _).below hb8); clear hn8)
        | (go_at_call 17; (with_reducible refine (same_true (Hn7b.out.drewB _) (Hn8.out.drewB _) (by omega) (HE.out _ Hk7.out)).mono ?_); rintro e_ w10 ⟨rfl, hb10⟩; have k10 : Below wt.heap.size wt w10 := Below.trans (show Below wt.heap.size wt _ from (by repeat (first | with_reducible assumption | with_reducible exact Below.refl _ _ | (with_reducible refine below_drewS ?_ _) | (with_reducible refine Below.drew ?_)))) (hb10.mono (show Below wt.heap.size wt _ from (by repeat (first | with_reducible assumption | with_reducible exact Below.refl _ _ | (with_reducible refine below_drewS ?_ _) | (with_reducible refine Below.drew ?_)))).size); have r10 := keep_cell k10 r1)
        | fail)
    all_goals
      go_wp2
      go_roundw
      case rel =>
        refine ⟨i + 1, by omega, by go_num, K9, f9, ids9, lefts9, HT9.out.below (by repeat (first | with_reducible assumption | with_reducible exact Below.refl _ _ | (with_reducible refine below_drewS ?_ _) | (with_reducible refine Below.drew ?_))), HF9.out, HN9.out.1, HR9.out.below (by repeat (first | with_reducible assumption | with_reducible exact Below.refl _ _ | (with_reducible refine below_drewS ?_ _) | (with_reducible refine Below.drew ?_))), HL9.out, HN9.out.2, bchain HKW9.out HKW9.out.size (by repeat (first | with_reducible assumption | with_reducible exact Below.refl _ _ | (with_reducible refine below_drewS ?_ _) | (with_reducible refine Below.drew ?_)))⟩
      case measure => (simp [intOf] <;> omega)
theorem law_plays (e : Int) (lv : Value) (L : List Opn) (w : World) (hL : OpsAt w lv L) : Calls Try.prog 5 #[.int .i64 e, lv] w (Ret (.bool true) w) := by
  by_cases h : e < 1 ∨ 1000 < e
  · exact plays_bad e lv L w hL h
  · obtain ⟨m, rfl⟩ : ∃ m : Nat, e = m := ⟨e.toNat, by omega⟩
    exact plays_ok m lv L w hL (by omega) (by omega)
end Go.Proofs.Ytocfklnoklmocaa
