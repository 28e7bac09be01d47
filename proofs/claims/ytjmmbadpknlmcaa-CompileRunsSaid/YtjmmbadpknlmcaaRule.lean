/- rule: the instructions of a rule. Conditions: it may be; its conditions can be read. -/
import Derived.Test.YtjmmbadpknlmcaaTest
import Derived.Test.YtjmmbadpknlmcaaActV
section
namespace Go.Proofs.Ytjmmbadpknlmcaa
open Go.RowKit
set_option linter.unusedVariables false
set_option linter.unusedSimpArgs false

/-- A condition's one form: none, it never holds; some none, it always holds; else turned about or not, and how it tells. -/
def nf (o m v : Int) : Option (Option (Bool × Int)) :=
  if o = 1 then (if outB m v then none else some (some (false, 1)))
  else if o = 2 then (if outB m v then some none else some (some (true, 1)))
  else if o = 5 then (if m ≤ v then none else some (some (false, 5)))
  else if o = 4 then (if m ≤ v then some none else some (some (true, 5)))
  else if o = 6 then (if v = 0 then some none else if m < v then none else some (some (false, 6)))
  else (if v = 0 then none else if m < v then some none else some (some (true, 6)))
def nfV (m v : Int) : Option (Option (Bool × Int)) → Value
  | none => nev
  | some none => alw
  | some (some p) => nv false false p.1 p.2 m v
theorem normV_nf (o m v : Int) : normV o m v = nfV m v (nf o m v) := by
  unfold normV nf
  repeat' split
  all_goals rfl
theorem nf_sound {o m v : Int} {p : Bool × Int} (h : nf o m v = some (some p)) : Sound p.2 := by
  unfold nf at h
  unfold Sound
  repeat' split at h
  all_goals first | (cases h; done) | (injection h with h; first | (cases h; done) | (injection h with h; subst h; simp))
def ruleStep (c : Cnd) (l : List Ins) : Option (List Ins) :=
  match nf c.o c.m c.v with
  | none => none
  | some none => some l
  | some (some p) => some (testL p.1 p.2 c.m c.v c.a l.length ++ l)
def ruleF (k a : Int) (cs : List Cnd) : Option (List Ins) := cs.foldr (fun c acc => acc.bind (ruleStep c)) (some [⟨6, 0, 0, valV k a⟩])
def ruleL (k a : Int) (cs : List Cnd) : List Ins := (ruleF k a cs).getD []
theorem ruleF_drop {k a : Int} {cs : List Cnd} {j : Nat} {c : Cnd} (h : cs[j]? = some c) : ruleF k a (cs.drop j) = (ruleF k a (cs.drop (j + 1))).bind (ruleStep c) := by
  obtain ⟨h1, h2⟩ := List.getElem?_eq_some_iff.1 h
  rw [List.drop_eq_getElem_cons h1, h2]
  rfl
theorem testL_len (no : Bool) (op m v a els : Int) : (testL no op m v a els).length ≤ 7 := by
  have h1 := (loadL_len (16 + 8 * a) (lo m)).2
  have h2 := (loadL_len (16 + 8 * a + 4) (hi m)).2
  unfold testL topL endL
  simp only [List.length_append, List.length_cons, List.length_nil]
  split <;> simp <;> omega
theorem ruleF_none {k a : Int} : ∀ {cs : List Cnd} (j : Nat), ruleF k a (cs.drop j) = none → ruleF k a cs = none
  | _, 0, h => by simpa using h
  | [], j + 1, h => by simpa using h
  | c :: r, j + 1, h => by
    have := ruleF_none (cs := r) j (by simpa using h)
    show (ruleF k a r).bind (ruleStep c) = none
    rw [this]; rfl
theorem ruleF_len {k a : Int} : ∀ {cs : List Cnd} {l : List Ins}, ruleF k a cs = some l → l.length ≤ 1 + 7 * cs.length
  | [], l, h => by
    cases h; simp
  | c :: r, l, h => by
    have h' : (ruleF k a r).bind (ruleStep c) = some l := h
    obtain ⟨l0, h1, h2⟩ := Option.bind_eq_some_iff.1 h'
    have ih := ruleF_len h1
    unfold ruleStep at h2
    split at h2
    · cases h2
    · cases h2; simp only [List.length_cons]; omega
    · cases h2
      rw [List.length_append, List.length_cons]
      rename_i p _
      have := testL_len p.1 p.2 c.m c.v c.a l0.length
      omega
abbrev RulB (k a : Int) (nv cv : Value) : Obj := .cells #[.int .i64 k, .int .i64 a, nv, cv] 44
set_option maxRecDepth 100000 in
set_option maxHeartbeats 8000000 in
theorem rule_any (k a : Int) (nvv cv : Value) (cs : List Cnd) (w : World) (hact : actB k a = true) (hc : ∀ W, Below w.heap.size w W → CndsAt W cv cs) (hr : ∀ c ∈ cs, rightB c.a c.o = true ∧ 0 ≤ c.m ∧ c.m < 18446744073709551616 ∧ 0 ≤ c.v ∧ c.v < 18446744073709551616) (hn : cs.length ≤ 8) :
    Calls Try.prog 22 #[.agg #[.int .i64 k, .int .i64 a, nvv, cv]] w (InsPost (ruleL k a cs) w) := by
  have V := Lib.hid (fun W => value_any k a W)
  have r0 := new_cell w #[.int .i64 k, .int .i64 a, nvv, cv] 44 0 rfl
  have r1 := new_cell w #[.int .i64 k, .int .i64 a, nvv, cv] 44 1 rfl
  have r3 := new_cell w #[.int .i64 k, .int .i64 a, nvv, cv] 44 3 rfl
  have hb0 := below_alloc w (RulB k a nvv cv)
  obtain ⟨i0, hi0, hz0, hz1, hz2⟩ := info_parts info70
  obtain ⟨A0, c0, rfl, _, _⟩ := hc w (Below.refl _ _)
  obtain ⟨n, hnn⟩ : ∃ n, cs.length = n := ⟨_, rfl⟩
  rw [hnn] at hc hn r0 r1 r3 hb0 ⊢
  have HC := Lib.hid hc
  have Hn := Lib.hid hnn
  have HR := Lib.hid hr
  rw [hact] at V
  clear hc hnn hr hact
  go_enter Try.func22, Try.ntmps22
  go_wp2_with (go_at_call 19; (with_reducible refine (V.out _).mono ?_); rintro e_ w1 ⟨rfl, hb1⟩; have d3 : w1.cell? ⟨w.heap.size, 3, none⟩ = some (.slice A0 n c0) := keep_cell hb1 r3; have d3a := fun ob => keep_cell (below_alloc w1 ob) d3)
  have hst : InsOwn w1.heap.size (w1.alloc (.cells #[.int .u16 6, .int .u8 0, .int .u8 0, .int .u32 (valV k a)] 70)) (.slice (some ⟨w1.heap.size, 0, none⟩) 1 1) [⟨6, 0, 0, valV k a⟩] := own_new rfl rfl rfl (Nat.le_refl _) (by simp)
  have HS := Lib.hid hst
  have hw1 : Below w.heap.size w w1 := hb0.trans (hb1.mono hb0.size)
  have HW1 := Lib.hid hw1
  clear r0 r1 r3 hb1 V hst hw1
  go_loopw [5, 6, 7] (fun lv iv _ wr => ∃ (j : Nat) (l : List Ins), j ≤ n ∧ iv = .int .i64 ((j : Int) - 1) ∧ ruleF k a (cs.drop j) = some l ∧ InsOwn w1.heap.size wr lv l ∧ Below w1.heap.size w1 wr) (fun _ iv _ _ => ((intOf iv) + 1).toNat)
  case atStart => exact ⟨n, _, Nat.le_refl _, rfl, by rw [List.drop_of_length_le (by rw [Hn.out]; exact Nat.le_refl _)]; rfl, HS.out, below_alloc _ _⟩
  case round =>
    obtain ⟨j, l, hj, rfl, hf, ho, hb⟩ := hrel
    have e3 := keep_cell hb d3
    have hsz := hb.size
    by_cases hj0 : j = 0
    · subst hj0
      have hfin : InsPost (ruleL k a cs) w (.returned u5) wr := by
        have hl : ruleL k a cs = l := by unfold ruleL; rw [List.drop_zero] at hf; rw [hf]; rfl
        obtain ⟨A5, c5, e5⟩ := owns_form ho
        subst e5
        rw [hl]
        exact ⟨A5, c5, rfl, ownI_down ho HW1.out.size, HW1.out.trans (hb.mono HW1.out.size)⟩
      have HFin := Lib.hid hfin
      clear hf ho hb hfin
      go_wp2
      go_ret
      exact HFin.out
    · obtain ⟨i, rfl⟩ : ∃ i, j = i + 1 := ⟨j - 1, by omega⟩
      have hi : ((((i + 1 : Nat) : Int) - 1)) = (i : Int) := by omega
      rw [hi]
      have hge : (0 : Int) ≤ i := by omega
      have hlt' : (i : Int) < n := by omega
      obtain ⟨cnd, hc⟩ : ∃ c, cs[i]? = some c := ⟨_, List.getElem?_eq_getElem (by rw [Hn.out]; omega)⟩
      obtain ⟨hr1, hm1, hm2, hv1, hv2⟩ := HR.out cnd (List.mem_of_getElem? hc)
      have hcnd : 0 ≤ cnd.a ∧ cnd.a ≤ 5 := by simp [rightB] at hr1; omega
      obtain ⟨A1, c1, eA, _, hcl⟩ := HC.out wr (HW1.out.trans (hb.mono HW1.out.size))
      rw [Hn.out] at eA hcl
      injection eA with eA _ eC
      subst eA eC
      obtain ⟨cg, co, rfl, hcl2⟩ := hcl (by omega)
      obtain ⟨q0, q1, q2, q3⟩ := hcl2 i cnd hc
      have hstep := ruleF_drop (k := k) (a := a) hc
      rw [hf, Option.bind_some] at hstep
      have NRM := norm_any cnd.a cnd.o cnd.m cnd.v hm1 hv1 hm2 hv2 wr
      rw [hr1, if_pos rfl, normV_nf] at NRM
      have HStep := Lib.hid hstep
      have hll := ruleF_len hf
      have hdl : (cs.drop (i + 1)).length ≤ 8 := by rw [List.length_drop, Hn.out]; omega
      have HB := Lib.hid hb
      obtain ⟨ml, hml⟩ : ∃ ml, l.length = ml := ⟨_, rfl⟩
      have hml60 : ml ≤ 60 := by omega
      have HO := Lib.hid ho
      have Hml := Lib.hid hml
      obtain ⟨A5, c5, rfl⟩ := owns_form ho
      rw [hml]
      clear hcl hcl2 hc hf hstep hb ho hml hll hdl hr1
      cases hnf : nf cnd.o cnd.m cnd.v with
      | none =>
        rw [hnf] at NRM
        have HFin : Hid (ruleL k a cs = []) := Lib.hid (by
          have : ruleF k a (cs.drop i) = none := by rw [HStep.out]; unfold ruleStep; rw [hnf]
          unfold ruleL
          rw [ruleF_none i this]
          rfl)
        simp only [nfV, nev, nv] at NRM
        clear hnf HStep
        obtain ⟨ca, cop, cm, cvv⟩ := cnd
        simp only at q0 q1 q2 q3 NRM hm1 hm2 hv1 hv2 hcnd
        go_wp2_with (go_at_call 37; (with_reducible refine NRM.mono ?_); rintro e_ w4 ⟨rfl, hb4⟩)
        go_ret
        rw [HFin.out]
        exact ⟨none, 0, rfl, World.ownsRow_nil _ _ _ _, (((HW1.out.trans (HB.out.mono HW1.out.size))).trans (hb4.mono (Nat.le_trans HW1.out.size HB.out.size))).trans ((below_alloc w4 _).mono (Nat.le_trans (Nat.le_trans HW1.out.size HB.out.size) hb4.size))⟩
      | some f =>
        rw [hnf] at NRM
        cases f with
        | none =>
          have HNext : Hid (ruleF k a (cs.drop i) = some l) := Lib.hid (by rw [HStep.out]; unfold ruleStep; rw [hnf])
          simp only [nfV, alw, nv] at NRM
          clear hnf HStep
          obtain ⟨ca, cop, cm, cvv⟩ := cnd
          simp only at q0 q1 q2 q3 NRM hm1 hm2 hv1 hv2 hcnd
          go_wp2_with (go_at_call 37; (with_reducible refine NRM.mono ?_); rintro e_ w4 ⟨rfl, hb4⟩)
          go_roundw
          case rel => exact ⟨i, l, by omega, by go_num, HNext.out, by rw [← Hml.out]; exact own_low (own_low HO.out hb4) (below_alloc w4 _), (HB.out.trans (hb4.mono HB.out.size)).trans ((below_alloc w4 _).mono (Nat.le_trans HB.out.size hb4.size))⟩
          case measure => (simp [intOf] <;> omega)
        | some p =>
          have hsound := nf_sound hnf
          have HNext : Hid (ruleF k a (cs.drop i) = some (testL p.1 p.2 cnd.m cnd.v cnd.a l.length ++ l)) := Lib.hid (by rw [HStep.out]; unfold ruleStep; rw [hnf])
          simp only [nfV, nv] at NRM
          have htl7 := testL_len p.1 p.2 cnd.m cnd.v cnd.a ml
          obtain ⟨tl, htl⟩ : ∃ tl, (testL p.1 p.2 cnd.m cnd.v cnd.a ml).length = tl := ⟨_, rfl⟩
          have TT : Hid (∀ W, Calls Try.prog 38 #[nv false false p.1 p.2 cnd.m cnd.v, .int .i64 cnd.a, .int .i64 ml] W (OneI W.heap.size tl (testL p.1 p.2 cnd.m cnd.v cnd.a ml) W)) := Lib.hid (fun W => by rw [← htl]; exact test_any p.1 p.2 cnd.m cnd.v cnd.a ml hsound hcnd.1 hcnd.2 (by omega) (by omega) W)
          rw [htl] at htl7
          have Htl := Lib.hid htl
          rw [Hml.out] at HNext
          simp only [nv] at TT
          clear hnf HStep hsound htl
          obtain ⟨no, op⟩ := p
          obtain ⟨ca, cop, cm, cvv⟩ := cnd
          simp only at q0 q1 q2 q3 NRM TT HNext Htl hm1 hm2 hv1 hv2 hcnd
          go_upto_region 10 with (go_at_call 37; (with_reducible refine NRM.mono ?_); rintro e_ w4 ⟨rfl, hb4⟩)
          obtain ⟨W, hW⟩ : ∃ W, w4.alloc (.cells #[.bool false, .bool false, .bool no, .int .i64 op, .int .u64 cm, .int .u64 cvv] 88) = W := ⟨_, rfl⟩
          have hbW : Below wr.heap.size wr W := by rw [← hW]; exact hb4.trans ((below_alloc w4 _).mono hb4.size)
          have hoW := own_low HO.out hbW
          rw [Hml.out] at hoW
          have HoW := Lib.hid hoW
          have HbW := Lib.hid hbW
          have x0 : W.cell? ⟨w.heap.size, 3, none⟩ = some (.slice (some ⟨cg, co, none⟩) n c0) := keep_cell hbW e3
          have y0 : W.drew.cell? ⟨w.heap.size, 3, none⟩ = some (.slice (some ⟨cg, co, none⟩) n c0) := x0
          have x1 : W.cell? ⟨cg, co + i * 4, none⟩ = some (.int .i64 ca) := keep_cell hbW q0
          have y1 : W.drew.cell? ⟨cg, co + i * 4, none⟩ = some (.int .i64 ca) := x1
          have x2 : W.cell? ⟨w4.heap.size, 0, none⟩ = some (.bool false) := by rw [← hW]; exact new_cell w4 _ 88 0 rfl
          have y2 : W.drew.cell? ⟨w4.heap.size, 0, none⟩ = some (.bool false) := x2
          have x3 : W.cell? ⟨w4.heap.size, 1, none⟩ = some (.bool false) := by rw [← hW]; exact new_cell w4 _ 88 1 rfl
          have y3 : W.drew.cell? ⟨w4.heap.size, 1, none⟩ = some (.bool false) := x3
          have x4 : W.cell? ⟨w4.heap.size, 2, none⟩ = some (.bool no) := by rw [← hW]; exact new_cell w4 _ 88 2 rfl
          have y4 : W.drew.cell? ⟨w4.heap.size, 2, none⟩ = some (.bool no) := x4
          have x5 : W.cell? ⟨w4.heap.size, 3, none⟩ = some (.int .i64 op) := by rw [← hW]; exact new_cell w4 _ 88 3 rfl
          have y5 : W.drew.cell? ⟨w4.heap.size, 3, none⟩ = some (.int .i64 op) := x5
          have x6 : W.cell? ⟨w4.heap.size, 4, none⟩ = some (.int .u64 cm) := by rw [← hW]; exact new_cell w4 _ 88 4 rfl
          have y6 : W.drew.cell? ⟨w4.heap.size, 4, none⟩ = some (.int .u64 cm) := x6
          have x7 : W.cell? ⟨w4.heap.size, 5, none⟩ = some (.int .u64 cvv) := by rw [← hW]; exact new_cell w4 _ 88 5 rfl
          have y7 : W.drew.cell? ⟨w4.heap.size, 5, none⟩ = some (.int .u64 cvv) := x7
          rw [hW]
          have hszW := hbW.size
          have HsrcL : Hid (∀ W', Below W.heap.size W W' → SrcAt W' 4 A5 ml (rowI l)) := Lib.hid (fun W' hb => (src_own hoW (rowI_cells l)).below' hb)
          clear hW hb4 hbW hoW q0 q1 q2 q3 e3 d3 d3a NRM
          go_region_held3 (fun w' => w'.cell? ⟨w.heap.size, 3, none⟩ = some (.slice (some ⟨cg, co, none⟩) n c0) ∧ w'.cell? ⟨cg, co + i * 4, none⟩ = some (.int .i64 ca) ∧ w'.cell? ⟨w4.heap.size, 0, none⟩ = some (.bool false) ∧ w'.cell? ⟨w4.heap.size, 1, none⟩ = some (.bool false) ∧ w'.cell? ⟨w4.heap.size, 2, none⟩ = some (.bool no) ∧ w'.cell? ⟨w4.heap.size, 3, none⟩ = some (.int .i64 op) ∧ w'.cell? ⟨w4.heap.size, 4, none⟩ = some (.int .u64 cm) ∧ w'.cell? ⟨w4.heap.size, 5, none⟩ = some (.int .u64 cvv)) ((refine ⟨?_, ?_, ?_, ?_, ?_, ?_, ?_, ?_⟩ <;> assumption)) (first
            | (go_at_call 38; refine (TT.out _).mono ?_; rintro e_ w6 ⟨A6, c6, rfl, ho6, hb6'⟩; have hb6 : Below W.heap.size W w6 := ⟨hb6'.os, hb6'.tape, hb6'.output, hb6'.size, hb6'.block⟩; have ho6' : w6.ownsRow W.heap.size 70 4 (.slice A6 tl c6) tl (rowI (testL no op cm cvv ca ml)) := ho6; have p0 : w6.cell? ⟨w.heap.size, 3, none⟩ = some (.slice (some ⟨cg, co, none⟩) n c0) := keep_cell hb6 x0; have p1 : w6.cell? ⟨cg, co + i * 4, none⟩ = some (.int .i64 ca) := keep_cell hb6 x1; have p2 : w6.cell? ⟨w4.heap.size, 0, none⟩ = some (.bool false) := keep_cell hb6 x2; have p3 : w6.cell? ⟨w4.heap.size, 1, none⟩ = some (.bool false) := keep_cell hb6 x3; have p4 : w6.cell? ⟨w4.heap.size, 2, none⟩ = some (.bool no) := keep_cell hb6 x4; have p5 : w6.cell? ⟨w4.heap.size, 3, none⟩ = some (.int .i64 op) := keep_cell hb6 x5; have p6 : w6.cell? ⟨w4.heap.size, 4, none⟩ = some (.int .u64 cm) := keep_cell hb6 x6; have p7 : w6.cell? ⟨w4.heap.size, 5, none⟩ = some (.int .u64 cvv) := keep_cell hb6 x7; have Hb6 := Lib.hid hb6; have Ho6 := Lib.hid ho6'; have sz6 := hb6.size; clear ho6 hb6' ho6' hb6)
            | (refine step_append_src _ (by rfl) (Operand.tmp 45) (Operand.tmp 46) _ (by rfl) W.heap.size 70 i0 _ 4 8 under29 hi0 hz0 hz1 hz2 rfl (by decide) (.slice A6 tl c6) tl _ (by rfl) (by exact Ho6.out) A5 ml c5 (rowI l) (by rfl) (by exact HsrcL.out _ Hb6.out) (by unfold maxLen; omega) (by omega) (by first | omega | exact Hb6.out.size) ?_; intro v7 w7 hown7 hg7 hat7; obtain ⟨A7, c7, rfl⟩ := owns_form hown7; have b7 : Below W.heap.size W w7 := grownI0 Hb6.out (Nat.le_refl _) Ho6.out (by exact hg7); have z0 : w7.cell? ⟨w.heap.size, 3, none⟩ = some (.slice (some ⟨cg, co, none⟩) n c0) := keep_cell b7 x0; have z1 : w7.cell? ⟨cg, co + i * 4, none⟩ = some (.int .i64 ca) := keep_cell b7 x1; have z2 : w7.cell? ⟨w4.heap.size, 0, none⟩ = some (.bool false) := keep_cell b7 x2; have z3 : w7.cell? ⟨w4.heap.size, 1, none⟩ = some (.bool false) := keep_cell b7 x3; have z4 : w7.cell? ⟨w4.heap.size, 2, none⟩ = some (.bool no) := keep_cell b7 x4; have z5 : w7.cell? ⟨w4.heap.size, 3, none⟩ = some (.int .i64 op) := keep_cell b7 x5; have z6 : w7.cell? ⟨w4.heap.size, 4, none⟩ = some (.int .u64 cm) := keep_cell b7 x6; have z7 : w7.cell? ⟨w4.heap.size, 5, none⟩ = some (.int .u64 cvv) := keep_cell b7 x7; have Hown7 := Lib.hid hown7; have B7 := Lib.hid b7; clear hown7 hg7 hat7 b7)
            | fail)
          have HOwn : Hid (InsOwn w1.heap.size w7 (.slice A7 (tl + ml) c7) (testL no op cm cvv ca ml ++ l)) := Lib.hid (ownI_down (lo := W.heap.size) (by
            unfold InsOwn
            rw [List.length_append, Htl.out, Hml.out, rowI_append]
            exact Hown7.out) (by omega))
          have HBel : Hid (Below w1.heap.size w1 w7) := Lib.hid ((HB.out.trans (HbW.out.mono HB.out.size)).trans (B7.out.mono (Nat.le_trans HB.out.size hszW)))
          go_wp2
          go_roundw
          case rel => exact ⟨i, _, by omega, by go_num, HNext.out, HOwn.out, HBel.out⟩
          case measure => (simp [intOf] <;> omega)
end Go.Proofs.Ytjmmbadpknlmcaa
end
section
/- leaf: the instructions of one number. Condition: the plan can be read. -/
namespace Go.Proofs.Ytjmmbadpknlmcaa
open Go.RowKit
set_option linter.unusedVariables false
set_option linter.unusedSimpArgs false

/-- A slice of instructions that can be read. -/
def InsRd (w : World) (v : Value) (l : List Ins) : Prop :=
  ∃ A c, v = .slice A l.length c ∧ l.length ≤ c ∧ c ≤ 9223372036854775807 ∧ (0 < l.length → ∃ g o, A = some ⟨g, o, none⟩ ∧ ∀ (j : Nat) u, (rowI l)[j]? = some u → w.cell? ⟨g, o + j, none⟩ = some u)
theorem InsRd.below {w w' : World} {v : Value} {l : List Ins} (h : InsRd w v l) (hb : Below w.heap.size w w') : InsRd w' v l := by
  obtain ⟨A, c, e, h1, h2, h3⟩ := h
  refine ⟨A, c, e, h1, h2, fun h0 => ?_⟩
  obtain ⟨g, o, e2, hc⟩ := h3 h0
  exact ⟨g, o, e2, fun j u hu => keep_cell hb (hc j u hu)⟩
theorem InsOwn.rd {lo : Nat} {w : World} {v : Value} {l : List Ins} (h : InsOwn lo w v l) : InsRd w v l := by
  obtain ⟨hl, h2⟩ := h
  rcases h2 with ⟨rfl, h0⟩ | ⟨g, cap, cur, rfl, h4, h5, h6, h7, h8, h9⟩
  · exact ⟨none, 0, by rw [h0], by omega, by omega, fun h => by omega⟩
  · refine ⟨_, cap, rfl, h6, by unfold maxLen at h7; omega, fun _ => ⟨g, 0, rfl, fun j u hu => ?_⟩⟩
    rw [Nat.zero_add]
    unfold World.cell?
    rw [h5]
    show cur[j]? = some u
    rw [← h9, List.getElem?_take] at hu
    rw [← Array.getElem?_toList]
    split at hu
    · exact hu
    · cases hu
/-- Leaves that can be read. -/
def LvAt (w : World) (v : Value) (bs : List (List Ins)) : Prop :=
  ∃ A c, v = .slice A bs.length c ∧ ∀ (i : Nat) b, bs[i]? = some b → ∃ g o bv, A = some ⟨g, o, none⟩ ∧ w.cell? ⟨g, o + i, none⟩ = some bv ∧ InsRd w bv b
theorem LvAt.below {w w' : World} {v : Value} {bs : List (List Ins)} (h : LvAt w v bs) (hb : Below w.heap.size w w') : LvAt w' v bs := by
  obtain ⟨A, c, e, h1⟩ := h
  refine ⟨A, c, e, fun i b hi => ?_⟩
  obtain ⟨g, o, bv, e2, hc, hr⟩ := h1 i b hi
  exact ⟨g, o, bv, e2, keep_cell hb hc, hr.below hb⟩
theorem rowI_at {l : List Ins} {i j : Nat} {x : Ins} (h : l[i]? = some x) (hj : j < 4) : (rowI l)[i * 4 + j]? = x.cells.toList[j]? := by
  unfold rowI
  induction l generalizing i with
  | nil => simp at h
  | cons a r ih =>
    rw [List.flatMap_cons]
    cases i with
    | zero =>
      simp at h; subst h
      rw [Nat.zero_mul, Nat.zero_add, List.getElem?_append_left (by simp [Ins.cells]; omega)]
    | succ i =>
      rw [List.getElem?_append_right (by simp [Ins.cells]; omega)]
      have : (i + 1) * 4 + j - a.cells.toList.length = i * 4 + j := by simp [Ins.cells]; omega
      rw [this]
      exact ih (by simpa using h)
theorem rowI_take (l : List Ins) (n : Nat) : rowI (l.take n) = (rowI l).take (n * 4) := by
  induction l generalizing n with
  | nil => simp [rowI]
  | cons a r ih =>
    cases n with
    | zero => simp [rowI]
    | succ n =>
      rw [List.take_succ_cons, rowI_cons, rowI_cons, ih, List.take_append, List.take_of_length_le (l := a.cells.toList) (by simp [Ins.cells]; omega)]
      congr 2
      simp [Ins.cells]; omega
theorem grown_cell {w1 w2 : World} {own : Option Nat} {k j : Nat} (hg : w1.grownBy w2 own) (hk : k < w1.heap.size) (hne : own ≠ some k) : w2.cell? ⟨k, j, none⟩ = w1.cell? ⟨k, j, none⟩ := by
  unfold World.cell?
  rw [show w2.heap[(⟨k, j, none⟩ : Addr).block]? = w1.heap[(⟨k, j, none⟩ : Addr).block]? from hg.block k hk (Ne.symm hne)]
def leafL (nr : Int) (b : List Ins) : List Ins := [⟨21, 1, 0, nr⟩, ⟨5, 0, 0, (b.length : Int) - 1⟩] ++ b
theorem leaf_row {nr : Int} {b : List Ins} {q : Nat} {x : Ins} (hq : b.length = q + 1) (hx : b[q]? = some x) : rowI [⟨21, 1, 0, nr⟩, ⟨5, 0, 0, (q : Int)⟩] ++ (rowI b).take (q * 4) ++ x.cells.toList = rowI (leafL nr b) := by
  have hx' := List.getElem?_eq_some_iff.1 hx
  obtain ⟨hlt, hxe⟩ := hx'
  have e1 : b = b.take q ++ [x] := by
    have h1 : b.take (q + 1) = b.take q ++ [b[q]] := List.take_succ_eq_append_getElem hlt
    rw [hxe, List.take_of_length_le (by omega)] at h1
    exact h1
  unfold leafL
  rw [rowI_append, hq]
  have e2 : ((q + 1 : Nat) : Int) - 1 = (q : Int) := by omega
  rw [e2, List.append_assoc, ← rowI_take]
  congr 1
  conv => rhs; rw [e1]
  rw [rowI_append, rowI_one]
theorem leaf_end {w w6 : World} {nr : Int} {b : List Ins} {q lo : Nat} {x : Ins} {A : Option Addr} {c : Nat} (hq : b.length = q + 1) (hx : b[q]? = some x) (ho : w6.ownsRow lo 70 4 (.slice A (2 + q + 1) c) (2 + q + 1) (rowI [⟨21, 1, 0, nr⟩, ⟨5, 0, 0, (q : Int)⟩] ++ (rowI b).take (q * 4) ++ x.cells.toList)) (hlo : w.heap.size ≤ lo) (hb : Below w.heap.size w w6) : InsPost (leafL nr b) w (.returned (.slice A (2 + q + 1) c)) w6 := by
  have hl : (leafL nr b).length = 2 + q + 1 := by simp [leafL, hq]; omega
  rw [leaf_row hq hx] at ho
  refine ⟨A, c, by rw [hl], ?_, hb⟩
  rw [hl]
  exact ownI_down (lo := lo) (by unfold InsOwn; rw [hl]; exact ho) hlo
set_option maxRecDepth 100000 in
set_option maxHeartbeats 8000000 in
theorem leaf_any (nv lv : Value) (nrs : List Int) (bs : List (List Ins)) (i : Nat) (nr : Int) (b : List Ins) (w : World) (hn : NumsAt w nv nrs) (hl : LvAt w lv bs) (hi : nrs[i]? = some nr) (hb : bs[i]? = some b) (h0 : 0 < b.length) (hm : b.length ≤ 1000000) :
    Calls Try.prog 39 #[.agg #[nv, lv], .int .i64 i] w (InsPost (leafL nr b) w) := by
  obtain ⟨i0, hi0, hz0, hz1, hz2⟩ := info_parts info70
  have hil : i < nrs.length := (List.getElem?_eq_some_iff.1 hi).1
  have hil2 : i < bs.length := (List.getElem?_eq_some_iff.1 hb).1
  obtain ⟨nA, nc, rfl, hnc⟩ := hn
  obtain ⟨ng, no, rfl, hnc2⟩ := hnc (by omega)
  have c1 := hnc2 i nr hi
  obtain ⟨lA, lc, rfl, hlc⟩ := hl
  obtain ⟨lg, lo', bv, rfl, c2, hrd⟩ := hlc i b hb
  obtain ⟨bA, bc, rfl, hbc1, hbc2, hbc⟩ := hrd
  obtain ⟨bg, bo, rfl, hbc3⟩ := hbc h0
  obtain ⟨n1, hn1⟩ : ∃ n, nrs.length = n := ⟨_, rfl⟩
  obtain ⟨n2, hn2⟩ : ∃ n, bs.length = n := ⟨_, rfl⟩
  obtain ⟨q, hq⟩ : ∃ q, b.length = q + 1 := ⟨b.length - 1, by omega⟩
  rw [hn1] at hil ⊢
  rw [hn2] at hil2 ⊢
  rw [hq] at c2 hbc1 hm
  obtain ⟨x, hx⟩ : ∃ x, b[q]? = some x := ⟨_, List.getElem?_eq_getElem (by omega)⟩
  have hb0 := below_alloc w (.cells #[.slice (some ⟨ng, no, none⟩) n1 nc, .slice (some ⟨lg, lo', none⟩) n2 lc] 64)
  have r0 := new_cell w #[.slice (some ⟨ng, no, none⟩) n1 nc, .slice (some ⟨lg, lo', none⟩) n2 lc] 64 0 rfl
  have r1 := new_cell w #[.slice (some ⟨ng, no, none⟩) n1 nc, .slice (some ⟨lg, lo', none⟩) n2 lc] 64 1 rfl
  obtain ⟨W0, hW0⟩ : ∃ W0, w.alloc (.cells #[.slice (some ⟨ng, no, none⟩) n1 nc, .slice (some ⟨lg, lo', none⟩) n2 lc] 64) = W0 := ⟨_, rfl⟩
  rw [hW0] at hb0 r0 r1
  have r0' : W0.cell? ⟨w.heap.size, 0, none⟩ = some (.slice (some ⟨ng, no, none⟩) n1 nc) := r0
  have r1' : W0.cell? ⟨w.heap.size, 1, none⟩ = some (.slice (some ⟨lg, lo', none⟩) n2 lc) := r1
  have c1' := keep_cell hb0 c1
  have c2' := keep_cell hb0 c2
  have hbc' : ∀ (j : Nat) u, (rowI b)[j]? = some u → W0.cell? ⟨bg, bo + j, none⟩ = some u := fun j u hu => keep_cell hb0 (hbc3 j u hu)
  have hx4 : ∀ j, j < 4 → ∀ u, x.cells.toList[j]? = some u → W0.cell? ⟨bg, bo + (q * 4 + j), none⟩ = some u := fun j hj u hu => hbc' _ u (by rw [rowI_at hx hj]; exact hu)
  obtain ⟨xc, xt, xf, xk⟩ := x
  have d0 : W0.cell? ⟨bg, bo + q * 4, none⟩ = some (.int .u16 xc) := hx4 0 (by omega) _ rfl
  have d1 : W0.cell? ⟨bg, bo + q * 4 + 1, none⟩ = some (.int .u8 xt) := hx4 1 (by omega) _ rfl
  have d2 : W0.cell? ⟨bg, bo + q * 4 + 2, none⟩ = some (.int .u8 xf) := hx4 2 (by omega) _ rfl
  have d3 : W0.cell? ⟨bg, bo + q * 4 + 3, none⟩ = some (.int .u32 xk) := hx4 3 (by omega) _ rfl
  have Hbc := Lib.hid hbc'
  have Hx := Lib.hid hx
  have Hq := Lib.hid hq
  have Hb0 := Lib.hid hb0
  have r0a := fun ob => keep_cell (below_alloc W0 ob) r0'
  have c1a := fun ob => keep_cell (below_alloc W0 ob) c1'
  have hil' : (i : Int) < n1 := by omega
  have hil2' : (i : Int) < n2 := by omega
  have hqc : (q : Int) ≤ bc := by omega
  clear hi hb hnc hnc2 hlc hbc hbc3 hbc' hx4 hx hq hb0 r0 r1 c1 c2
  go_enter Try.func39, Try.ntmps39
  go_upto_region 4 with (fail)
  have hs1 : (W0.alloc (.cells #[.int .u16 xc, .int .u8 xt, .int .u8 xf, .int .u32 xk] 70)).heap.size = W0.heap.size + 1 := by simp
  have hbW1 := below_alloc W0 (.cells #[.int .u16 xc, .int .u8 xt, .int .u8 xf, .int .u32 xk] 70)
  have hbW2 := below_alloc (W0.alloc (.cells #[.int .u16 xc, .int .u8 xt, .int .u8 xf, .int .u32 xk] 70)) (.cells #[.int .u16 21, .int .u8 1, .int .u8 0, .int .u32 nr, .int .u16 5, .int .u8 0, .int .u8 0, .int .u32 q] 70)
  have o2 : InsOwn (W0.heap.size + 1) ((W0.alloc (.cells #[.int .u16 xc, .int .u8 xt, .int .u8 xf, .int .u32 xk] 70)).alloc (.cells #[.int .u16 21, .int .u8 1, .int .u8 0, .int .u32 nr, .int .u16 5, .int .u8 0, .int .u8 0, .int .u32 q] 70)) (.slice (some ⟨W0.heap.size + 1, 0, none⟩) 2 2) [⟨21, 1, 0, nr⟩, ⟨5, 0, 0, q⟩] := own_new (w := W0.alloc _) hs1 rfl rfl (by simp) (by simp)
  obtain ⟨W, hW⟩ : ∃ W, (W0.alloc (.cells #[.int .u16 xc, .int .u8 xt, .int .u8 xf, .int .u32 xk] 70)).alloc (.cells #[.int .u16 21, .int .u8 1, .int .u8 0, .int .u32 nr, .int .u16 5, .int .u8 0, .int .u8 0, .int .u32 q] 70) = W := ⟨_, rfl⟩
  rw [hW] at o2 hbW2 ⊢
  have m0 : W.cell? ⟨W0.heap.size, 0, none⟩ = some (.int .u16 xc) := keep_cell hbW2 (new_cell W0 #[.int .u16 xc, .int .u8 xt, .int .u8 xf, .int .u32 xk] 70 0 rfl)
  have m1 : W.cell? ⟨W0.heap.size, 1, none⟩ = some (.int .u8 xt) := keep_cell hbW2 (new_cell W0 #[.int .u16 xc, .int .u8 xt, .int .u8 xf, .int .u32 xk] 70 1 rfl)
  have m2 : W.cell? ⟨W0.heap.size, 2, none⟩ = some (.int .u8 xf) := keep_cell hbW2 (new_cell W0 #[.int .u16 xc, .int .u8 xt, .int .u8 xf, .int .u32 xk] 70 2 rfl)
  have m3 : W.cell? ⟨W0.heap.size, 3, none⟩ = some (.int .u32 xk) := keep_cell hbW2 (new_cell W0 #[.int .u16 xc, .int .u8 xt, .int .u8 xf, .int .u32 xk] 70 3 rfl)
  have hbW : Below W0.heap.size W0 W := hbW1.trans (hbW2.mono (by simp))
  have hszW : W.heap.size = W0.heap.size + 1 + 1 := by rw [← hW]; simp
  have HsrcB : Hid (∀ W', Below W.heap.size W W' → SrcAt W' 4 (some ⟨bg, bo, none⟩) q ((rowI b).take (q * 4))) := Lib.hid (fun W' hb => ⟨by rw [List.length_take, rowI_len, Hq.out]; omega, fun _ => ⟨bg, bo, rfl, fun j u hu => by
    have hj : j < q * 4 := by have := (List.getElem?_eq_some_iff.1 hu).1; simp at this; omega
    rw [List.getElem?_take_of_lt hj] at hu
    exact keep_cell hb (keep_cell hbW (Hbc.out j u hu))⟩, fun u hu => rowI_cells b u (List.mem_of_mem_take hu)⟩)
  have HO2 : Hid (∀ W', Below W.heap.size W W' → W'.ownsRow (W0.heap.size + 1) 70 4 (.slice (some ⟨W0.heap.size + 1, 0, none⟩) 2 2) 2 (rowI [⟨21, 1, 0, nr⟩, ⟨5, 0, 0, q⟩])) := Lib.hid (fun W' hb => own_low o2 hb)
  have HbW := Lib.hid hbW
  clear hW o2 hbW1 hbW2 hbW r0' r1' c1' c2' d0 d1 d2 d3 r0a c1a hs1
  have hwr3 : IntKind.i64.wrap (q : Int) = (q : Int) := IntWalk.i64_in _ (by omega)
  have hqn : q ≤ bc := by omega
  have hq0 : (0 : Int) ≤ (q : Int) := by omega
  have hqE : ((q : Int) ≤ (bc : Int)) = True := eq_true hqc
  have hqnE : (q ≤ bc) = True := eq_true hqn
  go_wp2
  go_region_law (first
    | (refine step_append_src _ (by rfl) (Operand.tmp 31) (Operand.tmp 36) _ (by rfl) (W0.heap.size + 1) 70 i0 _ 4 8 under29 hi0 hz0 hz1 hz2 rfl (by decide) (.slice (some ⟨W0.heap.size + 1, 0, none⟩) 2 2) 2 _ (by rfl) (HO2.out _ (by first | exact Below.refl _ _ | exact (Below.refl _ _).drew | exact (Below.refl _ _).drew.drew)) (some ⟨bg, bo, none⟩) q bc _ (by rfl) (HsrcB.out _ (by first | exact Below.refl _ _ | exact (Below.refl _ _).drew | exact (Below.refl _ _).drew.drew)) (by unfold maxLen; omega) (by omega) (by first | omega | (simp <;> omega)) ?_; intro v5 w5 hown5 hg5 hat5; obtain ⟨A5, c5, rfl⟩ := owns_form hown5; have b5 : Below (W0.heap.size + 1) W w5 := (by refine grownI0 (Below.mono ?_ (show W0.heap.size + 1 ≤ W.heap.size by omega)) (by omega) (HO2.out _ (by first | exact Below.refl _ _ | exact (Below.refl _ _).drew | exact (Below.refl _ _).drew.drew)) hg5; first | exact Below.refl _ _ | exact (Below.refl _ _).drew | exact (Below.refl _ _).drew.drew); have n0 : w5.cell? ⟨W0.heap.size, 0, none⟩ = some (.int .u16 xc) := (b5.cell (show W0.heap.size < W0.heap.size + 1 from Nat.lt_succ_self _)).trans m0; have n1 : w5.cell? ⟨W0.heap.size, 1, none⟩ = some (.int .u8 xt) := (b5.cell (show W0.heap.size < W0.heap.size + 1 from Nat.lt_succ_self _)).trans m1; have n2 : w5.cell? ⟨W0.heap.size, 2, none⟩ = some (.int .u8 xf) := (b5.cell (show W0.heap.size < W0.heap.size + 1 from Nat.lt_succ_self _)).trans m2; have n3 : w5.cell? ⟨W0.heap.size, 3, none⟩ = some (.int .u32 xk) := (b5.cell (show W0.heap.size < W0.heap.size + 1 from Nat.lt_succ_self _)).trans m3; have Hown5 := Lib.hid hown5; have B5 := Lib.hid b5; have sz5 := b5.size; clear hown5 hg5 hat5 b5)
    | (refine step_append_src _ (by rfl) (Operand.tmp 37) (Operand.tmp 39) _ (by rfl) (W0.heap.size + 1) 70 i0 _ 4 8 under29 hi0 hz0 hz1 hz2 rfl (by decide) (.slice A5 (2 + q) c5) (2 + q) _ (by rfl) (by first | exact Hown5.out.alloc _ | exact Hown5.out) (some ⟨w5.heap.size, 0, none⟩) 1 1 [.int .u16 xc, .int .u8 xt, .int .u8 xf, .int .u32 xk] (by rfl) ⟨rfl, fun _ => ⟨w5.heap.size, 0, rfl, fun j u hu => by rw [Nat.zero_add]; exact new_cell w5 #[.int .u16 xc, .int .u8 xt, .int .u8 xf, .int .u32 xk] 70 j (by rw [← Array.getElem?_toList]; exact hu)⟩, by simp [Value.oneCell']⟩ (by unfold maxLen; omega) (by omega) (by first | omega | (simp <;> omega)) ?_; intro v6 w6 hown6 hg6 hat6; obtain ⟨A6, c6, rfl⟩ := owns_form hown6; have b6 : Below (W0.heap.size + 1) W w6 := grownI B5.out (by omega) Hown5.out (by exact hg6); have Hown6 := Lib.hid hown6; have B6 := Lib.hid b6; clear hown6 hg6 hat6 b6)
    | (refine step_append_src _ (by rfl) (Operand.tmp 31) (Operand.tmp 36) _ (by rfl) (W0.heap.size + 1) 70 i0 _ 4 8 under29 hi0 hz0 hz1 hz2 rfl (by decide) (.slice (some ⟨W0.heap.size + 1, 0, none⟩) 2 2) 2 _ (by rfl) (HO2.out _ (by first | exact ((Below.refl _ _).alloc (Nat.le_refl _) _).drew | exact (Below.refl _ _).drew.alloc (Nat.le_refl _) _ | exact ((Below.refl _ _).alloc (Nat.le_refl _) _) | exact ((Below.refl _ _).drew.alloc (Nat.le_refl _) _).drew)) (some ⟨bg, bo, none⟩) q bc _ (by rfl) (HsrcB.out _ (by first | exact ((Below.refl _ _).alloc (Nat.le_refl _) _).drew | exact (Below.refl _ _).drew.alloc (Nat.le_refl _) _ | exact ((Below.refl _ _).alloc (Nat.le_refl _) _) | exact ((Below.refl _ _).drew.alloc (Nat.le_refl _) _).drew)) (by unfold maxLen; omega) (by omega) (by first | omega | (simp <;> omega)) ?_; intro v5 w5 hown5 hg5 hat5; obtain ⟨A5, c5, rfl⟩ := owns_form hown5; have b5 : Below (W0.heap.size + 1) W w5 := (by refine grownI0 (Below.mono ?_ (show W0.heap.size + 1 ≤ W.heap.size by omega)) (by omega) (HO2.out _ (by first | exact ((Below.refl _ _).alloc (Nat.le_refl _) _).drew | exact (Below.refl _ _).drew.alloc (Nat.le_refl _) _ | exact ((Below.refl _ _).alloc (Nat.le_refl _) _) | exact ((Below.refl _ _).drew.alloc (Nat.le_refl _) _).drew)) hg5; first | exact ((Below.refl _ _).alloc (Nat.le_refl _) _).drew | exact (Below.refl _ _).drew.alloc (Nat.le_refl _) _ | exact ((Below.refl _ _).alloc (Nat.le_refl _) _) | exact ((Below.refl _ _).drew.alloc (Nat.le_refl _) _).drew); have n0 : w5.cell? ⟨W0.heap.size, 0, none⟩ = some (.int .u16 xc) := (b5.cell (show W0.heap.size < W0.heap.size + 1 from Nat.lt_succ_self _)).trans m0; have n1 : w5.cell? ⟨W0.heap.size, 1, none⟩ = some (.int .u8 xt) := (b5.cell (show W0.heap.size < W0.heap.size + 1 from Nat.lt_succ_self _)).trans m1; have n2 : w5.cell? ⟨W0.heap.size, 2, none⟩ = some (.int .u8 xf) := (b5.cell (show W0.heap.size < W0.heap.size + 1 from Nat.lt_succ_self _)).trans m2; have n3 : w5.cell? ⟨W0.heap.size, 3, none⟩ = some (.int .u32 xk) := (b5.cell (show W0.heap.size < W0.heap.size + 1 from Nat.lt_succ_self _)).trans m3; have Hown5 := Lib.hid hown5; have B5 := Lib.hid b5; have sz5 := b5.size; have k5 : ∀ (j : Nat) u, [Value.int .u16 xc, .int .u8 xt, .int .u8 xf, .int .u32 xk][j]? = some u → w5.cell? ⟨W0.heap.size + 1 + 1, j, none⟩ = some u := (fun j u hu => by refine (grown_cell hg5 (by first | omega | (simp <;> omega)) (fun e => by simp [Value.ownBlock] at e)).trans ?_; rw [← hszW]; exact new_cell W #[.int .u16 xc, .int .u8 xt, .int .u8 xf, .int .u32 xk] 70 j (by rw [← Array.getElem?_toList]; exact hu)); clear hown5 hg5 hat5 b5)
    | (refine step_append_src _ (by rfl) (Operand.tmp 37) (Operand.tmp 39) _ (by rfl) (W0.heap.size + 1) 70 i0 _ 4 8 under29 hi0 hz0 hz1 hz2 rfl (by decide) (.slice A5 (2 + q) c5) (2 + q) _ (by rfl) (by first | exact Hown5.out.alloc _ | exact Hown5.out) (some ⟨W0.heap.size + 1 + 1, 0, none⟩) 1 1 [.int .u16 xc, .int .u8 xt, .int .u8 xf, .int .u32 xk] (by rfl) ⟨rfl, fun _ => ⟨W0.heap.size + 1 + 1, 0, rfl, fun j u hu => by rw [Nat.zero_add]; exact k5 j u hu⟩, by simp [Value.oneCell']⟩ (by unfold maxLen; omega) (by omega) (by first | omega | (simp <;> omega)) ?_; intro v6 w6 hown6 hg6 hat6; obtain ⟨A6, c6, rfl⟩ := owns_form hown6; have b6 : Below (W0.heap.size + 1) W w6 := grownI0 B5.out (by omega) Hown5.out (by exact hg6); have Hown6 := Lib.hid hown6; have B6 := Lib.hid b6; clear hown6 hg6 hat6 b6)
    | fail)
  all_goals (
    have hfin : InsPost (leafL nr b) w (.returned (.slice A6 (2 + q + 1) c6)) w6 := leaf_end Hq.out Hx.out (Hown6.out) (by have := Hb0.out.size; omega) ((Hb0.out.trans (HbW.out.mono Hb0.out.size)).trans (B6.out.mono (by have := Hb0.out.size; omega)))
    have HFin := Lib.hid hfin
    clear hfin
    go_wp2
    go_ret
    exact HFin.out)
end Go.Proofs.Ytjmmbadpknlmcaa
end
section
/- part: the search among numbers. Condition: the plan can be read. -/
namespace Go.Proofs.Ytjmmbadpknlmcaa
open Go.RowKit
set_option linter.unusedVariables false
set_option linter.unusedSimpArgs false
attribute [local go_sem ↓] Go.wp_at_zero Go.wp_at_succ

def partL (nrs : List Int) (bs : List (List Ins)) (lo hi : Nat) : List Ins :=
  if h : hi - lo ≤ 1 then leafL (nrs.getD lo 0) (bs.getD lo []) else
    [⟨53, 0, 1, nrs.getD (lo + (hi - lo) / 2) 0⟩, ⟨5, 0, 0, ((partL nrs bs lo (lo + (hi - lo) / 2)).length : Int)⟩] ++ partL nrs bs lo (lo + (hi - lo) / 2) ++ partL nrs bs (lo + (hi - lo) / 2) hi
termination_by hi - lo
decreasing_by all_goals omega
theorem partL_one {nrs : List Int} {bs : List (List Ins)} {lo hi : Nat} (h : hi - lo ≤ 1) : partL nrs bs lo hi = leafL (nrs.getD lo 0) (bs.getD lo []) := by
  rw [partL, dif_pos h]
theorem partL_two {nrs : List Int} {bs : List (List Ins)} {lo hi m : Nat} (h : ¬ hi - lo ≤ 1) (hm : m = lo + (hi - lo) / 2) : partL nrs bs lo hi = [⟨53, 0, 1, nrs.getD m 0⟩, ⟨5, 0, 0, ((partL nrs bs lo m).length : Int)⟩] ++ partL nrs bs lo m ++ partL nrs bs m hi := by
  subst hm
  rw [partL, dif_neg h]
theorem leafL_len (nr : Int) (b : List Ins) : (leafL nr b).length = b.length + 2 := by simp [leafL]
theorem partL_len (nrs : List Int) (bs : List (List Ins)) (M : Nat) (hM : ∀ i, (bs.getD i []).length ≤ M) : ∀ d lo hi, hi - lo = d → lo < hi → (partL nrs bs lo hi).length + 2 ≤ d * (M + 4) := by
  intro d
  induction d using Nat.strongRecOn with
  | _ d ih =>
    intro lo hi hd hlt
    by_cases h : hi - lo ≤ 1
    · rw [partL_one h, leafL_len]
      have : d = 1 := by omega
      subst this
      have := hM lo
      omega
    · obtain ⟨m, hm⟩ : ∃ m, m = lo + (hi - lo) / 2 := ⟨_, rfl⟩
      rw [partL_two h hm]
      have h1 := ih (m - lo) (by omega) lo m rfl (by omega)
      have h2 := ih (hi - m) (by omega) m hi rfl (by omega)
      rw [List.length_append, List.length_append]
      have e : d = (m - lo) + (hi - m) := by omega
      rw [e, Nat.add_mul]
      simp only [List.length_cons, List.length_nil]
      omega
/-- What an append reads stands behind another append onto a fresh row. -/
theorem grownSrc {w w' : World} {B n size m : Nat} {v : Value} {xs news : List Value} {A : Option Addr} (h : SrcAt w size A m news) (hg : w.grownBy w' v.ownBlock) (ho : w.ownsRow B 70 4 v n xs) (hA : ∀ g o, A = some ⟨g, o, none⟩ → g < B) : SrcAt w' size A m news := by
  obtain ⟨h1, h2, h3⟩ := h
  refine ⟨h1, fun h0 => ?_, h3⟩
  obtain ⟨g, o, e, hc⟩ := h2 h0
  refine ⟨g, o, e, fun j u hu => ?_⟩
  have hcj := hc j u hu
  exact (grown_cell hg (World.block_lt_of_cell? w _ hcj) (fun e2 => by have := (own_at (g := 0) (c := 0) (A := none) ho (k := g) e2).1; have := hA g o e; omega)).trans hcj
set_option maxRecDepth 100000 in
set_option maxHeartbeats 8000000 in
theorem part_any (nrs : List Int) (bs : List (List Ins)) (nv lv : Value) (hlen : bs.length = nrs.length) (h2000 : nrs.length ≤ 2000) (hbs : ∀ b ∈ bs, 0 < b.length ∧ b.length ≤ 100000) : ∀ (d lo hi : Nat), hi - lo = d → lo < hi → hi ≤ nrs.length → ∀ (w : World), NumsAt w nv nrs → LvAt w lv bs →
    Calls Try.prog 23 #[.agg #[nv, lv], .int .i64 lo, .int .i64 hi] w (InsPost (partL nrs bs lo hi) w) := by
  obtain ⟨i0, hi0, hz0, hz1, hz2⟩ := info_parts info70
  have hM : ∀ i, (bs.getD i []).length ≤ 100000 := fun i => by
    rw [List.getD_eq_getElem?_getD]
    cases he : bs[i]? with
    | none => simp
    | some b => simpa using (hbs b (List.mem_of_getElem? he)).2
  intro d
  induction d using Nat.strongRecOn with
  | _ d ih =>
    intro lo hi hd hlt hhi w hn hl
    have hb0 := below_alloc w (.cells #[nv, lv] 64)
    have r0 := new_cell w #[nv, lv] 64 0 rfl
    have r1 := new_cell w #[nv, lv] 64 1 rfl
    obtain ⟨W0, hW0⟩ : ∃ W0, w.alloc (.cells #[nv, lv] 64) = W0 := ⟨_, rfl⟩
    rw [hW0] at hb0 r0 r1
    have r0' : W0.cell? ⟨w.heap.size, 0, none⟩ = some nv := r0
    have r1' : W0.cell? ⟨w.heap.size, 1, none⟩ = some lv := r1
    have hsz0 : W0.heap.size = w.heap.size + 1 := by rw [← hW0]; simp
    by_cases h : hi - lo ≤ 1
    · rw [partL_one h]
      obtain ⟨nr, hnr⟩ : ∃ x, nrs[lo]? = some x := ⟨_, List.getElem?_eq_getElem (by omega)⟩
      obtain ⟨b, hb⟩ : ∃ x, bs[lo]? = some x := ⟨_, List.getElem?_eq_getElem (by omega)⟩
      have hbm := hbs b (List.mem_of_getElem? hb)
      have C := leaf_any nv lv nrs bs lo nr b W0 (nums_below hn hb0) (hl.below hb0) hnr hb hbm.1 (by omega)
      have e1 : nrs.getD lo 0 = nr := by rw [List.getD_eq_getElem?_getD, hnr]; rfl
      have e2 : bs.getD lo [] = b := by rw [List.getD_eq_getElem?_getD, hb]; rfl
      rw [e1, e2]
      have hiE : (hi : Int) = lo + 1 := by omega
      have hin : (lo : Int) + 1 ≤ 2000 := by omega
      have hlo0 : (0 : Int) ≤ lo := by omega
      have Hb0 := Lib.hid hb0
      have HC := Lib.hid C
      rw [hiE]
      clear ih hbs hM hn hl r0 r1 hlen hd hlt hhi h hnr hb hbm C e1 e2 hb0
      go_enter Try.func23, Try.ntmps23
      go_wp2_with (go_at_call 39; (with_reducible refine HC.out.mono ?_); rintro e_ w5 ⟨A5, c5, rfl, ho5, hb5⟩; have HP : Hid (InsPost (leafL nr b) w (.returned (.slice A5 (leafL nr b).length c5)) w5) := Lib.hid ⟨A5, c5, rfl, ownI_down ho5 Hb0.out.size, Hb0.out.trans (hb5.mono Hb0.out.size)⟩; clear ho5 hb5)
      go_ret
      exact HP.out
    · obtain ⟨m, hm⟩ : ∃ m, m = lo + (hi - lo) / 2 := ⟨_, rfl⟩
      rw [partL_two h hm]
      obtain ⟨k1, hk1⟩ : ∃ k, (partL nrs bs lo m).length = k := ⟨_, rfl⟩
      obtain ⟨k2, hk2⟩ : ∃ k, (partL nrs bs m hi).length = k := ⟨_, rfl⟩
      have hb1 : k1 + 2 ≤ (m - lo) * (100000 + 4) := by rw [← hk1]; exact partL_len nrs bs 100000 hM _ lo m rfl (by omega)
      have hb2 : k2 + 2 ≤ (hi - m) * (100000 + 4) := by rw [← hk2]; exact partL_len nrs bs 100000 hM _ m hi rfl (by omega)
      have hk1b : k1 ≤ 300000000 := by omega
      have hk2b : k2 ≤ 300000000 := by omega
      obtain ⟨nr, hnr⟩ : ∃ x, nrs[m]? = some x := ⟨_, List.getElem?_eq_getElem (by omega)⟩
      have e1 : nrs.getD m 0 = nr := by rw [List.getD_eq_getElem?_getD, hnr]; rfl
      rw [e1]
      obtain ⟨L1, hL1⟩ : ∃ L, partL nrs bs lo m = L := ⟨_, rfl⟩
      obtain ⟨L2, hL2⟩ : ∃ L, partL nrs bs m hi = L := ⟨_, rfl⟩
      have C1 : Hid (∀ W', Below W0.heap.size W0 W' → Calls Try.prog 23 #[.agg #[nv, lv], .int .i64 lo, .int .i64 m] W' (OneI W'.heap.size k1 L1 W')) := Lib.hid (fun W' hb => by rw [← hk1, ← hL1]; exact ih (m - lo) (by omega) lo m rfl (by omega) (by omega) W' (nums_below (nums_below hn hb0) hb) ((hl.below hb0).below hb))
      have C2 : Hid (∀ W', Below W0.heap.size W0 W' → Calls Try.prog 23 #[.agg #[nv, lv], .int .i64 m, .int .i64 hi] W' (OneI W'.heap.size k2 L2 W')) := Lib.hid (fun W' hb => by rw [← hk2, ← hL2]; exact ih (hi - m) (by omega) m hi rfl (by omega) (by omega) W' (nums_below (nums_below hn hb0) hb) ((hl.below hb0).below hb))
      rw [hL1] at hk1
      rw [hL2] at hk2
      rw [hL1, hL2, hk1]
      have hnW := nums_below hn hb0
      obtain ⟨nA, nc, rfl, hnc⟩ := hnW
      obtain ⟨ng, no, rfl, hnc2⟩ := hnc (by omega)
      have cm := hnc2 m nr hnr
      obtain ⟨n, hnl⟩ : ∃ n, nrs.length = n := ⟨_, rfl⟩
      rw [hnl] at C1 C2 r0' hhi h2000 hW0 ⊢
      have Hk1 := Lib.hid hk1
      have Hk2 := Lib.hid hk2
      have Hb0 := Lib.hid hb0
      have hne : ¬ (hi : Int) - lo = 1 := by omega
      have hwd : IntKind.i64.wrap ((hi : Int) - lo) = (hi : Int) - lo := IntWalk.i64_in _ (by omega)
      have hdv : ((hi : Int) - lo).tdiv 2 = (d : Int) / 2 := by
        rw [show (hi : Int) - lo = ((d : Nat) : Int) by omega, Int.tdiv_eq_ediv_of_nonneg (by omega)]
      have hmlt : (m : Int) < n := by omega
      clear ih hbs hM hn hl hnc hnc2 hk1 hk2 hb0 r0 r1 hlen hnr e1 hb1 hb2 hnl hL1 hL2
      go_enter Try.func23, Try.ntmps23
      go_upto_region 4 with (fail)
      try rw [hW0]
      rw [show (lo : Int) + (d : Int) / 2 = (m : Int) by omega]
      have hmm : m < hi := by omega
      have hml : lo < m := by omega
      have dr0 : W0.drew.cell? ⟨w.heap.size, 0, none⟩ = some (.slice (some ⟨ng, no, none⟩) n nc) := r0'
      have dr1 : W0.drew.cell? ⟨w.heap.size, 1, none⟩ = some lv := r1'
      clear hd hm hdv hwd hne
      go_region_held3 (fun w' => w'.cell? ⟨w.heap.size, 0, none⟩ = some (.slice (some ⟨ng, no, none⟩) n nc) ∧ w'.cell? ⟨w.heap.size, 1, none⟩ = some lv) ((first | (refine ⟨?_, ?_⟩ <;> assumption) | exact ⟨keep_cell (below_alloc _ _) q0, keep_cell (below_alloc _ _) q1⟩)) (first
        | (go_at_call 23; (with_reducible refine (C1.out W0.drew (Below.refl _ _).drew).mono ?_); rintro e_ w5 ⟨A5, c5, rfl, ho5', hb5'⟩; have hb5 : Below W0.heap.size W0 w5 := ⟨hb5'.os, hb5'.tape, hb5'.output, hb5'.size, hb5'.block⟩; have ho5 : w5.ownsRow W0.heap.size 70 4 (.slice A5 k1 c5) k1 (rowI L1) := ho5'; have p0 : w5.cell? ⟨w.heap.size, 0, none⟩ = some (.slice (some ⟨ng, no, none⟩) n nc) := keep_cell hb5 r0'; have p1 : w5.cell? ⟨w.heap.size, 1, none⟩ = some lv := keep_cell hb5 r1'; have Hb5 := Lib.hid hb5; have Ho5 := Lib.hid ho5; have sz5 := hb5.size; clear ho5 hb5' ho5' hb5)
        | (go_at_call 23; (with_reducible refine (C2.out w5 Hb5.out).mono ?_); rintro e_ w6 ⟨A6, c6, rfl, ho6, hb6⟩; have q0 : w6.cell? ⟨w.heap.size, 0, none⟩ = some (.slice (some ⟨ng, no, none⟩) n nc) := keep_cell hb6 p0; have q1 : w6.cell? ⟨w.heap.size, 1, none⟩ = some lv := keep_cell hb6 p1; have Hb6 := Lib.hid hb6; have Ho6 := Lib.hid ho6; have sz6 := hb6.size; clear ho6 hb6)
        | fail)
      have b6 : Below W0.heap.size W0 w6 := Hb5.out.trans (Hb6.out.mono Hb5.out.size)
      have hcmw := keep_cell b6 cm
      have ha := below_alloc w6 (.cells #[.slice A5 k1 c5, .slice A6 k2 c6] 29)
      have x0 := keep_cell ha q0
      have x1 := keep_cell ha hcmw
      have x2 := new_cell w6 #[.slice A5 k1 c5, .slice A6 k2 c6] 29 0 rfl
      have x3 := new_cell w6 #[.slice A5 k1 c5, .slice A6 k2 c6] 29 1 rfl
      have hbX := b6.trans (ha.mono b6.size)
      have hoX5 := (own_low (own_low Ho5.out Hb6.out) ha)
      have hoX6 := (own_low Ho6.out ha)
      have hszX : (w6.alloc (.cells #[.slice A5 k1 c5, .slice A6 k2 c6] 29)).heap.size = w6.heap.size + 1 := by simp
      obtain ⟨X, hX⟩ : ∃ X, w6.alloc (.cells #[.slice A5 k1 c5, .slice A6 k2 c6] 29) = X := ⟨_, rfl⟩
      rw [hX] at x0 x1 x2 x3 hbX hoX5 hoX6 hszX
      rw [hX]
      have x2' : X.cell? ⟨w6.heap.size, 0, none⟩ = some (.slice A5 k1 c5) := x2
      have x3' : X.cell? ⟨w6.heap.size, 1, none⟩ = some (.slice A6 k2 c6) := x3
      have HbX := Lib.hid hbX
      have HoX5 := Lib.hid hoX5
      have HoX6 := Lib.hid hoX6
      have y0 : X.drew.cell? ⟨w.heap.size, 0, none⟩ = some (.slice (some ⟨ng, no, none⟩) n nc) := x0
      have y1 : X.drew.cell? ⟨ng, no + m, none⟩ = some (.int .u32 nr) := x1
      have y2 : X.drew.cell? ⟨w6.heap.size, 0, none⟩ = some (.slice A5 k1 c5) := x2
      have hwk : IntKind.u32.wrap (k1 : Int) = k1 := by rw [IntKind.wrap_u32]; omega
      clear b6 hcmw ha hbX hoX5 hoX6 hX x2 x3 q0 q1 p0 p1 dr0 dr1 r0' r1' cm
      go_upto_region 5 with (fail)
      go_region_held3 (fun w' => w'.cell? ⟨w.heap.size, 0, none⟩ = some (.slice (some ⟨ng, no, none⟩) n nc) ∧ w'.cell? ⟨ng, no + m, none⟩ = some (.int .u32 nr) ∧ w'.cell? ⟨w6.heap.size, 0, none⟩ = some (.slice A5 k1 c5)) ((first | (refine ⟨?_, ?_, ?_⟩ <;> assumption) | exact ⟨keep_cell (below_alloc _ _) y0, keep_cell (below_alloc _ _) y1, keep_cell (below_alloc _ _) y2⟩)) (fail)
      have haY := below_alloc X (.cells #[.int .u16 53, .int .u8 0, .int .u8 1, .int .u32 nr, .int .u16 5, .int .u8 0, .int .u8 0, .int .u32 (k1 : Int)] 70)
      have bY : Below X.heap.size X (X.alloc (.cells #[.int .u16 53, .int .u8 0, .int .u8 1, .int .u32 nr, .int .u16 5, .int .u8 0, .int .u8 0, .int .u32 (k1 : Int)] 70)).drew := haY.drew
      have hoY0 : InsOwn X.heap.size (X.alloc (.cells #[.int .u16 53, .int .u8 0, .int .u8 1, .int .u32 nr, .int .u16 5, .int .u8 0, .int .u8 0, .int .u32 (k1 : Int)] 70)) (.slice (some ⟨X.heap.size, 0, none⟩) 2 2) [⟨53, 0, 1, nr⟩, ⟨5, 0, 0, (k1 : Int)⟩] := own_new rfl rfl rfl (Nat.le_refl _) (by simp)
      have hoY : World.ownsRow (X.alloc (.cells #[.int .u16 53, .int .u8 0, .int .u8 1, .int .u32 nr, .int .u16 5, .int .u8 0, .int .u8 0, .int .u32 (k1 : Int)] 70)).drew X.heap.size 70 4 (.slice (some ⟨X.heap.size, 0, none⟩) 2 2) 2 (rowI [⟨53, 0, 1, nr⟩, ⟨5, 0, 0, (k1 : Int)⟩]) := own_low hoY0 (Below.refl _ _).drew
      have z2 := keep_cell bY x2'
      have z3 := keep_cell bY x3'
      have hs5 := src_own (own_low HoX5.out bY) (rowI_cells L1)
      have hA6 : ∀ g o, A6 = some ⟨g, o, none⟩ → g < w6.heap.size + 1 := fun g o e => by subst e; have := (own_at (g := 0) (c := 0) (A := none) Ho6.out (k := g) rfl).2; omega
      have HA6 := Lib.hid hA6
      clear hA6
      have hs6 := src_own (own_low HoX6.out bY) (rowI_cells L2)
      have hszY : (X.alloc (.cells #[.int .u16 53, .int .u8 0, .int .u8 1, .int .u32 nr, .int .u16 5, .int .u8 0, .int .u8 0, .int .u32 (k1 : Int)] 70)).drew.heap.size = w6.heap.size + 1 + 1 := by simp [hszX]
      rw [hszX] at hoY
      obtain ⟨Y, hY⟩ : ∃ Y, (X.alloc (.cells #[.int .u16 53, .int .u8 0, .int .u8 1, .int .u32 nr, .int .u16 5, .int .u8 0, .int .u8 0, .int .u32 (k1 : Int)] 70)).drew = Y := ⟨_, rfl⟩
      rw [hY] at bY hoY z2 z3 hs5 hs6 hszY
      rw [hY]
      have BY := Lib.hid bY
      have HoY := Lib.hid hoY
      have HS5 := Lib.hid hs5
      have HS6 := Lib.hid hs6
      clear haY hoY0 hY bY hoY hs5 hs6 x0 x1 y0 y1 y2 x2' x3' C1 C2
      go_wp2
      refine wp_loop_rounds 3 ?_
      rw [rounds_succ]; go_wp2_with (at_builtin; refine wpList_append_src _ rfl _ _ 29 rfl (w6.heap.size + 1) 70 i0 _ 4 8 under29 hi0 hz0 hz1 hz2 rfl (by decide) _ _ _ rfl HoY.out A5 k1 c5 _ rfl HS5.out (by unfold maxLen; omega) (by omega) (by omega) ?_; intro v7 w7 hown7 hg7 hat7; obtain ⟨A7, c7, rfl⟩ := owns_form hown7; have b7 := grownI0 (Below.refl (w6.heap.size + 1) Y) (by omega) HoY.out hg7; have u3 : w7.cell? ⟨w6.heap.size, 1, none⟩ = some (.slice A6 k2 c6) := (b7.cell (show w6.heap.size < w6.heap.size + 1 from Nat.lt_succ_self _)).trans z3; have S6 := Lib.hid (grownSrc HS6.out hg7 HoY.out HA6.out); have HoZ := Lib.hid hown7; have B7 := Lib.hid b7; have sz7 := b7.size; clear hown7 hg7 hat7 b7; go_frame)
      rw [rounds_succ]; go_wp2_with (at_builtin; refine wpList_append_src _ rfl _ _ 29 rfl (w6.heap.size + 1) 70 i0 _ 4 8 under29 hi0 hz0 hz1 hz2 rfl (by decide) _ _ _ rfl HoZ.out A6 k2 c6 _ rfl S6.out (by unfold maxLen; omega) (by omega) (by omega) ?_; intro v8 w8 hown8 hg8 hat8; obtain ⟨A8, c8, rfl⟩ := owns_form hown8; have b8 := grownI0 (Below.refl (w6.heap.size + 1) w7) (by omega) HoZ.out hg8; have HoQ := Lib.hid hown8; have B8 := Lib.hid b8; clear hown8 hg8 hat8 b8; go_frame)
      rw [rounds_succ]; go_wp2
      have hlen : (⟨53, 0, 1, nr⟩ :: ⟨5, 0, 0, (k1 : Int)⟩ :: (L1 ++ L2) : List Ins).length = 2 + k1 + k2 := by simp only [List.length_cons, List.length_append, Hk1.out, Hk2.out]; omega
      have hrow : rowI [⟨53, 0, 1, nr⟩, ⟨5, 0, 0, (k1 : Int)⟩] ++ rowI L1 ++ rowI L2 = rowI (⟨53, 0, 1, nr⟩ :: ⟨5, 0, 0, (k1 : Int)⟩ :: (L1 ++ L2)) := by
        rw [← rowI_append, ← rowI_append]; rfl
      have hoq := HoQ.out
      rw [hrow] at hoq
      have hw0X : Below w.heap.size w Y := (Hb0.out.trans (HbX.out.mono Hb0.out.size)).trans (BY.out.mono (Nat.le_trans Hb0.out.size HbX.out.size))
      have hs56 := Hb5.out.size
      have hs0w := Hb0.out.size
      have hfin : InsPost (⟨53, 0, 1, nr⟩ :: ⟨5, 0, 0, (k1 : Int)⟩ :: (L1 ++ L2)) w (.returned (.slice A8 (2 + k1 + k2) c8)) w8 := by
        refine ⟨A8, c8, by rw [hlen], ?_, (hw0X.trans (B7.out.mono (by omega))).trans (B8.out.mono (by omega))⟩
        rw [hlen]
        exact ownI_down (lo := w6.heap.size + 1) (by unfold InsOwn; rw [hlen]; exact hoq) (by omega)
      have HFin := Lib.hid hfin
      clear hfin hoq hrow hlen
      go_ret
      exact HFin.out
end Go.Proofs.Ytjmmbadpknlmcaa
end
