/- PathNames: it answers true. No conditions. -/
import Derived.Test.YtpejghinphnllaaLaw1
import Derived.ControlIn
namespace Go.Proofs.Ytpejghinphnllaa
open Go.RowKit Go.Shelf
attribute [local go_sem] Oper.semAt_some
set_option linter.unusedVariables false
set_option linter.unusedSimpArgs false

theorem keep_cell {W w' : World} {p : Addr} {v : Value} (hb : Below W.heap.size W w') (h : W.cell? p = some v) : w'.cell? p = some v := (hb.cell (World.block_lt_of_cell? W p h)).trans h

set_option maxRecDepth 100000 in
set_option maxHeartbeats 1000000 in
theorem law_names_long (s : ByteArray) (m : Int) (hs : (2000 : Int) < (s.size : Int) ∨ m < 0) (w : World) : Calls Try.prog 3 #[.string s, .int .i64 m] w (Ret (.bool true) w) := by
  have A := awake_any
  go_enter Try.func3, Try.ntmps3
  by_cases h1 : (2000 : Int) < (s.size : Int)
  · go_wp2_with (go_at_call 9; refine (A _).mono ?_; rintro e w1 ⟨rfl, hb1⟩; have c0 : w1.cell? ⟨w.heap.size, 0, none⟩ = some (.int .i64 m) := keep_cell hb1 (by go_keep))
    go_ret
    exact ⟨rfl, ((Below.refl _ w).alloc (Nat.le_refl _) _).trans (hb1.mono (by simp))⟩
  · have h2 : m < 0 := by omega
    clear hs
    go_wp2_with (go_at_call 9; refine (A _).mono ?_; rintro e w1 ⟨rfl, hb1⟩; have c0 : w1.cell? ⟨w.heap.size, 0, none⟩ = some (.int .i64 m) := keep_cell hb1 (by go_keep))
    go_ret
    exact ⟨rfl, ((Below.refl _ w).alloc (Nat.le_refl _) _).trans (hb1.mono (by simp))⟩

theorem unS_snoc (pre : List ByteArray) (x : ByteArray) : rowP ((pre ++ [x]).map (·.data.toList)) = rowP (pre.map (·.data.toList)) ++ [.string x] := by simp [rowP, strL_of]
theorem unS_names (s : ByteArray) : (namesS s).map (·.data.toList) = namesL s.data.toList := by
  unfold namesS
  rw [List.map_map]
  exact List.map_id'' (fun n => strL_data n) _
theorem heap_keep {W W' : World} {D : Nat} {o : Obj} (hb : Below W.heap.size W W') (h : W.heap[D]? = some o) : W'.heap[D]? = some o := (hb.block D (Array.getElem?_eq_some_iff.1 h).1).trans h
def GotI (w2 : World) (mN : Nat) (pre : List ByteArray) (W : World) : Prop :=
  pre.length ≤ mN ∧ (∃ v, Boxed W w2.heap.size 26 v ∧ W.ownsRow w2.heap.size 9 1 v pre.length (rowP (pre.map (·.data.toList))) ∧ True) ∧ Below w2.heap.size w2 W
def GotX (w2 : World) (mN : Nat) (c : Code) (pre : List ByteArray) (W : World) : Prop :=
  (∃ v, Boxed W w2.heap.size 26 v ∧ W.ownsRow w2.heap.size 9 1 v (pre.take mN).length (rowP ((pre.take mN).map (·.data.toList))) ∧ (c = .exit 0 ∧ pre.length = mN + 1)) ∧ Below w2.heap.size w2 W
theorem gotI_own (w2 : World) (mN B : Nat) (hB : w2.heap.size ≤ B) : OwnFrom B (GotI w2 mN) :=
  OwnFrom.and (I := fun (pre : List ByteArray) (_ : World) => pre.length ≤ mN) (fun s W W' row hs _ _ => hs) (OwnFrom.and (Own.from (holdsRow_own w2.heap.size w2.heap.size 26 9 1 (fun pre : List ByteArray => pre.length) (fun pre : List ByteArray => rowP (pre.map (·.data.toList))) (fun pre v => True)) _) (ownFrom_below (Nat.le_refl _) hB))
theorem gotX_own (w2 : World) (mN B : Nat) (hB : w2.heap.size ≤ B) (c : Code) : OwnFrom B (GotX w2 mN c) :=
  OwnFrom.and (Own.from (holdsRow_own w2.heap.size w2.heap.size 26 9 1 (fun pre : List ByteArray => (pre.take mN).length) (fun pre : List ByteArray => rowP ((pre.take mN).map (·.data.toList))) (fun (pre : List ByteArray) v => c = .exit 0 ∧ pre.length = mN + 1)) _) (ownFrom_below (Nat.le_refl _) hB)
def EqRel (n : Nat) (W : World) (i : Value) (wr : World) : Prop := ∃ k : Nat, k ≤ n ∧ i = .int .i64 k ∧ Below W.heap.size W wr

set_option maxRecDepth 100000 in
set_option maxHeartbeats 4000000 in
theorem law_names_in (s : ByteArray) (mN : Nat) (hs : (s.size : Int) ≤ 2000) (w : World) : CallsIn Fence.wide 3 Try.prog 3 #[.string s, .int .i64 (mN : Int)] w (Ret (.bool true) w) := by
  have A := awake_any
  have N := ref_names_any s
  obtain ⟨i0, hi, hz0, hz1, hz2⟩ := info_parts info9
  refine callsIn_of_wp_marks Try.func3 rfl trivial ?_ rfl
  simp only [Try.ntmps3, List.size_toArray, List.length_cons, List.length_nil, Nat.reduceAdd, Nat.reduceSub, Array.replicate_succ, Array.replicate_zero, List.push_toArray, List.append_toArray, List.nil_append, List.cons_append]
  have hnil : ∀ (b : Nat) (W : World), (binOp .eql 24 (.func (.func 22) #[] #[.pointer (some ⟨b, 0, none⟩)]) .nilFunc).run Try.prog W = .ok (.bool false) W := fun b W => by
    first | rfl | (simp [binOp, go_sem]; done) | (simp [binOp, go_sem, Try.underlying24]; done)
  gi_wp2_with (first
    | (refine ⟨trivial, ?_⟩; gi_at_call 9; refine (callsIn_wide.2 (A _)).mono ?_; rintro e w1 ⟨rfl, hb1⟩; have c0 : w1.cell? ⟨w.heap.size, 0, none⟩ = some (.int .i64 (mN : Int)) := keep_cell hb1 (by go_keep))
    | (refine ⟨trivial, ?_⟩; gi_at_call 10; refine (all_in _ _ _).mono ?_; rintro e w' ⟨rfl, rfl⟩)
    | (refine ⟨trivial, ?_⟩; gi_at_call 11; refine (callsIn_wide.2 (N _)).mono ?_; rintro e w2 ⟨v2, rfl, ⟨A2, c2, rfl, hc2, hx2⟩, hb2⟩; have d0 : w2.cell? ⟨w.heap.size, 0, none⟩ = some (.int .i64 (mN : Int)) := keep_cell hb2 (by go_keep)))
  rename_i K hK
  have S2 : StrsAt w2 (.slice A2 (namesL s.data.toList).length c2) (namesL s.data.toList) := ⟨A2, c2, rfl, hc2, hx2⟩
  clear hx2
  have hsm := names_small s.data.toList
  have hml : 1000 ≤ maxLen := by decide
  have z0 : w.heap.size < w2.heap.size := World.block_lt_of_cell? _ _ d0
  have bB : w2.cell? ⟨w1.heap.size, 0, none⟩ = some (.string s) := keep_cell hb2 (by go_keep)
  have z1 : w1.heap.size < w2.heap.size := World.block_lt_of_cell? _ _ bB
  have hall : Below w.heap.size w w2 := by
    have h1 : Below w.heap.size w w1 := ((Below.refl _ w).alloc (Nat.le_refl _) _).trans (hb1.mono (by simp))
    have h2 : Below w.heap.size w1 w2 := ((Below.refl _ w1).alloc h1.size _).trans (hb2.mono (by simp; have := h1.size; omega))
    exact h1.trans h2
  clear c0 hb1 hb2 A N
  have REST : ∀ (D : Nat) (v : Value) (W : World), w2.heap.size ≤ D → W.heap[D]? = some (.deferred (some [])) → Below w2.heap.size w2 W → Boxed W w2.heap.size 26 v → W.ownsRow w2.heap.size 9 1 v ((namesL s.data.toList).take mN).length (rowP ((namesL s.data.toList).take mN)) →
      K { tmps := #[Value.string s, Value.int IntKind.i64 (mN : Int), undef, Value.pointer (some ⟨w.heap.size, 0, none⟩), Value.bool false, Value.bool true, Value.func (Fn.func 22) #[] #[Value.pointer (some ⟨w1.heap.size, 0, none⟩)], Value.slice A2 (namesL s.data.toList).length c2, Value.pointer (some ⟨w2.heap.size, 0, none⟩), undef, undef, Value.bool true, Value.string s, Value.int IntKind.i64 (s.size : Int), Value.bool (decide (2000 < (s.size : Int))), Value.bool (decide (2000 < (s.size : Int))), Value.int IntKind.i64 (mN : Int), Value.bool (decide ((mN : Int) < 0)), Value.bool (decide (2000 < (s.size : Int)) || decide ((mN : Int) < 0)), undef, Value.string s, Value.func (Fn.func 22) #[] #[Value.pointer (some ⟨w1.heap.size, 0, none⟩)], Value.func (Fn.func 22) #[] #[Value.pointer (some ⟨w1.heap.size, 0, none⟩)], Value.bool false, Value.string s, Value.slice A2 (namesL s.data.toList).length c2, Value.func (Fn.func 22) #[] #[Value.pointer (some ⟨w1.heap.size, 0, none⟩)], undef, undef, undef, undef, undef, undef, undef, undef, undef, undef, undef, undef, undef, undef, undef, undef, undef, undef, undef, undef, undef, undef, undef, undef, undef, undef, undef, undef, undef, undef, undef, undef, undef, undef, undef, undef, undef, undef, undef], defers := [{ target := .collected D, args := #[] }] } W := by
    intro D v W hD hHD hbW hbox hown
    refine hK _ _ (wpIn_wide.2 ?_)
    clear hK
    have S1 := strsAt_of_row hown
    have S2w := strsAt_below S2 hbW
    have hgl : ((namesL s.data.toList).take mN).length = min mN (namesL s.data.toList).length := List.length_take
    have hpref : ∀ k, k < ((namesL s.data.toList).take mN).length → (namesL s.data.toList)[k]? = ((namesL s.data.toList).take mN)[k]? := fun k hk => by
      rw [List.getElem?_take, if_pos (by rw [hgl] at hk; omega)]
    have J1 := fun v W h => join_any v ((namesL s.data.toList).take mN) W h (by have := total_names s.data.toList; have := total_take mN (namesL s.data.toList); omega)
    have J2 := fun v W h => ref_join_any v ((namesL s.data.toList).take mN) W h (by have := total_names s.data.toList; have := total_take mN (namesL s.data.toList); omega)
    have hf : Below w.heap.size w W := hall.trans (hbW.mono (Nat.le_of_lt z0))
    have d1 : W.cell? ⟨w.heap.size, 0, none⟩ = some (.int .i64 (mN : Int)) := (hbW.cell (p := ⟨w.heap.size, 0, none⟩) z0).trans d0
    obtain ⟨NS, hNS⟩ : ∃ NS, namesL s.data.toList = NS := ⟨_, rfl⟩
    rw [hNS] at S2w hgl hpref J1 J2 S1 hsm ⊢
    obtain ⟨GL, hGL⟩ : ∃ GL, NS.take mN = GL := ⟨_, rfl⟩
    rw [hGL] at hgl hpref J1 J2 S1
    have hgs : GL.length ≤ 257 := by omega
    have hmin : min (mN : Int) (NS.length : Int) = (GL.length : Int) := by omega
    have hcb := hbox.cell
    obtain ⟨A1, c1, hv, hc1, hx1⟩ := S1
    subst hv
    obtain ⟨A3, c3, hv3, hc3, hx3⟩ := S2w
    cases hv3
    have S1w : StrsAt W (.slice A1 GL.length c1) GL := ⟨A1, c1, rfl, hc1, hx1⟩
    have HS1 := Lib.hid S1w
    have Hx1 := Lib.hid hx1
    have Hx3 := Lib.hid hx3
    have Hpref := Lib.hid hpref
    have Hf := Lib.hid hf
    have HD := Lib.hid hHD
    have Hbox := Lib.hid hbox
    clear hx1 hx3 hpref hgl hown S2 hall hbox hHD hbW S1w hf
    go_wp2
    go_loopw [10] (fun i wr => EqRel GL.length W i wr) (fun i _ => GL.length - (intOf i).toNat)
    case atStart => exact ⟨0, Nat.zero_le _, rfl, Below.refl _ _⟩
    case round =>
      obtain ⟨k, hk, rfl, hbr⟩ := hrel
      have hkc : wr.cell? ⟨w2.heap.size, 0, none⟩ = some (.slice A1 GL.length c1) := keep_cell hbr hcb
      by_cases hlt : k < GL.length
      · obtain ⟨b1, o1, rfl, hlt1, hcell1⟩ := Hx1.out (by omega)
        have hlN : k < NS.length := by
          have := Hpref.out k hlt
          rw [List.getElem?_eq_getElem hlt] at this
          exact (List.getElem?_eq_some_iff.1 this).1
        obtain ⟨b3, o3, rfl, hlt3, hcell3⟩ := Hx3.out (by omega)
        obtain ⟨y, hy⟩ : ∃ y, GL[k]? = some y := ⟨_, List.getElem?_eq_getElem hlt⟩
        have cx := (hbr.cell (p := ⟨b1, o1 + k, none⟩) hlt1).trans (hcell1 k y hy)
        have cy := (hbr.cell (p := ⟨b3, o3 + k, none⟩) hlt3).trans (hcell3 k y (by rw [Hpref.out k hlt]; exact hy))
        have hlt' : (k : Int) < (GL.length : Int) := by omega
        have hlN' : (k : Int) < (NS.length : Int) := by omega
        have hk1 : k ≤ 257 := by omega
        clear hcell1 hcell3 hy
        go_wp2
        go_quiet (fail)
        go_wp2
        go_roundw
        case rel => exact ⟨k + 1, by omega, by go_num, below_drewN hbr _⟩
        case measure => simp [intOf]; omega
      · obtain rfl : k = GL.length := by omega
        have S4 : StrsAt wr (.slice A1 GL.length c1) GL := strsAt_below HS1.out hbr
        go_wp2
        go_region_held3 (fun w' => w'.cell? ⟨w2.heap.size, 0, none⟩ = some (.slice A1 GL.length c1) ∧ StrsAt w' (.slice A1 GL.length c1) GL)
          (((first | (have hq := hb6) | (have hq := hb5) | skip); refine ⟨?_, ?_⟩ <;> first | assumption | exact keep_cell hq (by assumption) | exact strsAt_below (by assumption) hq | exact strsAt_below (And.right (by assumption)) hq | exact keep_cell hq (And.left (by assumption)) | go_keep))
          (first | (go_at_call 12; refine (J1 _ _ (And.right (by assumption))).mono ?_; rintro e w5 ⟨rfl, hb5⟩) | (go_at_call 13; refine (J2 _ _ (And.right (by assumption))).mono ?_; rintro e w6 ⟨rfl, hb6⟩))
        go_wp2
        have hb7 : Below W.heap.size W w6 := hbr.trans ((((Below.refl _ wr).drew).trans (hb5.trans (hb6.mono hb5.size))).mono hbr.size)
        have hDk := heap_keep hb7 HD.out
        refine ⟨by simp, .inl ⟨_, _, rfl, run_takeDeferred hDk, ?_⟩⟩
        have hb8 : Below w.heap.size w w6 := Hf.out.trans (hb7.mono Hf.out.size)
        exact ⟨_, results_tmp rfl _ _ _, rfl, hb8.trans (belowK_b (w := w) (Nat.le_refl _) w6 D _ _ (by omega) hDk rfl rfl)⟩
  have bO := Boxed.new w2 26 (.slice none 0 0)
  have hB0 : Below w2.heap.size w2 (w2.alloc (.cells #[.slice none 0 0] 26)) := (Below.refl _ w2).alloc (Nat.le_refl _) _
  refine wpIn_rangeFunc_ownG rfl (by omega) (gf := 22) (lb := #[.pointer (some ⟨w1.heap.size, 0, none⟩)]) rfl trivial (enters_of Try.func22 (by kernel_rfl) rfl)
    (names_stops _ (by omega) w1.heap.size w2.heap.size s (w2.alloc (.cells #[.slice none 0 0] 26)) (by simp; omega) (keep_cell hB0 bB)) belowK_t (belowK_b (by simp)) (Below.refl _ _) (fun _ => rfl)
    (GotI w2 mN) (GotX w2 mN) (gotI_own _ _ _ (by simp)) (gotX_own _ _ _ (by simp))
    ⟨Nat.zero_le _, ⟨_, bO, World.ownsRow_nil _ _ _ _, trivial⟩, hB0⟩
    (fun x => { tmps := #[Value.string s, Value.int IntKind.i64 (mN : Int), undef, Value.pointer (some ⟨w.heap.size, 0, none⟩), Value.bool false, Value.bool true, Value.func (Fn.func 22) #[] #[Value.pointer (some ⟨w1.heap.size, 0, none⟩)], Value.slice A2 (namesL s.data.toList).length c2, Value.pointer (some ⟨w2.heap.size, 0, none⟩), Value.string x, undef, Value.bool true, Value.string s, Value.int IntKind.i64 (s.size : Int), Value.bool (decide (2000 < (s.size : Int))), Value.bool (decide (2000 < (s.size : Int))), Value.int IntKind.i64 (mN : Int), Value.bool (decide ((mN : Int) < 0)), Value.bool (decide (2000 < (s.size : Int)) || decide ((mN : Int) < 0)), undef, Value.string s, Value.func (Fn.func 22) #[] #[Value.pointer (some ⟨w1.heap.size, 0, none⟩)], Value.func (Fn.func 22) #[] #[Value.pointer (some ⟨w1.heap.size, 0, none⟩)], Value.bool false, Value.string s, Value.slice A2 (namesL s.data.toList).length c2, Value.func (Fn.func 22) #[] #[Value.pointer (some ⟨w1.heap.size, 0, none⟩)], Value.string x, undef, undef, undef, undef, undef, undef, undef, undef, undef, undef, undef, undef, undef, undef, undef, undef, undef, undef, undef, undef, undef, undef, undef, undef, undef, undef, undef, undef, undef, undef, undef, undef, undef, undef, undef, undef, undef, undef], defers := [] }) ?assign ?body ?done ?stop
  case assign =>
    intro l x W K hK
    gi_wp2
    exact hK
  case body =>
    rintro l pre x W ⟨hpm, ⟨v, hv, hrow, -⟩, hB⟩ hlt
    have hc := hv.cell
    have e0 : W.cell? ⟨w.heap.size, 0, none⟩ = some (.int .i64 (mN : Int)) := (hB.cell (p := ⟨w.heap.size, 0, none⟩) z0).trans d0
    have hNl := namesS_len s
    obtain ⟨A, c, rfl⟩ : ∃ A c, v = .slice A pre.length c := by
      rcases hrow.2 with ⟨rfl, h⟩ | ⟨g, cap, cur, rfl, _⟩
      · exact ⟨_, _, by rw [h]⟩
      · exact ⟨_, _, rfl⟩
    by_cases hlen : pre.length = mN
    · have hge : (mN : Int) ≤ (pre.length : Int) := by omega
      have hfin : GotX w2 mN (.exit 0) (pre ++ [x]) W := by
        unfold GotX
        rw [List.take_left' hlen]
        exact ⟨⟨_, hv, hrow, rfl, by simp [hlen]⟩, hB⟩
      have Hfin := Lib.hid hfin
      clear hfin hrow hlen hlt
      gi_wp2
      exact ⟨KeepsFrom.refl _ _, Hfin.out⟩
    · have hlt2 : (pre.length : Int) < (mN : Int) := by omega
      have hrow2 := Lib.hid hrow
      have hpl : pre.length + 1 ≤ mN := by omega
      gi_wp2_with (gi_at_builtin; refine wpListIn_append_own _ rfl _ _ 26 rfl w2.heap.size 9 i0 (.string ⟨#[]⟩) 1 16 Try.underlying26 hi hz0 hz1 hz2 rfl (by decide) _ _ _ rfl (hrow.alloc _) ⟨W.heap.size, 0, none⟩ 1 1 [.string x] rfl rfl (cell_one_new _ _ _) (by simp [Value.oneCell']) (by omega) (by omega) (by have := hB.size; simp; omega) ?_; intro v' w1 hown' hgrow _; obtain ⟨g', cap', rfl⟩ := ownsRow_succ hown'; obtain ⟨hv1, hv2, hr2, hk2, hb2⟩ := hv.appended (by decide) hrow hB.size (Nat.le_refl _) hown' hgrow; have hc1 := hv1.cell; have hf1 := hv1.frozen)
      exact ⟨hk2.from _, hb2, ⟨by simp; omega, ⟨_, hv2, by rw [unS_snoc, List.length_append]; exact hr2, trivial⟩, hB.trans hb2⟩⟩
  case done =>
    rintro D ys W hD rfl ⟨hpm, ⟨v, hv, hrow, -⟩, hB⟩ hHD
    gi_wp2
    have hD' : w2.heap.size ≤ D := by simp at hD; omega
    refine REST D v W hD' hHD hB hv ?_
    have ht : (namesL s.data.toList).take mN = namesL s.data.toList := List.take_of_length_le (by have := congrArg List.length (unS_names s); simp at this; omega)
    rw [ht, ← unS_names s, List.length_map]
    exact hrow
  case stop =>
    rintro D c pre W hD hpre ⟨⟨v, hv, hrow, rfl, hlen⟩, hB⟩ hHD
    gi_wp2
    have hD' : w2.heap.size ≤ D := by simp at hD; omega
    refine REST D v W hD' hHD hB hv ?_
    have ht : (namesL s.data.toList).take mN = (pre.take mN).map (·.data.toList) := by
      obtain ⟨t, ht⟩ := hpre
      rw [← unS_names s, ← ht, ← List.map_take, List.take_append_of_le_length (by omega)]
    rw [ht, List.length_map]
    exact hrow

theorem law_names (s : ByteArray) (m : Int) (w : World) : Calls Try.prog 3 #[.string s, .int .i64 m] w (Ret (.bool true) w) := by
  by_cases h : (2000 : Int) < (s.size : Int) ∨ m < 0
  · exact law_names_long s m h w
  · obtain ⟨k, rfl⟩ : ∃ k : Nat, m = k := ⟨m.toNat, by omega⟩
    exact callsIn_wide.1 (law_names_in s k (by omega) w)
end Go.Proofs.Ytpejghinphnllaa
