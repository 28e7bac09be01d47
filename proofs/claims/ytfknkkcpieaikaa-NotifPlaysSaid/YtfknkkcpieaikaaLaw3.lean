/- NotifOld: it answers true. Conditions: the calls can be read; epoch is a number. -/
import Derived.Test.YtfknkkcpieaikaaLaw2
namespace Go.Proofs.Ytfknkkcpieaikaa
open Go.RowKit
set_option linter.unusedVariables false
set_option linter.unusedSimpArgs false

section
variable {w1 wr : World} {b B : Nat} {T T' : Tb} {ids : List Int} {ov r : Value} {id : Int}
theorem op_on {f : Nat} {args : Array Value} (h : PlayIn F0 w1 b B (ids, T) ov wr) (hc : ∀ P, TabAt wr b B P T → Calls Try.prog f args wr (TPost b B P T.L T' r wr)) :
    Calls Try.prog f args wr (fun e w' => e = .returned r ∧ PlayIn F0 w1 b B (ids, T') ov w') := by
  obtain ⟨P, hT, hP⟩ := h
  refine (hc P hT).mono ?_
  rintro e w' ⟨rfl, hl⟩
  exact ⟨rfl, hP.op hl⟩
theorem epoch_on (h : PlayIn F0 w1 b B (ids, T) ov wr) : Calls Try.prog 14 #[.pointer (some ⟨b, 0, none⟩)] wr (fun e w' => e = .returned (.int .u64 T.epoch) ∧ wr = w') := by
  obtain ⟨P, hT, hP⟩ := h
  exact epoch_any b B P T wr hT
theorem get_st (hU : U64 id) (h : PlayIn F0 w1 b B (ids, T) ov wr) : Calls Try.prog 11 #[.pointer (some ⟨b, 0, none⟩), .int .u64 id] wr (fun e w' => e = .returned (.tuple #[entV ((getL T.L id).getD Ent.nil), .bool (getL T.L id).isSome]) ∧ Below wr.heap.size wr w') := by
  obtain ⟨P, hT, hP⟩ := h
  exact get_any b B P T id wr hU hT
theorem PlayIn.still {S : Nat → Prop} {s : List Int × Tb} {w3 : World} (h : PlayIn S w1 b B s ov wr) (hu : Upto F0 wr w3) : PlayIn S w1 b B s ov w3 := by
  obtain ⟨P, hT, hP⟩ := h
  exact ⟨P, hT.upto hu (fun _ _ h => h), hP.own, own_kept hP.row hu (fun _ h => h.elim), hP.off, hP.low.trans hu (fun _ h => h.elim)⟩
/-- Another row, laid behind it. -/
theorem PlayIn.swap {S : Nat → Prop} {xs : List Int} {w3 : World} {v : Value} (h : PlayIn S w1 b B (ids, T) ov wr) (hu : Upto F0 wr w3) (hrow : w3.ownsRow wr.heap.size 23 1 v xs.length (xs.map (Value.int .u64))) : PlayIn S w1 b B (xs, T) v w3 := by
  obtain ⟨P, hT, hP⟩ := h
  refine ⟨P, hT.upto hu (fun _ _ h => h), hP.own, row_down hrow hP.size, fun k hk ho => ?_, hP.low.trans hu (fun _ h => h.elim)⟩
  have h1 := hT.lt ho
  have h2 := (own_lt hrow hk).2
  omega
end
/-- A table, and blocks beside it that stand. -/
def Side (w1 : World) (b B : Nat) (T : Tb) (K : Nat → Obj → Prop) (wr : World) : Prop := ∃ P, TabAt wr b B P T ∧ (∀ k, Own b B P T.L k → w1.heap.size ≤ k) ∧ Upto F0 w1 wr ∧ ∀ k o, K k o → wr.heap[k]? = some o ∧ ¬ Own b B P T.L k
def addK (K : Nat → Obj → Prop) (q : Nat) (ob : Obj) : Nat → Obj → Prop := fun k o => K k o ∨ (k = q ∧ o = ob)
section
variable {w1 wr w' : World} {b B : Nat} {T T' : Tb} {K : Nat → Obj → Prop} {r : Value} {id : Int}
theorem Side.below (h : Side w1 b B T K wr) (hb : Below wr.heap.size wr w') : Side w1 b B T K w' := by
  obtain ⟨P, hT, ho, hl, hK⟩ := h
  exact ⟨P, hT.below hb, ho, hl.below hb, fun k o hk => ⟨(hb.block k (Array.getElem?_eq_some_iff.1 (hK k o hk).1).1).trans (hK k o hk).1, (hK k o hk).2⟩⟩
theorem Side.less {K' : Nat → Obj → Prop} (h : Side w1 b B T K wr) (hk : ∀ k o, K' k o → K k o) : Side w1 b B T K' wr := by
  obtain ⟨P, hT, ho, hl, hK⟩ := h
  exact ⟨P, hT, ho, hl, fun k o h => hK k o (hk k o h)⟩
theorem Side.new (h : Side w1 b B T K wr) (ob : Obj) : Side w1 b B T (addK K wr.heap.size ob) (wr.alloc ob) := by
  have h2 := h.below (below_alloc wr ob)
  obtain ⟨P, hT, ho, hl, hK⟩ := h
  obtain ⟨P2, hT2, _⟩ := h2
  refine ⟨P, hT.below (below_alloc wr ob), ho, hl.alloc ob, fun k o hk => ?_⟩
  rcases hk with hk | ⟨rfl, rfl⟩
  · exact ⟨((below_alloc wr ob).block k (Array.getElem?_eq_some_iff.1 (hK k o hk).1).1).trans (hK k o hk).1, (hK k o hk).2⟩
  · exact ⟨World.alloc_heap_new _ _, fun hk => by have := hT.lt hk; omega⟩
theorem Side.cell (h : Side w1 b B T K wr) {g j : Nat} {w6 : World} {o : Obj} (hK : K g o) (h6 : w6.heap[g]? = some o) {v : Value} (hc : w6.cell? ⟨g, j, none⟩ = some v) : wr.cell? ⟨g, j, none⟩ = some v := by
  obtain ⟨P, hT, ho, hl, hK2⟩ := h
  exact (World.cell?_of_block (a := ⟨g, j, none⟩) ((hK2 g o hK).1.trans h6.symm)).trans hc
theorem Side.at (h : Side w1 b B T K wr) {g j : Nat} {cs : Array Value} {t : TypeId} (hK : K g (.cells cs t (0, 0))) {v : Value} (hc : cs[j]? = some v) : wr.cell? ⟨g, j, none⟩ = some v := by
  obtain ⟨P, hT, ho, hl, hK2⟩ := h
  unfold World.cell?
  rw [(hK2 _ _ hK).1]
  exact hc
theorem Side.low (h : Side w1 b B T K wr) : Upto F0 w1 wr := by
  obtain ⟨P, hT, ho, hl, hK⟩ := h
  exact hl
theorem Side.fine (h : Side w1 b B T K wr) : Fine T := by
  obtain ⟨P, hT, ho, hl, hK⟩ := h
  exact hT.f
theorem Side.call {f : Nat} {args : Array Value} (h : Side w1 b B T K wr) (hc : ∀ P, TabAt wr b B P T → Calls Try.prog f args wr (TPost b B P T.L T' r wr)) :
    Calls Try.prog f args wr (fun e w' => e = .returned r ∧ Side w1 b B T' K w') := by
  obtain ⟨P, hT, ho, hl, hK⟩ := h
  refine (hc P hT).mono ?_
  rintro e w' ⟨rfl, P', hT', hu, hx⟩
  have hown : ∀ k, Own b B P' T'.L k → Own b B P T.L k ∨ wr.heap.size ≤ k := fun k hk => by
    rcases hk with hk | hk | ⟨x, hx', hk⟩
    · exact .inl (.inl hk)
    · exact .inl (.inr (.inl hk))
    · rw [hk]; exact hx x hx'
  refine ⟨rfl, P', hT', fun k hk => ?_, hl.trans hu (fun k hk => .inr (ho k hk)), fun k o hk => ?_⟩
  · rcases hown k hk with h1 | h1
    · exact ho k h1
    · have := hl.size; omega
  · obtain ⟨h1, h2⟩ := hK k o hk
    have hlt := (Array.getElem?_eq_some_iff.1 h1).1
    refine ⟨(hu.block k hlt h2).trans h1, fun h3 => ?_⟩
    rcases hown k h3 with h4 | h4
    · exact h2 h4
    · omega
theorem Side.get (hU : U64 id) (h : Side w1 b B T K wr) : Calls Try.prog 11 #[.pointer (some ⟨b, 0, none⟩), .int .u64 id] wr (fun e w' => e = .returned (.tuple #[entV ((getL T.L id).getD Ent.nil), .bool (getL T.L id).isSome]) ∧ Side w1 b B T K w') := by
  have h0 := h
  obtain ⟨P, hT, ho, hl, hK⟩ := h
  refine (get_any b B P T id wr hU hT).mono ?_
  rintro e w' ⟨rfl, hb⟩
  exact ⟨rfl, h0.below hb⟩
theorem Side.valid (hU : U64 id) (h : Side w1 b B T K wr) : Calls Try.prog 17 #[.pointer (some ⟨b, 0, none⟩), .int .u64 id] wr (fun e w' => e = .returned (.bool (match getL T.L id with | none => false | some x => x.st == 2)) ∧ wr = w') := by
  obtain ⟨P, hT, ho, hl, hK⟩ := h
  exact valid_any b B P T id wr hU hT
theorem PlayIn.side {ids : List Int} {ov : Value} (h : PlayIn F0 w1 b B (ids, T) ov wr) : Side w1 b B T (fun k o => ov.ownBlock = some k ∧ wr.heap[k]? = some o) wr := by
  obtain ⟨P, hT, hP⟩ := h
  exact ⟨P, hT, fun k hk => by rcases hP.own k hk with h1 | h1; exact h1.elim; exact h1, hP.low, fun k o ⟨h1, h2⟩ => ⟨h2, hP.off k h1⟩⟩
end
def isWait (T : Tb) (x : Int) : Bool := (getL T.L x).any Ent.waits
def waitL (T : Tb) (ids : List Int) (j : Nat) : List Int := (ids.take j).filter (isWait T)
theorem waitL_len (T : Tb) (ids : List Int) (j : Nat) : (waitL T ids j).length ≤ j := by
  unfold waitL
  exact Nat.le_trans (List.length_filter_le _ _) (by simp; omega)
theorem waitL_yes {T : Tb} {ids : List Int} {j : Nat} {x : Int} (h : ids[j]? = some x) (hw : isWait T x = true) : waitL T ids (j + 1) = waitL T ids j ++ [x] := by
  unfold waitL
  rw [List.take_add_one, h, List.filter_append]
  simp [hw]
theorem waitL_no {T : Tb} {ids : List Int} {j : Nat} {x : Int} (h : ids[j]? = some x) (hw : isWait T x = false) : waitL T ids (j + 1) = waitL T ids j := by
  unfold waitL
  rw [List.take_add_one, h, List.filter_append]
  simp [hw]
theorem waitL_mem {T : Tb} {ids : List Int} {j : Nat} {x : Int} (h : x ∈ waitL T ids j) : x ∈ ids ∧ ∃ y, getL T.L x = some y ∧ y.waits = true := by
  unfold waitL at h
  obtain ⟨h1, h2⟩ := List.mem_filter.1 h
  refine ⟨List.mem_of_mem_take h1, ?_⟩
  unfold isWait at h2
  cases hg : getL T.L x with
  | none => rw [hg] at h2; cases h2
  | some y => rw [hg] at h2; exact ⟨y, rfl, h2⟩
theorem old_get {T : Tb} {x ep : Int} {y : Ent} (h : getL T.L x = some y) (hw : y.waits = true) : getL (dropT { T with epoch := ep }).L x = some (y.go 7) := by
  have hk : Keeps (fun x : Ent => if x.waits then x.go 7 else x) := fun x => by by_cases h : x.waits = true <;> simp [h, Ent.go]
  show getL (T.L.map _) x = _
  rw [getL_map hk, h]
  simp [hw]
theorem old_reply1 {T : Tb} {x ep : Int} (h : T.epoch < ep) : replyT (dropT { T with epoch := ep }) T.epoch x 1 0 = (22, dropT { T with epoch := ep }) := by
  unfold replyT
  rw [if_neg]
  show ¬ T.epoch = ep
  omega
theorem old_reply2 {T : Tb} {x ep : Int} {y : Ent} (h : getL T.L x = some y) (hw : y.waits = true) : replyT (dropT { T with epoch := ep }) ep x 1 0 = (18, dropT { T with epoch := ep }) := by
  unfold replyT
  rw [if_pos (show ep = (dropT { T with epoch := ep }).epoch from rfl), old_get h hw]
  simp [Ent.go]
set_option maxRecDepth 100000 in
set_option maxHeartbeats 8000000 in
theorem law_old (s t ep : Int) (lv : Value) (L : List Opn) (w : World) (he1 : 0 ≤ ep) (he2 : ep < 18446744073709551616) (hL : OpsAt w lv L) : Calls Try.prog 6 #[.agg #[.int .i64 s, .int .i64 t], lv, .int .u64 ep] w (Ret (.bool true) w) := by
  have A0 := awake_any (w.alloc (X2 s t))
  have k0 := new_cell w #[.int .i64 s, .int .i64 t] 22 0 rfl
  have k1 := new_cell w #[.int .i64 s, .int .i64 t] 22 1 rfl
  have hb0 := below_alloc w (X2 s t)
  obtain ⟨i0, hi0, hz0, hz1, hz2⟩ := info_parts info23
  cases hok : newOk s t with
  | false =>
    have N := fun W => new_bad s t 1 hok W
    clear hok hL
    go_enter Try.func6, Try.ntmps6
    go_wp2_with (first
      | (go_at_call 8; refine A0.mono ?_; rintro e_ w1 ⟨rfl, hb1⟩; have d0 := keep_cell hb1 k0; have d1 := keep_cell hb1 k1)
      | (go_at_call 9; refine (N _).mono ?_; rintro e_ w2 ⟨rfl, rfl⟩))
    go_ret
    exact ⟨rfl, Below.trans hb0 (hb1.mono hb0.size)⟩
  | true =>
    have N := fun W => new_ok s t 1 hok (by omega) (by omega) W
    have HLw := Lib.hid hL
    have hids := play_ids ⟨s, t, 1, 0, []⟩ L 200
    have hlen := play_len ⟨s, t, 1, 0, []⟩ L 200
    obtain ⟨⟨ids, T1⟩, hpl⟩ : ∃ s', playL ⟨s, t, 1, 0, []⟩ (L.take 200) = s' := ⟨_, rfl⟩
    rw [hpl] at hids hlen
    simp only at hids hlen
    obtain ⟨old, hold⟩ : ∃ old, T1.epoch = old := ⟨_, rfl⟩
    have Hold := Lib.hid hold
    clear hok hL hold
    go_enter Try.func6, Try.ntmps6
    go_wp2_with (first
      | (go_at_call 8; refine A0.mono ?_; rintro e_ w1 ⟨rfl, hb1⟩; have d0 := keep_cell hb1 k0; have d1 := keep_cell hb1 k1)
      | (go_at_call 9; refine (N _).mono ?_; rintro e_ w2 ⟨b, B, rfl, hbb, hBB, hT2, hb2⟩; have hlow : Below w.heap.size w w1 := (Below.trans hb0 (hb1.mono hb0.size)); have PL := play_first (lv := lv) (L := L) (hT2 (fun _ => 0)) (own_new hbb hBB) hb2 (fun W hW => ops_low HLw.out (upto0_low hlow hW)); rw [hpl] at PL; simp only at PL)
      | (go_at_call 10; refine PL.mono ?_; rintro e_ w3 ⟨A, n, c, rfl, hn, hIn⟩)
      | (go_at_call 14; have hE := epoch_on hIn; rw [Hold.out] at hE; refine hE.mono ?_; rintro e_ w4 ⟨rfl, rfl⟩))
    rw [hn] at hlen
    have hbd : 1 + (n : Int) < 18446744073709551616 := by
      have h1 := hIn.fine.n2
      have h2 : T1.next = 1 + (ids.length : Int) := hids.1
      simp only at h1
      rw [h2, hn] at h1
      exact h1
    have HIn := Lib.hid hIn
    have HID := Lib.hid hids.2
    have Hn := Lib.hid hn
    have HLow := Lib.hid hlow
    clear hids hIn hn hpl PL hlow hT2 hb2 N A0 k0 k1 d0 d1 HLw
    go_loopw [12, 13, 14, 15] (fun wv iv _ _ wr => ∃ j : Nat, j ≤ n ∧ iv = .int .i64 j ∧ Upto F0 w3 wr ∧ wr.ownsRow w3.heap.size 23 1 wv (waitL T1 ids j).length ((waitL T1 ids j).map (Value.int .u64))) (fun _ iv _ _ _ => n - (intOf iv).toNat)
    case atStart => exact ⟨0, Nat.zero_le _, rfl, Upto.refl _ _, by simpa [waitL] using World.ownsRow_nil _ _ _ _⟩
    case round =>
      obtain ⟨j, hj, rfl, hu, hrow⟩ := hrel
      by_cases hlt : j < n
      · have hlt' : (j : Int) < n := by omega
        have hrow0 := HIn.out.row
        simp only [Hn.out] at hrow0
        have hnums := nums_own (own_kept hrow0 hu (fun _ h => h.elim)) Hn.out
        obtain ⟨g, o, rfl, hcl⟩ := hnums.at' (by omega)
        obtain ⟨x, hx⟩ : ∃ x, ids[j]? = some x := ⟨_, List.getElem?_eq_getElem (by rw [Hn.out]; exact hlt)⟩
        have cx := hcl j x hx
        obtain ⟨hx1, hx2⟩ := HID.out j x hx
        have hx1' : x = 1 + j := hx1
        have HG := Lib.hid (get_st (U64.of (x := x) (by omega) (by omega)) (HIn.out.still hu))
        obtain ⟨m, hm⟩ : ∃ m, (waitL T1 ids j).length = m := ⟨_, rfl⟩
        have hml := waitL_len T1 ids j
        rw [hm] at hrow hml
        obtain ⟨Aw, cw, rfl⟩ := owns_form hrow
        have Hm := Lib.hid hm
        have Hx := Lib.hid hx
        have hsz := hu.size
        have HU := Lib.hid hu
        have HR := Lib.hid hrow
        clear hcl hx hx1 hx2 hx1' hrow hrow0 hu hnums hm
        cases hget : getL T1.L x with
        | none =>
          rw [hget] at HG
          simp only [Option.getD_none, Option.isSome_none, entV, Ent.cells, Ent.nil] at HG
          have HW := Lib.hid (show isWait T1 x = false by unfold isWait; rw [hget]; rfl)
          clear hget
          go_wp2_with (go_at_call 11; (with_reducible refine HG.out.mono ?_); rintro e_ w4 ⟨rfl, hb4⟩)
          go_roundw
          case rel => exact ⟨j + 1, by omega, by go_num, (HU.out.below hb4).alloc _, by rw [waitL_no Hx.out HW.out, Hm.out]; exact own_kept HR.out ((below_upto (S := F0) hb4).alloc _) (fun _ h => h.elim)⟩
          case measure => (simp [intOf] <;> omega)
        | some y =>
          rw [hget] at HG
          obtain ⟨id, task, st, left, kind, val⟩ := y
          simp only [Option.getD_some, Option.isSome_some, entV, Ent.cells] at HG
          by_cases s1 : st = 1
          · subst s1
            have HW := Lib.hid (show isWait T1 x = true by unfold isWait; rw [hget]; rfl)
            clear hget
            go_wp2_with (first
              | (go_at_call 11; (with_reducible refine HG.out.mono ?_); rintro e_ w4 ⟨rfl, hb4⟩; have cx4 := fun ob => keep_cell (below_alloc w4 ob) (keep_cell hb4 cx); have hrow4 := own_kept HR.out (below_upto (S := F0) hb4) (fun _ h => False.elim h); have hsz4 := hb4.size)
              | (at_builtin; refine wpList_append_own_at _ rfl _ _ 30 rfl w3.heap.size 23 i0 (.int .u64 0) 1 8 under30 hi0 hz0 hz1 hz2 rfl (by decide) _ _ _ rfl ((hrow4.alloc _).alloc _) ⟨w4.heap.size + 1, 0, none⟩ 1 1 [.int .u64 x] rfl rfl (by have := cell_one_new (w4.alloc (.cells #[.int .u64 id, .int .i64 task, .int .i64 1, .int .i64 left, .int .i64 kind, .int .i64 val] 37)) (.int .u64 x) 23; simpa using this) (by simp [Value.oneCell']) (by unfold maxLen; omega) (by omega) (by simp; omega) ?_; intro v' w5 hown' hg5 hnil5 hat5; go_frame))
            go_roundw
            case rel => exact ⟨j + 1, by omega, by go_num, (((HU.out.below hb4).alloc _).alloc _).grown hg5 (fun k hk => .inr (own_lt HR.out hk).2), by rw [waitL_yes Hx.out HW.out, List.length_append, Hm.out]; simpa using hown'⟩
            case measure => (simp [intOf] <;> omega)
          · have s1E : (st == 1) = false := by simpa using s1
            by_cases s2 : st = 2
            · subst s2
              have HW := Lib.hid (show isWait T1 x = true by unfold isWait; rw [hget]; rfl)
              clear hget s1 s1E
              go_wp2_with (first
                | (go_at_call 11; (with_reducible refine HG.out.mono ?_); rintro e_ w4 ⟨rfl, hb4⟩; have cx4 := fun ob => keep_cell (below_alloc w4 ob) (keep_cell hb4 cx); have hrow4 := own_kept HR.out (below_upto (S := F0) hb4) (fun _ h => False.elim h); have hsz4 := hb4.size)
                | (at_builtin; refine wpList_append_own_at _ rfl _ _ 30 rfl w3.heap.size 23 i0 (.int .u64 0) 1 8 under30 hi0 hz0 hz1 hz2 rfl (by decide) _ _ _ rfl ((hrow4.alloc _).alloc _) ⟨w4.heap.size + 1, 0, none⟩ 1 1 [.int .u64 x] rfl rfl (by have := cell_one_new (w4.alloc (.cells #[.int .u64 id, .int .i64 task, .int .i64 2, .int .i64 left, .int .i64 kind, .int .i64 val] 37)) (.int .u64 x) 23; simpa using this) (by simp [Value.oneCell']) (by unfold maxLen; omega) (by omega) (by simp; omega) ?_; intro v' w5 hown' hg5 hnil5 hat5; go_frame))
              go_roundw
              case rel => exact ⟨j + 1, by omega, by go_num, (((HU.out.below hb4).alloc _).alloc _).grown hg5 (fun k hk => .inr (own_lt HR.out hk).2), by rw [waitL_yes Hx.out HW.out, List.length_append, Hm.out]; simpa using hown'⟩
              case measure => (simp [intOf] <;> omega)
            · have s2E : (st == 2) = false := by simpa using s2
              have HW := Lib.hid (show isWait T1 x = false by unfold isWait; rw [hget]; simp [Ent.waits, s1, s2])
              clear hget s1 s2
              go_wp2_with (go_at_call 11; (with_reducible refine HG.out.mono ?_); rintro e_ w4 ⟨rfl, hb4⟩)
              go_roundw
              case rel => exact ⟨j + 1, by omega, by go_num, (HU.out.below hb4).alloc _, by rw [waitL_no Hx.out HW.out, Hm.out]; exact own_kept HR.out ((below_upto (S := F0) hb4).alloc _) (fun _ h => h.elim)⟩
              case measure => (simp [intOf] <;> omega)
      · obtain rfl : j = n := by omega
        have hWm : ∀ x ∈ waitL T1 ids j, x ∈ ids ∧ ∃ y, getL T1.L x = some y ∧ y.waits = true := fun x hx => waitL_mem hx
        have hml := waitL_len T1 ids j
        obtain ⟨xs, hxs⟩ : ∃ xs, waitL T1 ids j = xs := ⟨_, rfl⟩
        rw [hxs] at hrow hWm hml
        have hIn2 := HIn.out.swap hu hrow
        obtain ⟨Aw, cw, rfl⟩ := owns_form hrow
        obtain ⟨m, hm⟩ : ∃ m, xs.length = m := ⟨_, rfl⟩
        rw [hm] at hIn2 hml ⊢
        have HWm := Lib.hid hWm
        have Hm := Lib.hid hm
        clear hxs hrow hu hWm hm hlt HIn
        by_cases hep : ep ≤ old
        · have HRS := Lib.hid (op_on hIn2 (fun P h => rise_any b B P T1 ep he1 he2 _ h))
          rw [show riseT T1 ep = (22, T1) by unfold riseT; rw [Hold.out, if_pos hep]] at HRS
          have hepE : (ep ≤ old) = True := eq_true hep
          clear hIn2
          go_wp2_with (first
            | (go_at_call 15; (with_reducible refine HRS.out.mono ?_); rintro e_ w6 ⟨rfl, hIn6⟩; have hE6 := epoch_on hIn6; rw [Hold.out] at hE6; have HE6 := Lib.hid hE6; have HL6 := Lib.hid hIn6.low; clear hE6 hIn6)
            | (go_at_call 14; (with_reducible refine HE6.out.mono ?_); rintro e_ w7 ⟨rfl, rfl⟩))
          go_ret
          exact ⟨rfl, upto0_low HLow.out HL6.out⟩
        · have hep' : old < ep := by omega
          have HRS := Lib.hid (op_on hIn2 (fun P h => rise_any b B P T1 ep he1 he2 _ h))
          rw [show riseT T1 ep = (0, dropT { T1 with epoch := ep }) by unfold riseT; rw [Hold.out, if_neg hep]] at HRS
          have hge : ∀ x y, getL T1.L x = some y → y.waits = true → getL (dropT { T1 with epoch := ep }).L x = some (y.go 7) := fun x y h1 h2 => old_get h1 h2
          have hr1 : ∀ x, replyT (dropT { T1 with epoch := ep }) old x 1 0 = (22, dropT { T1 with epoch := ep }) := fun x => by rw [← Hold.out]; exact old_reply1 (by rw [Hold.out]; exact hep')
          have hr2 : ∀ x y, getL T1.L x = some y → y.waits = true → replyT (dropT { T1 with epoch := ep }) ep x 1 0 = (18, dropT { T1 with epoch := ep }) := fun x y h1 h2 => old_reply2 h1 h2
          have hTe : (dropT { T1 with epoch := ep }).epoch = ep := rfl
          obtain ⟨T2, hT2⟩ : ∃ T2, dropT { T1 with epoch := ep } = T2 := ⟨_, rfl⟩
          rw [hT2] at hTe
          simp only [hT2] at HRS hge hr1 hr2
          have Hge := Lib.hid hge
          have Hr1 := Lib.hid hr1
          have Hr2 := Lib.hid hr2
          have HTe := Lib.hid hTe
          have hepE : (ep ≤ old) = False := eq_false hep
          clear hge hr1 hr2 hTe hT2 hIn2 hep
          go_wp2_with (first
            | (go_at_call 15; (with_reducible refine HRS.out.mono ?_); rintro e_ w6 ⟨rfl, hIn6⟩; have hE6 := epoch_on hIn6; rw [HTe.out] at hE6; have HE6 := Lib.hid hE6; have HIn6 := Lib.hid hIn6; clear hE6 hIn6)
            | (go_at_call 14; (with_reducible refine HE6.out.mono ?_); rintro e_ w7 ⟨rfl, rfl⟩))
          clear HE6 HRS
          have hS6 := HIn6.out.side
          have hR6 := HIn6.out.row
          simp only [Hm.out] at hR6
          have hN6 := nums_own hR6 Hm.out
          have HS6 := Lib.hid hS6
          have HN6 := Lib.hid hN6
          clear hS6 hR6 hN6 HIn6
          go_loopw [17, 18, 19, 20, 21, 22, 23] (fun iv _ _ _ _ _ _ wr2 => ∃ j2 : Nat, j2 ≤ m ∧ iv = .int .i64 j2 ∧ Side w1 b B T2 (fun k o => (Value.slice Aw m cw).ownBlock = some k ∧ w6.heap[k]? = some o) wr2) (fun iv _ _ _ _ _ _ _ => m - (intOf iv).toNat)
          case atStart => exact ⟨0, Nat.zero_le _, rfl, HS6.out⟩
          case round =>
            obtain ⟨j2, hj2, rfl, hS⟩ := hrel
            clear HS6
            by_cases hlt : j2 < m
            · have hlt' : (j2 : Int) < m := by omega
              obtain ⟨g, o, rfl, hcl⟩ := HN6.out.at' (by omega)
              obtain ⟨x, hx⟩ : ∃ x, xs[j2]? = some x := ⟨_, List.getElem?_eq_getElem (by rw [Hm.out]; exact hlt)⟩
              have c6 := hcl j2 x hx
              obtain ⟨o6, ho6⟩ : ∃ o6, w6.heap[g]? = some o6 := ⟨_, Array.getElem?_eq_getElem (World.block_lt_of_cell? _ _ c6)⟩
              obtain ⟨hmem, y, hy1, hy2⟩ := HWm.out x (List.mem_of_getElem? hx)
              obtain ⟨jj, hjj⟩ := List.mem_iff_getElem?.1 hmem
              have hjn : jj < j := by rw [← Hn.out]; exact (List.getElem?_eq_some_iff.1 hjj).1
              obtain ⟨hx1, hx2⟩ := HID.out jj x hjj
              have hx1' : x = 1 + jj := hx1
              have hU : U64 x := U64.of (by omega) (by omega)
              have hge := Hge.out x y hy1 hy2
              have hr1 := Hr1.out x
              have hr2 := Hr2.out x y hy1 hy2
              have HX : Hid (∀ K wx, Side w1 b B T2 K wx → K g o6 → wx.cell? ⟨g, o + j2, none⟩ = some (.int .u64 x)) := Lib.hid (fun K wx h hk => h.cell hk ho6 c6)
              have HK : Hid ((Value.slice (some ⟨g, o, none⟩) m cw).ownBlock = some g ∧ w6.heap[g]? = some o6) := Lib.hid ⟨rfl, ho6⟩
              have HG : Hid (∀ K wx, Side w1 b B T2 K wx → _) := Lib.hid (fun K wx (h : Side w1 b B T2 K wx) => h.get hU)
              have HV : Hid (∀ K wx, Side w1 b B T2 K wx → _) := Lib.hid (fun K wx (h : Side w1 b B T2 K wx) => h.valid hU)
              have HR1 : Hid (∀ K wx, Side w1 b B T2 K wx → Calls Try.prog 16 #[.pointer (some ⟨b, 0, none⟩), .int .u64 old, .int .u64 x, .agg #[.int .i64 1, .int .i64 0]] wx (fun e w' => e = .returned (.int .i64 22) ∧ Side w1 b B T2 K w')) := Lib.hid (fun K wx h => h.call (fun P hT => by have := reply_any b B P T2 old x 1 0 wx hU hT; rwa [hr1] at this))
              have HR2 : Hid (∀ K wx, Side w1 b B T2 K wx → Calls Try.prog 16 #[.pointer (some ⟨b, 0, none⟩), .int .u64 ep, .int .u64 x, .agg #[.int .i64 1, .int .i64 0]] wx (fun e w' => e = .returned (.int .i64 18) ∧ Side w1 b B T2 K w')) := Lib.hid (fun K wx h => h.call (fun P hT => by have := reply_any b B P T2 ep x 1 0 wx hU hT; rwa [hr2] at this))
              rw [hge] at HG HV
              obtain ⟨id, task, st, left, kind, val⟩ := y
              simp only [Option.getD_some, Option.isSome_some, entV, Ent.cells, Ent.go] at HG HV
              rw [show ((4 : Int) == 2) = false from rfl] at HV
              have cx := HX.out _ _ hS HK.out
              clear hcl hx c6 ho6 hmem hy1 hy2 hjj hx1 hx2 hx1' hU hge hr1 hr2
              go_wp2_with (first
                | (go_at_call 11; (with_reducible refine (HG.out _ _ hS).mono ?_); rintro e_ w7 ⟨rfl, hS7⟩; have hT7 := hS7.new (.cells #[.int .u64 id, .int .i64 task, .int .i64 4, .int .i64 left, .int .i64 7, .int .i64 0] 37); have cx7 := HX.out _ _ hT7 (.inl HK.out))
                | (go_at_call 16; (with_reducible refine (HR1.out _ _ hT7).mono ?_); rintro e_ w8 ⟨rfl, hS8⟩; have cx8 := HX.out _ _ hS8 (.inl HK.out))
                | (go_at_call 16; (with_reducible refine (HR2.out _ _ hS8).mono ?_); rintro e_ w9 ⟨rfl, hS9⟩; have cx9 := HX.out _ _ hS9 (.inl HK.out))
                | (go_at_call 11; (with_reducible refine (HG.out _ _ hS9).mono ?_); rintro e_ w10 ⟨rfl, hS10⟩; have hT10 := hS10.new (.cells #[.int .u64 id, .int .i64 task, .int .i64 4, .int .i64 left, .int .i64 7, .int .i64 0] 37); have cx10 := HX.out _ _ hT10 (.inl (.inl HK.out)); have z0 := hT10.at (g := w7.heap.size) (j := 0) (.inl (.inr ⟨rfl, rfl⟩)) rfl; have z1 := hT10.at (g := w7.heap.size) (j := 1) (.inl (.inr ⟨rfl, rfl⟩)) rfl; have z2 := hT10.at (g := w7.heap.size) (j := 2) (.inl (.inr ⟨rfl, rfl⟩)) rfl; have z3 := hT10.at (g := w7.heap.size) (j := 3) (.inl (.inr ⟨rfl, rfl⟩)) rfl; have z4 := hT10.at (g := w7.heap.size) (j := 4) (.inl (.inr ⟨rfl, rfl⟩)) rfl; have z5 := hT10.at (g := w7.heap.size) (j := 5) (.inl (.inr ⟨rfl, rfl⟩)) rfl)
                | (go_at_call 17; (with_reducible refine (HV.out _ _ hT10).mono ?_); rintro e_ w11 ⟨rfl, rfl⟩))
              go_roundw
              case rel => exact ⟨j2 + 1, by omega, by go_num, hT10.less (fun k o h => .inl (.inl h))⟩
              case measure => (simp [intOf] <;> omega)
            · obtain rfl : j2 = m := by omega
              have HE := Lib.hid (upto0_low HLow.out hS.low)
              clear hS
              go_wp2
              go_ret
              exact ⟨rfl, HE.out⟩
end Go.Proofs.Ytfknkkcpieaikaa
