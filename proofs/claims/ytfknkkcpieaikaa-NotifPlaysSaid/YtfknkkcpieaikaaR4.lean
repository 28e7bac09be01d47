/- The document's table: Tick. Conditions: it can be read; what is laid down of its numbers. -/
import Derived.Test.YtfknkkcpieaikaaR3
namespace Go.Proofs.Ytfknkkcpieaikaa
open Go.RowKit
set_option linter.unusedVariables false
set_option linter.unusedSimpArgs false

def tg (x : Ent) : Bool := x.waits && x.left == 1
def tl (T : Tb) (i : Nat) : List Int := ((T.L.take i).filter tg).map Ent.id
theorem tl_len (T : Tb) (i : Nat) : (tl T i).length ≤ i := by
  unfold tl
  rw [List.length_map]
  exact Nat.le_trans (List.length_filter_le _ _) (by simp; omega)
theorem tl_yes {T : Tb} {i : Nat} {x : Ent} (h : T.L[i]? = some x) (ht : tg x = true) : tl T (i + 1) = tl T i ++ [x.id] := by
  unfold tl
  rw [List.take_add_one, h, List.filter_append, List.map_append]
  simp [ht]
theorem tl_no {T : Tb} {i : Nat} {x : Ent} (h : T.L[i]? = some x) (ht : tg x = false) : tl T (i + 1) = tl T i := by
  unfold tl
  rw [List.take_add_one, h, List.filter_append, List.map_append]
  simp [ht]
theorem tick_ids {T : Tb} (hr : T.L.Pairwise (fun x y => x.id < y.id)) {n : Nat} (hn : T.L.length = n) : tickIds T = tl T n := by
  unfold tickIds tl idsL
  rw [← hn, List.take_length, List.filter_map, List.filter_filter]
  congr 1
  refine List.filter_congr (fun x hx => ?_)
  unfold tg isLast
  simp only [Function.comp, getL_of hr hx, Option.any_some]
  exact Bool.and_comm _ _
def tgo (x : Ent) : Ent := if x.waits then gt x else x
theorem tick_part (T : Tb) {n : Nat} (hn : T.L.length = n) : partT tgo T n = tickT T := part_all tgo T hn
def RTickPost (r : Nat) (v : Value) (T : Tb) (w : World) (e : Ending) (w' : World) : Prop :=
  ∃ A n c, e = .returned (.slice A n c) ∧ (tickIds T).length = n ∧ w'.ownsRow w.heap.size 23 1 (.slice A n c) n ((tickIds T).map (Value.int .u64)) ∧ RefAt w' r v (tickT T) ∧ Upto (ROwn r v) w w'
set_option maxRecDepth 100000 in
set_option maxHeartbeats 8000000 in
theorem rtick_any (r : Nat) (v : Value) (T : Tb) (w : World) (h : RefAt w r v T) (hl : T.L.length ≤ 8) (hr : T.L.Pairwise (fun x y => x.id < y.id)) (hb : ∀ x ∈ T.L, x.waits = true → 1 ≤ x.left ∧ x.left ≤ 1000) : Calls Try.prog 34 #[.pointer (some ⟨r, 0, none⟩)] w (RTickPost r v T w) := by
  have HS : Hid (RefAt w r v (partT tgo T 0)) := Lib.hid (by rw [part_zero]; exact h)
  have hown : ∀ k, ROwn r v k → k < w.heap.size := fun k hk => h.own_lt hk
  obtain ⟨i0, hi0, hz0, hz1, hz2⟩ := info_parts info23
  obtain ⟨A, c, rfl⟩ := owns_form h.row
  obtain ⟨n, hn⟩ : ∃ n, T.L.length = n := ⟨_, rfl⟩
  rw [hn] at hl HS hown ⊢
  have Hn := Lib.hid hn
  have Hr := Lib.hid hr
  have Hb := Lib.hid hb
  have Hown := Lib.hid hown
  clear h hn hr hb hown
  go_enter Try.func34, Try.ntmps34
  go_wp2
  go_loopw [3, 4] (fun ov iv wr => ∃ i : Nat, i ≤ n ∧ iv = .int .i64 i ∧ RefAt wr r (.slice A n c) (partT tgo T i) ∧ Upto (ROwn r (.slice A n c)) w wr ∧ wr.ownsRow w.heap.size 23 1 ov (tl T i).length ((tl T i).map (Value.int .u64))) (fun _ iv _ => n - (intOf iv).toNat)
  case atStart => exact ⟨0, Nat.zero_le _, rfl, HS.out, Upto.refl _ _, by simpa [tl] using World.ownsRow_nil _ _ _ _⟩
  case round =>
    obtain ⟨i, hi, rfl, hR, hu, hrow⟩ := hrel
    have cL := hR.c0
    have Hu := Lib.hid hu
    have hsz := hu.size
    by_cases hlt : i < n
    · have hlt' : (i : Int) < n := by omega
      obtain ⟨x, hx⟩ : ∃ x, T.L[i]? = some x := ⟨_, List.getElem?_eq_getElem (by rw [Hn.out]; exact hlt)⟩
      have hpl : (partT tgo T i).L.length = n := by rw [part_len, Hn.out]
      have hxi : (partT tgo T i).L[i]? = some x := by rw [part_at (by rw [Hn.out]; exact hi)]; exact hx
      have hR0 := hR.row
      rw [hpl] at hR0
      obtain ⟨g, o, rfl, hcl⟩ := ents_at hR0 hpl (by omega)
      obtain ⟨d0, d1, d2, d3, d4, d5⟩ := hcl i x hxi
      have W1 := rwaits_any x wr
      have HR := Lib.hid hR
      have HR0 := Lib.hid hR0
      have Hx := Lib.hid hx
      have Hxi := Lib.hid hxi
      have Hpl := Lib.hid hpl
      have hne := hR.row_ne
      have hxb := Hb.out x (List.mem_of_getElem? hx)
      obtain ⟨m, hm⟩ : ∃ m, (tl T i).length = m := ⟨_, rfl⟩
      have hml := tl_len T i
      rw [hm] at hrow hml
      obtain ⟨Ao, co, rfl⟩ := owns_form hrow
      have Hm := Lib.hid hm
      have Hrow := Lib.hid hrow
      obtain ⟨id, task, st, left, kind, val⟩ := x
      simp only [entV, Ent.cells] at W1 d0 d1 d2 d3 d4 d5 hxb
      obtain ⟨bw, hbw⟩ : ∃ bw, (⟨id, task, st, left, kind, val⟩ : Ent).waits = bw := ⟨_, rfl⟩
      rw [hbw] at W1 hxb
      have Hbw := Lib.hid hbw
      clear hR hR0 hcl hx hxi hpl hu hrow hm hbw HS
      cases bw with
      | false =>
        have HT : Hid (tl T (i + 1) = tl T i) := Lib.hid (tl_no Hx.out (by unfold tg; rw [Hbw.out]; rfl))
        have HP : Hid (partT tgo T (i + 1) = partT tgo T i) := Lib.hid (by
          rw [← part_set (g := tgo) Hx.out, show tgo ⟨id, task, st, left, kind, val⟩ = ⟨id, task, st, left, kind, val⟩ by unfold tgo; rw [Hbw.out]; rfl, setT_same Hxi.out])
        go_wp2_with (go_at_call 43; (with_reducible refine W1.mono ?_); rintro e_ w1 ⟨rfl, hb1⟩)
        go_roundw
        case rel => exact ⟨i + 1, by omega, by go_num, by rw [HP.out]; exact HR.out.below hb1, Hu.out.below hb1, by rw [HT.out, Hm.out]; exact own_kept Hrow.out (below_upto (S := F0) hb1) (fun _ h => False.elim h)⟩
        case measure => (simp [intOf] <;> omega)
      | true =>
        obtain ⟨hx1, hx2⟩ := hxb rfl
        have hwl : IntKind.i64.wrap (left - 1) = left - 1 := IntWalk.i64_in _ (by omega)
        by_cases h1 : left = 1
        · subst h1
          have HT : Hid (tl T (i + 1) = tl T i ++ [id]) := Lib.hid (tl_yes Hx.out (by unfold tg; rw [Hbw.out]; rfl))
          go_upto_region 7 with (go_at_call 43; (with_reducible refine W1.mono ?_); rintro e_ w1 ⟨rfl, hb1⟩; have e0 := keep_cell hb1 cL; have e3 := keep_cell hb1 d3; have zf := fun k => own_fz (own_kept HR0.out (below_upto (S := F0) hb1) (fun _ h => False.elim h)) k)
          have R1 := own_kept HR0.out (below_upto (S := F0) hb1) (fun _ h => False.elim h)
          have r1 := ent_set (y' := ⟨id, task, st, 0, kind, val⟩) (u := .int .i64 0) R1 Hxi.out (j := 3) (by omega) rfl Hpl.out
          have hT1 := (HR.out.below hb1).turned Hpl.out (set_upto w1 g (o + i * 6 + 3) (.int .i64 0)) r1
          have HG := Lib.hid (rgone_any r _ _ i 6 ⟨id, task, st, 0, kind, val⟩ _ hT1 (by show ((partT tgo T i).L.set i _).length ≤ 8; rw [List.length_set, Hpl.out]; exact hl) (List.getElem?_set_self (by rw [Hpl.out]; exact hlt)))
          have hw0 : (⟨id, task, st, 0, kind, val⟩ : Ent).waits = true := Hbw.out
          rw [hw0] at HG
          have HT1 := Lib.hid hT1
          have hU1 := Lib.hid ((below_upto (S := ROwn r (.slice (some ⟨g, o, none⟩) n c)) hb1).trans (set_upto w1 g (o + i * 6 + 3) (.int .i64 0)) (fun k hk => .inl (.inr (by rw [hk]; rfl))))
          have c0 := hT1.c0
          obtain ⟨g', o', hgo, hcl⟩ := ents_at (show World.ownsRow _ 0 37 6 (.slice (some ⟨g, o, none⟩) n c) n _ from r1) (by rw [List.length_set, Hpl.out]) (by omega)
          cases hgo
          obtain ⟨_, _, _, f3, _, _⟩ := hcl i ⟨id, task, st, 0, kind, val⟩ (List.getElem?_set_self (by rw [Hpl.out]; exact hlt))
          obtain ⟨W, hW⟩ : ∃ W, w1.setCell ⟨g, o + i * 6 + 3, none⟩ (.int .i64 0) = W := ⟨_, rfl⟩
          rw [hW] at HG HT1 hU1 c0 f3 ⊢
          have HHW := Lib.hid hW
          clear R1 r1 hT1 hcl hw0 hW zf e0 e3 hb1 cL d0 d1 d2 d3 d4 d5 W1
          go_upto_region 9 with (go_at_call 42; (with_reducible refine HG.out.mono ?_); rintro e_ w2 ⟨rfl, hR2, hu2⟩)
          have hP2 : RefAt w2 r (.slice (some ⟨g, o, none⟩) n c) (partT tgo T (i + 1)) := by
            have e : setT (setT (partT tgo T i) i ⟨id, task, st, 0, kind, val⟩) i ((⟨id, task, st, 0, kind, val⟩ : Ent).go 6) = partT tgo T (i + 1) := by
              rw [← part_set (g := tgo) Hx.out]
              unfold setT
              rw [List.set_set]
              congr 2
              unfold tgo gt
              rw [Hbw.out]
              rfl
            rw [← e]; exact hR2
          have hUU : Upto (ROwn r (.slice (some ⟨g, o, none⟩) n c)) wr w2 := hU1.out.then hu2
          have hrow2 := own_kept Hrow.out hUU (fun k hk ho => by have := Hown.out k hk; have := (own_lt Hrow.out ho).2; omega)
          have b0 := hP2.c0
          have hr2 := hP2.row
          have hpl2 : (partT tgo T (i + 1)).L.length = n := by rw [part_len, Hn.out]
          rw [hpl2] at hr2
          obtain ⟨g', o', hgo, hcl⟩ := ents_at hr2 hpl2 (by omega)
          cases hgo
          have hi2 : (partT tgo T (i + 1)).L[i]? = some (tgo ⟨id, task, st, 1, kind, val⟩) := by
            rw [← part_set (g := tgo) Hx.out]
            exact List.getElem?_set_self (by rw [Hpl.out]; exact hlt)
          obtain ⟨b1, _⟩ := hcl i _ hi2
          have hid2 : (tgo ⟨id, task, st, 1, kind, val⟩).id = id := by unfold tgo; rw [Hbw.out]; rfl
          rw [hid2] at b1
          have hsz2 := hUU.size
          have HP2 := Lib.hid hP2
          have HUU := Lib.hid hUU
          have Hrow2 := Lib.hid hrow2
          clear hcl hi2 hid2 hr2 hpl2 hR2 hu2 hP2 hUU c0 f3 HG
          go_wp2_with (at_builtin; refine wpList_append_own_at _ rfl _ _ 30 rfl w.heap.size 23 i0 (.int .u64 0) 1 8 under30 hi0 hz0 hz1 hz2 rfl (by decide) _ _ _ rfl (hrow2.alloc _) ⟨w2.heap.size, 0, none⟩ 1 1 [.int .u64 id] rfl rfl (cell_one_new _ _ _) (by simp [Value.oneCell']) (by unfold maxLen; omega) (by omega) (by simp; omega) ?_; intro v' w5 hown' hg5 hnil5 hat5; go_frame)
          have hu5 : Upto (fun k => (Value.slice Ao m co).ownBlock = some k) w2 w5 := ((Upto.refl _ w2).alloc _).grown hg5 (fun k hk => .inl hk)
          have H5 := Lib.hid hu5
          have HO5 := Lib.hid hown'
          clear hown' hg5 hnil5 hat5 hrow2 hu5
          go_roundw
          case rel => exact ⟨i + 1, by omega, by go_num, HP2.out.upto H5.out (fun k hk ho => by have := Hown.out k hk; have := (own_lt Hrow.out ho).2; omega), (Hu.out.then HUU.out).trans H5.out (fun k hk => .inr (own_lt Hrow.out hk).2), by rw [HT.out, List.length_append, Hm.out]; simpa using HO5.out⟩
          case measure => (simp [intOf] <;> omega)
        · have h1E : (left - 1 == 0) = false := by simp; omega
          have HT : Hid (tl T (i + 1) = tl T i) := Lib.hid (tl_no Hx.out (by unfold tg; rw [Hbw.out]; simpa using h1))
          have h1f : (left - 1 = 0) = False := eq_false (by omega)
          have HP : Hid (partT tgo T (i + 1) = setT (partT tgo T i) i ⟨id, task, st, left - 1, kind, val⟩) := Lib.hid (by
            rw [← part_set (g := tgo) Hx.out]
            congr 1
            unfold tgo gt
            rw [Hbw.out, if_pos rfl, if_neg h1])
          clear h1
          go_upto_region 7 with (go_at_call 43; (with_reducible refine W1.mono ?_); rintro e_ w1 ⟨rfl, hb1⟩; have e0 := keep_cell hb1 cL; have e3 := keep_cell hb1 d3; have zf := fun k => own_fz (own_kept HR0.out (below_upto (S := F0) hb1) (fun _ h => False.elim h)) k)
          have R1 := own_kept HR0.out (below_upto (S := F0) hb1) (fun _ h => False.elim h)
          have r1 := ent_set (y' := ⟨id, task, st, left - 1, kind, val⟩) (u := .int .i64 (left - 1)) R1 Hxi.out (j := 3) (by omega) rfl Hpl.out
          have hT1 := (HR.out.below hb1).turned Hpl.out (set_upto w1 g (o + i * 6 + 3) (.int .i64 (left - 1))) r1
          rw [← HP.out] at hT1
          have HT1 := Lib.hid hT1
          have hU1 := Lib.hid ((below_upto (S := ROwn r (.slice (some ⟨g, o, none⟩) n c)) hb1).trans (set_upto w1 g (o + i * 6 + 3) (.int .i64 (left - 1))) (fun k hk => .inl (.inr (by rw [hk]; rfl))))
          have c0 := hT1.c0
          obtain ⟨g', o', hgo, hcl⟩ := ents_at (show World.ownsRow _ 0 37 6 (.slice (some ⟨g, o, none⟩) n c) n _ from r1) (by rw [List.length_set, Hpl.out]) (by omega)
          cases hgo
          obtain ⟨_, _, _, f3, _, _⟩ := hcl i ⟨id, task, st, left - 1, kind, val⟩ (List.getElem?_set_self (by rw [Hpl.out]; exact hlt))
          obtain ⟨W, hW⟩ : ∃ W, w1.setCell ⟨g, o + i * 6 + 3, none⟩ (.int .i64 (left - 1)) = W := ⟨_, rfl⟩
          rw [hW] at HT1 hU1 c0 f3 ⊢
          have HHW := Lib.hid hW
          clear R1 r1 hT1 hcl hW zf e0 e3 hb1 cL d0 d1 d2 d3 d4 d5 W1
          go_wp2
          go_roundw
          case rel => exact ⟨i + 1, by omega, by go_num, HT1.out, Hu.out.then hU1.out, by rw [HT.out, Hm.out]; exact own_kept Hrow.out hU1.out (fun k hk ho => by have := Hown.out k hk; have := (own_lt Hrow.out ho).2; omega)⟩
          case measure => (simp [intOf] <;> omega)
    · obtain rfl : i = n := by omega
      rw [tick_part T Hn.out] at hR
      obtain ⟨m, hm⟩ : ∃ m, (tl T i).length = m := ⟨_, rfl⟩
      rw [hm] at hrow
      obtain ⟨Ao, co, rfl⟩ := owns_form hrow
      have HP : Hid (RTickPost r (.slice A i c) T w (.returned (.slice Ao m co)) wr) := Lib.hid ⟨Ao, m, co, rfl, by rw [tick_ids Hr.out Hn.out]; exact hm, by rw [tick_ids Hr.out Hn.out]; exact hrow, hR, hu⟩
      clear hR hu hrow hm
      go_wp2
      go_ret
      exact HP.out
end Go.Proofs.Ytfknkkcpieaikaa
