/- The reference's cut and Take. Conditions: the link lies at its block. -/
import Derived.Test.YtomhnabgdbpoiaaRSend
import Derived.Test.YtomhnabgdbpoiaaTake
import Derived.Deep.RegionWith
namespace Go.Proofs.Ytomhnabgdbpoiaa
open Go.RowKit
attribute [local go_sem ↓] Go.wp_at_zero Go.wp_at_succ
set_option linter.unusedVariables false
set_option linter.unusedSimpArgs false
namespace R
theorem cut_close {w w2 : World} {g : Nat} {st : St} {F : Nat → Prop} {v : Bool → Value} {us : Bool → List Value} {gs : Bool → List Nat} (hP : Parts w g st F v us gs) (up : Bool) {k : Nat} {v2 : Value} {n2 : Nat} {xs2 : List Value}
    (hk : k < (st up).length) (U2 : Upto (fun _ => False) w w2) (hown2 : w2.ownsRow 0 30 1 v2 n2 xs2) (hxs : xs2 = (us up).take k ++ (us up).drop (k + 1)) (hn2 : n2 = xs2.length)
    (hat : ∀ b, v2.ownBlock = some b → w.heap.size ≤ b) (b2 : w2.heap[g]? = some (.cells #[v true, v false] 46 (0, 0))) (w3 : World) (hw3 : w3 = w2.setCell ⟨g, if up then 0 else 1, none⟩ v2) :
    ∃ gb, (gs up)[k]? = some gb ∧ LinkPost w g F (Gone gb) (upd st up ((st up).take k ++ (st up).drop (k + 1))) w3 ∧ Upto (fun k => k = g ∨ (v up).ownBlock = some k) w w3 := by
  subst hw3 hn2
  have hlen := hP.len up
  have hgl := (hP.frms up).lens.2
  have hfr := hP.frms up
  have hU2 : Upto (fun k => k = g ∨ (v up).ownBlock = some k) w w2 := U2.mono (fun _ h => h.elim)
  have hU3 := hU2.setCell (p := ⟨g, if up then 0 else 1, none⟩) (.inl (.inl rfl)) v2
  have hne : v2.ownBlock ≠ some g := fun e => by
    obtain ⟨cs, hc⟩ := own_block_type hown2 e
    exact cells_ne hc b2 (by decide) rfl
  have hsub : (gs up).take k ++ (gs up).drop (k + 1) = (gs up).eraseIdx k := (List.eraseIdx_eq_take_drop_succ _ _).symm
  refine ⟨(gs up)[k]'(by omega), List.getElem?_eq_getElem _, ?_, hU3⟩
  refine hP.update (Gone _) up v2 xs2 ((gs up).take k ++ (gs up).drop (k + 1)) _ hU3 ?_ ?_ ?_ ?_ ?_ ?_ ?_ ?_
  · rw [cells_set b2, Parts.set]
  · exact ownsRow_setCell_other hown2 hne _
  · rw [hxs]
    have hx : ∀ j ∈ (gs up).take k ++ (gs up).drop (k + 1), ¬ (j = g ∨ (v up).ownBlock = some j) := fun j hj h => by
      have hj' : j ∈ gs up := (List.mem_append.1 hj).elim List.mem_of_mem_take List.mem_of_mem_drop
      rcases h with h | h
      · exact hP.frm_ne_g up hj' h
      · exact hP.frm_ne_row up up hj' h rfl
    exact ((hfr.take_ k).append (hfr.drop_ (k + 1))).upto hU3 hx
  · rw [hsub]; exact (List.eraseIdx_sublist _ _).nodup (hP.nodup up)
  · have := hP.few up; simp; omega
  · intro j hj
    obtain ⟨cs, hc⟩ := own_block_type hown2 hj
    exact .inr ⟨hat j hj, by have := lt_of_block hc; simpa [World.setCell] using this⟩
  · intro j hj
    exact .inl ((List.mem_append.1 hj).elim List.mem_of_mem_take List.mem_of_mem_drop)
  · rintro j rfl
    refine ⟨List.getElem_mem _, ?_⟩
    rw [hsub]
    intro hm
    have hnd := hP.nodup up
    rw [List.mem_eraseIdx_iff_getElem] at hm
    obtain ⟨i, hi, hne', he⟩ := hm
    exact hne' ((List.getElem_inj hnd).1 he)


theorem frms_slices {w : World} {vs : List Value} {gs : List Nat} {fs : List (List Int)} (h : Frms w vs gs fs) : ∀ u ∈ vs, ∃ A m c, u = .slice A m c := by
  intro u hu
  obtain ⟨i, hi, he⟩ := List.mem_iff_getElem.1 hu
  obtain ⟨v, g, b, h1, _, _, h4, _⟩ := h.at_ i (by have := h.lens.1; omega)
  rw [List.getElem?_eq_getElem hi, he] at h1
  obtain rfl : u = v := Option.some.inj h1
  obtain ⟨A, c, e⟩ := owns_form h4.1
  exact ⟨A, _, c, e⟩
def NewRow (w : World) (xs : List Value) (e : Ending) (w' : World) : Prop :=
  ∃ v2 n2, e = .returned v2 ∧ n2 = xs.length ∧ w'.ownsRow 0 30 1 v2 n2 xs ∧ Upto (fun _ => False) w w' ∧ ∀ b, v2.ownBlock = some b → w.heap.size ≤ b
def CutRel (us : List Value) (k : Nat) (w : World) (i ov : Value) (wr : World) : Prop :=
  ∃ j : Nat, j ≤ us.length ∧ i = .int .i64 j ∧ wr.ownsRow 0 30 1 ov ((us.take j).eraseIdx k).length ((us.take j).eraseIdx k) ∧ Upto (fun _ => False) w wr ∧ ∀ b, ov.ownBlock = some b → w.heap.size ≤ b
theorem erase_at {us : List Value} {k : Nat} {u : Value} (h : us[k]? = some u) : (us.take (k + 1)).eraseIdx k = (us.take k).eraseIdx k := by
  have hl := (List.getElem?_eq_some_iff.1 h).1
  rw [List.take_add_one, h, List.eraseIdx_append_of_length_le (by rw [List.length_take]; omega), List.eraseIdx_of_length_le (by rw [List.length_take]; omega : (us.take k).length ≤ k)]
  simp [List.length_take, Nat.min_eq_left (Nat.le_of_lt hl)]
theorem erase_past {us : List Value} {j k : Nat} {u : Value} (h : us[j]? = some u) (hne : j ≠ k) : (us.take (j + 1)).eraseIdx k = (us.take j).eraseIdx k ++ [u] := by
  have hl := (List.getElem?_eq_some_iff.1 h).1
  have hlen : (us.take j).length = j := by simp [List.length_take, Nat.min_eq_left (Nat.le_of_lt hl)]
  rw [List.take_add_one, h]
  by_cases hk : k < j
  · exact List.eraseIdx_append_of_lt_length (by omega) _
  · rw [List.eraseIdx_append_of_length_le (by omega), List.eraseIdx_of_length_le (by omega : (us.take j).length ≤ k), hlen]
    simp only [Option.toList_some]
    rw [List.eraseIdx_of_length_le (by simp; omega)]

set_option maxRecDepth 100000 in
set_option maxHeartbeats 1000000 in
theorem cut_any (v : Value) (us : List Value) (k : Nat) (w : World) (hr : w.ownsRow 0 30 1 v us.length us) (h1 : ∀ u ∈ us, ∃ A m c, u = .slice A m c) (hl : us.length ≤ 64) (hk : k < us.length) :
    Calls Try.prog 29 #[v, .int .i64 k] w (NewRow w (us.take k ++ us.drop (k + 1))) := by
  obtain ⟨i30, hi30, hz30, hs30, hb30⟩ := info_parts info30
  obtain ⟨n, hn⟩ : ∃ n, us.length = n := ⟨_, rfl⟩
  rw [hn] at hr hl hk
  obtain ⟨gu, cu, rfl, _, _⟩ := hr.form (by omega)
  have hcells := hr.cells (g := gu) rfl
  have Hcells := Lib.hid hcells
  have Hn := Lib.hid hn
  have H1 := Lib.hid h1
  clear hcells hr h1
  go_enter Try.func29, Try.ntmps29
  go_wp2
  go_loopw [6, 5] (fun i ov wr => CutRel us k w i ov wr) (fun i _ _ => n - (intOf i).toNat)
  case atStart => exact ⟨0, by omega, rfl, ⟨by simp, .inl ⟨rfl, rfl⟩⟩, Upto.refl _ _, fun b hb => by simp [Value.ownBlock] at hb⟩
  case round =>
    obtain ⟨j, hj, rfl, hown, hU, hat⟩ := hrel
    rw [hn] at hj
    clear hn
    by_cases hlt : j < n
    · obtain ⟨u, hu⟩ : ∃ u, us[j]? = some u := ⟨_, List.getElem?_eq_getElem (by rw [Hn.out]; exact hlt)⟩
      have e0 : wr.cell? ⟨gu, j, none⟩ = some u := by
        have := hU.cell (fun h => h.elim) (Hcells.out j u hu)
        rwa [addr_add, Nat.zero_add] at this
      obtain ⟨Aq, mq, cq, rfl⟩ := H1.out u (List.mem_of_getElem? hu)
      have hlt' : (j : Int) < n := by omega
      by_cases hjk : j = k
      · have he := erase_at (us := us) (k := j) hu
        have He := Lib.hid he
        have hq : ((j : Int) != k) = false := by simp [hjk]
        have Hjk := Lib.hid hjk
        clear hu he hjk
        go_wp2
        go_roundw
        case rel =>
          have hjk := Hjk.out
          refine ⟨j + 1, by rw [Hn.out]; omega, by go_num, ?_, hU, hat⟩
          rw [← hjk] at hown ⊢
          rw [He.out]
          exact hown
        case measure => (simp [intOf] <;> omega)
      · have he := erase_past hu hjk
        have hq : ((j : Int) != k) = true := by simp; omega
        have He := Lib.hid he
        have hle : ((us.take j).eraseIdx k).length ≤ 64 := Nat.le_trans (List.length_eraseIdx_le _ _) (by simp; omega)
        obtain ⟨xs, hxs⟩ : ∃ xs, (us.take j).eraseIdx k = xs := ⟨_, rfl⟩
        rw [hxs] at hown hle he
        have Hxs := Lib.hid hxs
        have He2 := Lib.hid he
        clear hu he hxs hjk
        go_wp2_with (at_builtin; refine wpList_append_own_at _ rfl (Operand.tmp 16) (Operand.tmp 21) _ rfl 0 30 i30 _ 1 24 Try.underlying22 hi30 hz30 hs30 hb30 rfl (by omega) _ xs.length xs rfl (hown.alloc _) ⟨wr.heap.size, 0, none⟩ 1 1 [.slice Aq mq cq] rfl rfl (World.news_of_block (heap_alloc_new wr _)) (by simp [Value.oneCell']) (by unfold maxLen; omega) (by omega) (Nat.zero_le _) ?_; intro v1 w1 hown1 hgrow1 hnil1 hat1)
        go_roundw
        case rel =>
          have hU1 := (hU.alloc (.cells #[.slice Aq mq cq] 30)).grown hgrow1 (fun b hb => .inr (hat b hb))
          have hsz := hU.size
          refine ⟨j + 1, by rw [Hn.out]; omega, by go_num, ?_, hU1, fun b hb => ?_⟩
          · rw [He2.out]
            simpa using hown1
          · rcases hat1 with h | h
            · exact hat b (h ▸ hb)
            · rw [h] at hb
              injection hb with hb
              simp at hb
              omega
        case measure => (simp [intOf] <;> omega)
    · obtain rfl : j = n := by omega
      go_wp2
      go_ret
      have hx : (us.take j).eraseIdx k = us.take k ++ us.drop (k + 1) := by
        rw [List.take_of_length_le (by rw [Hn.out]; exact Nat.le_refl _), List.eraseIdx_eq_take_drop_succ]
      rw [hx] at hown
      exact ⟨_, _, rfl, rfl, hown, hU, hat⟩

def Takes (w : World) (g : Nat) (F : Nat → Prop) (st : St) (up : Bool) (k : Nat) (e : Ending) (w' : World) : Prop :=
  ∃ (fv : Value) (gb : Nat) (bs : List Int), e = .returned (.tuple #[fv, .bool true]) ∧ (st up)[k]? = some bs ∧ Frm w' fv gb bs ∧ 0 < bs.length ∧ bs.length ≤ 1024 ∧ F gb ∧ LinkPost w g F (Gone gb) (upd st up ((st up).take k ++ (st up).drop (k + 1))) w'

set_option maxRecDepth 100000 in
theorem take_true (g : Nat) (st : St) (F : Nat → Prop) (v : Bool → Value) (us : Bool → List Value) (gs : Bool → List Nat) (w : World) (hP : Parts w g st F v us gs) (k : Nat) (hk : k < (st true).length) :
    Calls Try.prog 23 #[.pointer (some ⟨g, 0, none⟩), .bool true, .int .i64 k] w (Takes w g F st true k) := by
  have C := cut_any (v true) (us true) k w.drew (hP.owns true) (frms_slices (hP.frms true)) (by rw [hP.len true]; exact hP.few true) (by rw [hP.len true]; exact hk)
  obtain ⟨Au, cu, hv⟩ := owns_form (hP.owns true)
  have hg := hP.blk
  have hr := hP.owns true
  rw [hv] at hg hr C
  have hlen := hP.len true
  obtain ⟨fv, gb, bs, hfv, hgb, hbs, hfr, hb0, hb1⟩ := (hP.frms true).at_ k hk
  obtain ⟨n, hn⟩ : ∃ n, (us true).length = n := ⟨_, rfl⟩
  rw [hn] at hr hg hv C
  have hkn : k < n := by omega
  obtain ⟨gu, hgu⟩ : ∃ gu, Au = some ⟨gu, 0, none⟩ := by
    obtain ⟨gg, cap, e, _⟩ := hr.form (by omega)
    injection e with e1 _
    exact ⟨gg, e1⟩
  subst hgu
  have c0 : w.cell? ⟨g, 0, none⟩ = some (.slice (some ⟨gu, 0, none⟩) n cu) := cell_of_row w g 0 _ _ _ hg
  have c1 : w.cell? ⟨gu, k, none⟩ = some fv := by
    have := hr.cells (g := gu) rfl k fv hfv
    rwa [addr_add, Nat.zero_add] at this
  have HP := Lib.hid hP
  have Hv := Lib.hid hv
  have Hn := Lib.hid hn
  have Hg := Lib.hid hg
  have Hbs := Lib.hid hbs
  have Hgb := Lib.hid hgb
  have Hfr := Lib.hid hfr
  have C' := Lib.hid C
  clear hP hv hn hg hfv hlen hr hbs hgb hfr C
  have hk0 : ¬ (k : Int) < 0 := by omega
  have hkn2 : ¬ (n : Int) ≤ k := by omega
  have hkn3 : (k : Int) < n := by omega
  go_enter Try.func23, Try.ntmps23
  go_wp2_with (first | (go_at_call 28; refine (row_true _).mono ?_; rintro e w' ⟨rfl, rfl⟩))
  go_region_with ((go_at_call 29; refine C'.out.mono ?_; rintro e w1 ⟨v2, n2, rfl, hn2, hown2, U2', hat2⟩; have U2 : Upto (fun _ => False) w w1 := (Upto.refl _ w).drew.trans U2' (fun _ h => h.elim); have b2 : w1.heap[g]? = some (.cells #[.slice (some ⟨gu, 0, none⟩) n cu, v false] 46 (0, 0)) := U2.blk (fun h => h.elim) Hg.out; have d0 : w1.cell? ⟨g, 0, none⟩ = some (.slice (some ⟨gu, 0, none⟩) n cu) := cell_of_row w1 g 0 _ _ _ b2; have f0 : w1.frozen? ⟨g, 0, none⟩ = false := frozen_of_row b2; obtain ⟨A2, c2, e2⟩ := owns_form hown2; subst e2; replace b2 := Lib.hid b2; replace hn2 := Lib.hid hn2))
  all_goals
    have b2' := b2.out
    have hfr1 := Hfr.out.upto U2 (fun h => h.elim)
    clear b2
    go_wp2
    go_ret2
    obtain ⟨gb', hgb', hLP, hUU⟩ := cut_close HP.out true hk U2 hown2 rfl hn2.out hat2 (by rw [← Hv.out] at b2'; exact b2') _ rfl
    obtain rfl : gb = gb' := Option.some.inj (Hgb.out.symm.trans hgb')
    have hgF : F gb := HP.out.frmF true gb (List.mem_of_getElem? hgb')
    refine ⟨fv, gb, bs, rfl, Hbs.out, ?_, hb0, hb1, hgF, hLP⟩
    exact Hfr.out.upto hUU (fun hs => by
      rcases hs with hs | hs
      · exact HP.out.frm_ne_g true (List.mem_of_getElem? hgb') hs
      · exact HP.out.frm_ne_row true true (List.mem_of_getElem? hgb') hs rfl)

set_option maxRecDepth 100000 in
theorem take_false (g : Nat) (st : St) (F : Nat → Prop) (v : Bool → Value) (us : Bool → List Value) (gs : Bool → List Nat) (w : World) (hP : Parts w g st F v us gs) (k : Nat) (hk : k < (st false).length) :
    Calls Try.prog 23 #[.pointer (some ⟨g, 0, none⟩), .bool false, .int .i64 k] w (Takes w g F st false k) := by
  have C := cut_any (v false) (us false) k w.drew (hP.owns false) (frms_slices (hP.frms false)) (by rw [hP.len false]; exact hP.few false) (by rw [hP.len false]; exact hk)
  obtain ⟨Au, cu, hv⟩ := owns_form (hP.owns false)
  have hg := hP.blk
  have hr := hP.owns false
  rw [hv] at hg hr C
  have hlen := hP.len false
  obtain ⟨fv, gb, bs, hfv, hgb, hbs, hfr, hb0, hb1⟩ := (hP.frms false).at_ k hk
  obtain ⟨n, hn⟩ : ∃ n, (us false).length = n := ⟨_, rfl⟩
  rw [hn] at hr hg hv C
  have hkn : k < n := by omega
  obtain ⟨gu, hgu⟩ : ∃ gu, Au = some ⟨gu, 0, none⟩ := by
    obtain ⟨gg, cap, e, _⟩ := hr.form (by omega)
    injection e with e1 _
    exact ⟨gg, e1⟩
  subst hgu
  have c0 : w.cell? ⟨g, 1, none⟩ = some (.slice (some ⟨gu, 0, none⟩) n cu) := cell_of_row w g 1 _ _ _ hg
  have c1 : w.cell? ⟨gu, k, none⟩ = some fv := by
    have := hr.cells (g := gu) rfl k fv hfv
    rwa [addr_add, Nat.zero_add] at this
  have HP := Lib.hid hP
  have Hv := Lib.hid hv
  have Hn := Lib.hid hn
  have Hg := Lib.hid hg
  have Hbs := Lib.hid hbs
  have Hgb := Lib.hid hgb
  have Hfr := Lib.hid hfr
  have C' := Lib.hid C
  clear hP hv hn hg hfv hlen hr hbs hgb hfr C
  have hk0 : ¬ (k : Int) < 0 := by omega
  have hkn2 : ¬ (n : Int) ≤ k := by omega
  have hkn3 : (k : Int) < n := by omega
  go_enter Try.func23, Try.ntmps23
  go_wp2_with (first | (go_at_call 28; refine (row_false _).mono ?_; rintro e w' ⟨rfl, rfl⟩))
  go_region_with ((go_at_call 29; refine C'.out.mono ?_; rintro e w1 ⟨v2, n2, rfl, hn2, hown2, U2', hat2⟩; have U2 : Upto (fun _ => False) w w1 := (Upto.refl _ w).drew.trans U2' (fun _ h => h.elim); have b2 : w1.heap[g]? = some (.cells #[v true, .slice (some ⟨gu, 0, none⟩) n cu] 46 (0, 0)) := U2.blk (fun h => h.elim) Hg.out; have d0 : w1.cell? ⟨g, 1, none⟩ = some (.slice (some ⟨gu, 0, none⟩) n cu) := cell_of_row w1 g 1 _ _ _ b2; have f0 : w1.frozen? ⟨g, 1, none⟩ = false := frozen_of_row b2; obtain ⟨A2, c2, e2⟩ := owns_form hown2; subst e2; replace b2 := Lib.hid b2; replace hn2 := Lib.hid hn2))
  all_goals
    have b2' := b2.out
    have hfr1 := Hfr.out.upto U2 (fun h => h.elim)
    clear b2
    go_wp2
    go_ret2
    obtain ⟨gb', hgb', hLP, hUU⟩ := cut_close HP.out false hk U2 hown2 rfl hn2.out hat2 (by rw [← Hv.out] at b2'; exact b2') _ rfl
    obtain rfl : gb = gb' := Option.some.inj (Hgb.out.symm.trans hgb')
    have hgF : F gb := HP.out.frmF false gb (List.mem_of_getElem? hgb')
    refine ⟨fv, gb, bs, rfl, Hbs.out, ?_, hb0, hb1, hgF, hLP⟩
    exact Hfr.out.upto hUU (fun hs => by
      rcases hs with hs | hs
      · exact HP.out.frm_ne_g false (List.mem_of_getElem? hgb') hs
      · exact HP.out.frm_ne_row false false (List.mem_of_getElem? hgb') hs rfl)

set_option maxRecDepth 100000 in
theorem take_no_true (g : Nat) (st : St) (F : Nat → Prop) (v : Bool → Value) (us : Bool → List Value) (gs : Bool → List Nat) (w : World) (hP : Parts w g st F v us gs) (k : Int) (hk : k < 0 ∨ (st true).length ≤ k) :
    Calls Try.prog 23 #[.pointer (some ⟨g, 0, none⟩), .bool true, .int .i64 k] w (Same (.tuple #[.slice none 0 0, .bool false]) w) := by
  obtain ⟨Au, cu, hv⟩ := owns_form (hP.owns true)
  have hg := hP.blk
  rw [hv] at hg
  have hlen := hP.len true
  obtain ⟨n, hn⟩ : ∃ n, (us true).length = n := ⟨_, rfl⟩
  rw [hn] at hg hlen
  rw [← hlen] at hk
  have c0 : w.cell? ⟨g, 0, none⟩ = some (.slice Au n cu) := cell_of_row w g 0 _ _ _ hg
  clear hg hv hn hlen hP
  by_cases q : k < 0
  · have l1 : decide (k < 0) = true := by simpa using q
    clear hk
    go_enter Try.func23, Try.ntmps23
    go_wp2_with (first | (go_at_call 28; refine (row_true _).mono ?_; rintro e w' ⟨rfl, rfl⟩))
    go_ret2
    exact ⟨rfl, rfl⟩
  · have l1 : decide (k < 0) = false := by simpa using q
    have l2 : decide ((n : Int) ≤ k) = true := by simp; omega
    clear hk
    go_enter Try.func23, Try.ntmps23
    go_wp2_with (first | (go_at_call 28; refine (row_true _).mono ?_; rintro e w' ⟨rfl, rfl⟩))
    go_ret2
    exact ⟨rfl, rfl⟩

set_option maxRecDepth 100000 in
theorem take_no_false (g : Nat) (st : St) (F : Nat → Prop) (v : Bool → Value) (us : Bool → List Value) (gs : Bool → List Nat) (w : World) (hP : Parts w g st F v us gs) (k : Int) (hk : k < 0 ∨ (st false).length ≤ k) :
    Calls Try.prog 23 #[.pointer (some ⟨g, 0, none⟩), .bool false, .int .i64 k] w (Same (.tuple #[.slice none 0 0, .bool false]) w) := by
  obtain ⟨Au, cu, hv⟩ := owns_form (hP.owns false)
  have hg := hP.blk
  rw [hv] at hg
  have hlen := hP.len false
  obtain ⟨n, hn⟩ : ∃ n, (us false).length = n := ⟨_, rfl⟩
  rw [hn] at hg hlen
  rw [← hlen] at hk
  have c0 : w.cell? ⟨g, 1, none⟩ = some (.slice Au n cu) := cell_of_row w g 1 _ _ _ hg
  clear hg hv hn hlen hP
  by_cases q : k < 0
  · have l1 : decide (k < 0) = true := by simpa using q
    clear hk
    go_enter Try.func23, Try.ntmps23
    go_wp2_with (first | (go_at_call 28; refine (row_false _).mono ?_; rintro e w' ⟨rfl, rfl⟩))
    go_ret2
    exact ⟨rfl, rfl⟩
  · have l1 : decide (k < 0) = false := by simpa using q
    have l2 : decide ((n : Int) ≤ k) = true := by simp; omega
    clear hk
    go_enter Try.func23, Try.ntmps23
    go_wp2_with (first | (go_at_call 28; refine (row_false _).mono ?_; rintro e w' ⟨rfl, rfl⟩))
    go_ret2
    exact ⟨rfl, rfl⟩
end R
end Go.Proofs.Ytomhnabgdbpoiaa
