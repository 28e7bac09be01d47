/- The document's table: Send, Reply. Conditions: it can be read; it holds at most eight; its numbers rise. -/
import Derived.Test.YtfknkkcpieaikaaR2
import Derived.BigRegion
namespace Go.Proofs.Ytfknkkcpieaikaa
open Go.RowKit
set_option linter.unusedVariables false
set_option linter.unusedSimpArgs false

theorem send_at {T : Tb} (hr : T.L.Pairwise (fun x y => x.id < y.id)) {x : Ent} {i : Nat} (hf : T.L.find? isInit = some x) (hi : T.L[i]? = some x) : sendT T = (x.sent, true, setT T i x.sent) := by
  unfold sendT
  rw [hf]
  simp only
  refine Prod.ext rfl (Prod.ext rfl ?_)
  show mapT T _ = setT T i x.sent
  unfold mapT setT
  rw [one_set hr hi]
set_option maxRecDepth 100000 in
set_option maxHeartbeats 4000000 in
theorem rsend_any (r : Nat) (v : Value) (T : Tb) (w : World) (h : RefAt w r v T) (hl : T.L.length ≤ 8) (hr : T.L.Pairwise (fun x y => x.id < y.id)) : Calls Try.prog 30 #[.pointer (some ⟨r, 0, none⟩)] w (RPost r v (sendT T).2.2 (.tuple #[entV (sendT T).1, .bool (sendT T).2.1]) w) := by
  have n6 := fun (cs : Array Value) (j : Nat) (v : Value) (hv : cs[j]? = some v) => new_cell w cs 37 j hv
  have nf : ∀ (cs : Array Value) (j : Nat), (w.alloc (.cells cs 37)).frozen? ⟨w.heap.size, j, none⟩ = false := fun cs j => new_fz w cs 37 j
  have h0 := n6 #[.int .u64 0, .int .i64 0, .int .i64 0, .int .i64 0, .int .i64 0, .int .i64 0] 0 _ rfl
  have h1 := n6 #[.int .u64 0, .int .i64 0, .int .i64 0, .int .i64 0, .int .i64 0, .int .i64 0] 1 _ rfl
  have h2 := n6 #[.int .u64 0, .int .i64 0, .int .i64 0, .int .i64 0, .int .i64 0, .int .i64 0] 2 _ rfl
  have h3 := n6 #[.int .u64 0, .int .i64 0, .int .i64 0, .int .i64 0, .int .i64 0, .int .i64 0] 3 _ rfl
  have h4 := n6 #[.int .u64 0, .int .i64 0, .int .i64 0, .int .i64 0, .int .i64 0, .int .i64 0] 4 _ rfl
  have h5 := n6 #[.int .u64 0, .int .i64 0, .int .i64 0, .int .i64 0, .int .i64 0, .int .i64 0] 5 _ rfl
  clear n6
  have cL := fun ob => keep_cell (below_alloc w ob) h.c0
  obtain ⟨A, c, rfl⟩ := owns_form h.row
  have hent := fun h0 => ents_at h.row rfl h0
  obtain ⟨n, hn⟩ : ∃ n, T.L.length = n := ⟨_, rfl⟩
  have H := Lib.hid h
  have HZ : Hid ((w.alloc Z6).heap[w.heap.size]? = some Z6) := Lib.hid (World.alloc_heap_new w _)
  rw [hn] at cL hl hent H ⊢
  have Hn := Lib.hid hn
  have Hent := Lib.hid hent
  have Hr := Lib.hid hr
  clear h hent hn hr
  go_enter Try.func30, Try.ntmps30
  go_wp2
  go_loopw [4] (fun iv wr => ∃ i : Nat, i ≤ n ∧ iv = .int .i64 i ∧ wr = w.alloc Z6 ∧ T.L.find? isInit = (T.L.drop i).find? isInit) (fun iv _ => n - (intOf iv).toNat)
  case atStart => exact ⟨0, Nat.zero_le _, rfl, rfl, rfl⟩
  case round =>
    obtain ⟨i, hi, rfl, rfl, hf⟩ := hrel
    by_cases hlt : i < n
    · have hlt' : (i : Int) < n := by omega
      obtain ⟨g, o, rfl, hcl⟩ := Hent.out (by omega)
      obtain ⟨x, hx⟩ : ∃ x, T.L[i]? = some x := ⟨_, List.getElem?_eq_getElem (by rw [Hn.out]; exact hlt)⟩
      obtain ⟨_, _, f2, _⟩ := hcl i x hx
      have d2 := keep_cell (below_alloc w Z6) f2
      rw [find_drop hx] at hf
      by_cases he : x.st = 1
      · rw [if_pos (by simpa [isInit] using he)] at hf
        have HS := Lib.hid (send_at Hr.out hf hx)
        have hA := H.out
        have hrow : w.ownsRow 0 37 6 (.slice (some ⟨g, o, none⟩) n c) n (rowE T.L) := by have := hA.row; rwa [Hn.out] at this
        have r1 := ent_set (y' := x.sent) (u := .int .i64 2) hrow hx (j := 2) (by omega) rfl Hn.out
        have hgr := hA.row_ne
        have hgw : g < w.heap.size := (own_lt H.out.row rfl).1
        have hrw := H.out.lt
        have hu1 := set_upto w g (o + i * 6 + 2) (.int .i64 2)
        have hT1 := hA.turned Hn.out hu1 r1
        have zf := fun k => own_fz hrow k
        have zf2 := fun k => own_fz (own_kept hrow (below_upto (S := F0) (below_alloc w Z6)) (fun _ h => False.elim h)) k
        have HT1 := Lib.hid (hT1.below (below_alloc _ Z6))
        have Hx := Lib.hid hx
        have Hu1 := Lib.hid (hu1.alloc Z6)
        have HR1 := Lib.hid (own_kept r1 (below_upto (S := F0) (below_alloc _ Z6)) (fun _ h => False.elim h))
        have hZ1 : ((w.setCell ⟨g, o + i * 6 + 2, none⟩ (.int .i64 2)).alloc Z6).heap[w.heap.size]? = some Z6 := by
          have := World.alloc_heap_new (w.setCell ⟨g, o + i * 6 + 2, none⟩ (.int .i64 2)) Z6
          simpa [World.setCell] using this
        have HZ1 := Lib.hid hZ1
        rw [he] at d2
        clear hf hcl f2 hA hrow hT1 hu1 r1 hx hZ1
        go_upto_region 6 with (fail)
        obtain ⟨W, hW⟩ : ∃ W, (w.setCell ⟨g, o + i * 6 + 2, none⟩ (.int .i64 2)).alloc Z6 = W := ⟨_, rfl⟩
        rw [hW] at HT1 Hu1 HR1 HZ1 ⊢
        have hZ1 := HZ1.out
        have t0 := six_cell hZ1 0 _ rfl
        have t1 := six_cell hZ1 1 _ rfl
        have t2 := six_cell hZ1 2 _ rfl
        have t3 := six_cell hZ1 3 _ rfl
        have t4 := six_cell hZ1 4 _ rfl
        have t5 := six_cell hZ1 5 _ rfl
        have tf := fun o => six_fz hZ1 o
        have e0 := HT1.out.c0
        obtain ⟨g', o', hgo, hcl⟩ := ents_at HR1.out (by rw [List.length_set]; exact Hn.out) (by omega)
        cases hgo
        obtain ⟨d0, d1, d2', d3, d4, d5⟩ := hcl i x.sent (List.getElem?_set_self (by rw [Hn.out]; exact hlt))
        have HHW := Lib.hid hW
        clear hcl d2 hZ1 hW zf zf2 h0 h1 h2 h3 h4 h5 nf cL
        obtain ⟨id, task, st, left, kind, val⟩ := x
        simp only [Ent.sent] at d0 d1 d2' d3 d4 d5
        go_wp2
        have hs := six_done HZ1.out (Ent.sent ⟨id, task, st, left, kind, val⟩)
        have hu := six_upto W w.heap.size (.int .u64 id) (.int .i64 task) (.int .i64 2) (.int .i64 left) (.int .i64 kind) (.int .i64 val)
        rw [HS.out]
        refine bodyPost_ret (res_six rfl _ _ w.heap.size _ hs rfl) rfl ⟨rfl, _, HT1.out.upto hu (fun k hk => ?_), (Hu1.out.mono (fun k hk => .inl (.inr (by rw [hk]; rfl)))).trans hu (fun k hk => .inr (by rw [hk]; exact Nat.le_refl _)), fun k h => .inl h⟩
        rcases hk with rfl | hk
        · omega
        · cases hk; exact Nat.ne_of_lt hgw
      · have heE : (x.st == 1) = false := by simpa using he
        rw [if_neg (by simpa [isInit] using he)] at hf
        have Hf := Lib.hid hf
        obtain ⟨xi, hxi⟩ : ∃ xi, x.st = xi := ⟨_, rfl⟩
        rw [hxi] at d2 heE
        clear hf hcl hx he f2
        go_wp2
        go_roundw
        case rel => exact ⟨i + 1, by omega, by go_num, trivial, Hf.out⟩
        case measure => (simp [intOf] <;> omega)
    · obtain rfl : i = n := by omega
      rw [List.drop_of_length_le (by rw [Hn.out]; exact Nat.le_refl _)] at hf
      have HS : Hid (sendT T = (Ent.nil, false, T)) := Lib.hid (by unfold sendT; rw [hf]; rfl)
      clear hf
      go_wp2
      rw [HS.out]
      refine bodyPost_ret (v := .tuple #[entV Ent.nil, .bool false]) (by rw [results_cell_tmp rfl]; unfold entV Ent.cells Ent.nil; go_simp) rfl ⟨rfl, _, H.out.below (below_alloc _ _), below_upto (below_alloc _ _), fun k h => .inl h⟩

/-! ### Reply -/
theorem reply_at {T : Tb} (hr : T.L.Pairwise (fun x y => x.id < y.id)) {id k v : Int} {x : Ent} {i : Nat} (hf : getL T.L id = some x) (hi : T.L[i]? = some x) (hst : x.st = 2) (h1 : 1 ≤ k) (h3 : k ≤ 3) : replyT T T.epoch id k v = (0, setT T i (x.rep k v)) := by
  unfold replyT
  rw [if_pos rfl, hf]
  simp only [hst, if_true, h1, h3, and_self]
  refine Prod.ext rfl ?_
  show mapT T _ = setT T i (x.rep k v)
  unfold mapT setT
  rw [one_set hr hi]
theorem at_is {r : Nat} {v : Value} {T : Tb} {id : Int} {w : World} {x : Ent} {i : Nat} (h : RefAt w r v T) (hl : T.L.length ≤ 8) (hr : T.L.Pairwise (fun x y => x.id < y.id)) (hg : getL T.L id = some x) (hi : T.L[i]? = some x) : Calls Try.prog 41 #[.pointer (some ⟨r, 0, none⟩), .int .u64 id] w (fun e w' => e = .returned (.int .i64 i) ∧ w = w') :=
  (at_some h hl hg).mono (by
    rintro e w' ⟨j, hj, rfl, rfl⟩
    obtain rfl : j = i := by
      have hi' := List.getElem?_eq_some_iff.1 hi
      have hj' := List.getElem?_eq_some_iff.1 hj
      rcases Nat.lt_trichotomy i j with hlt | e | hlt
      · have := List.pairwise_iff_getElem.1 hr i j hi'.1 hj'.1 hlt
        rw [hi'.2, hj'.2] at this; omega
      · exact e.symm
      · have := List.pairwise_iff_getElem.1 hr j i hj'.1 hi'.1 hlt
        rw [hi'.2, hj'.2] at this; omega
    exact ⟨rfl, rfl⟩)
set_option maxRecDepth 100000 in
set_option maxHeartbeats 4000000 in
theorem rreply_any (r : Nat) (vv : Value) (T : Tb) (ep id k v : Int) (w : World) (h : RefAt w r vv T) (hl : T.L.length ≤ 8) (hr : T.L.Pairwise (fun x y => x.id < y.id)) : Calls Try.prog 31 #[.pointer (some ⟨r, 0, none⟩), .int .u64 ep, .int .u64 id, .agg #[.int .i64 k, .int .i64 v]] w (RPost r vv (replyT T ep id k v).2 (.int .i64 (replyT T ep id k v).1) w) := by
  have hb0 := below_alloc w (O2 k v)
  have hA := h.below hb0
  have c4 := hA.c4
  have cL := hA.c0
  have k0 := new_cell w #[.int .i64 k, .int .i64 v] 35 0 rfl
  have k1 := new_cell w #[.int .i64 k, .int .i64 v] 35 1 rfl
  have Hsame : Hid (∃ v', RefAt (w.alloc (O2 k v)) r v' T ∧ Upto (ROwn r vv) w (w.alloc (O2 k v)) ∧ ∀ k, v'.ownBlock = some k → vv.ownBlock = some k ∨ w.heap.size ≤ k) := Lib.hid ⟨vv, hA, below_upto hb0, fun k h => .inl h⟩
  have H := Lib.hid h
  have HA := Lib.hid hA
  obtain ⟨te, hte⟩ : ∃ t, T.epoch = t := ⟨_, rfl⟩
  rw [hte] at c4
  have Hte := Lib.hid hte
  cases hg : getL T.L id with
  | none =>
    have C := Lib.hid (at_none hA hl hg)
    have hm : ((-1 : Int) < 0) = True := eq_true (by omega)
    by_cases he : ep = te
    · subst he
      have HR : Hid (replyT T ep id k v = (17, T)) := Lib.hid (by unfold replyT; rw [if_pos Hte.out.symm, hg])
      have heE : (ep == ep) = true := by simp
      clear h hA hte hg
      go_enter Try.func31, Try.ntmps31
      go_wp2_with (go_at_call 41; (with_reducible refine C.out.mono ?_); rintro e_ w1 ⟨rfl, rfl⟩)
      go_ret
      rw [HR.out]
      exact ⟨rfl, Hsame.out⟩
    · have HR : Hid (replyT T ep id k v = (22, T)) := Lib.hid (by unfold replyT; rw [if_neg (by rw [Hte.out]; exact he)])
      have heE : (ep == te) = false := by simpa using he
      clear h hA hte hg he
      go_enter Try.func31, Try.ntmps31
      go_wp2_with (go_at_call 41; (with_reducible refine C.out.mono ?_); rintro e_ w1 ⟨rfl, rfl⟩)
      go_ret
      rw [HR.out]
      exact ⟨rfl, Hsame.out⟩
  | some x =>
    obtain ⟨i, hi⟩ := List.mem_iff_getElem?.1 (getL_mem hg).1
    have hlt := (List.getElem?_eq_some_iff.1 hi).1
    have C := Lib.hid (at_is hA hl hr hg hi)
    have him : ((i : Int) < 0) = False := eq_false (by omega)
    by_cases he : ep = te
    case neg =>
      have HR : Hid (replyT T ep id k v = (22, T)) := Lib.hid (by unfold replyT; rw [if_neg (by rw [Hte.out]; exact he)])
      have heE : (ep == te) = false := by simpa using he
      clear h hA hte hg he
      go_enter Try.func31, Try.ntmps31
      go_wp2_with (go_at_call 41; (with_reducible refine C.out.mono ?_); rintro e_ w1 ⟨rfl, rfl⟩)
      go_ret
      rw [HR.out]
      exact ⟨rfl, Hsame.out⟩
    subst he
    have heE : (ep == ep) = true := by simp
    obtain ⟨A, c, rfl⟩ := owns_form hA.row
    have hrow := hA.row
    obtain ⟨n, hn⟩ : ∃ n, T.L.length = n := ⟨_, rfl⟩
    rw [hn] at hrow hlt cL hl h hA H HA Hsame ⊢
    obtain ⟨g, o, rfl, hcl⟩ := ents_at hrow hn (by omega)
    obtain ⟨_, _, d2, _⟩ := hcl i x hi
    have hin' : (i : Int) < n := by omega
    by_cases h2 : x.st = 2
    case neg =>
      have HR : Hid (replyT T ep id k v = (18, T)) := Lib.hid (by unfold replyT; rw [if_pos Hte.out.symm, hg]; simp only [h2, if_false])
      have h2E : (x.st == 2) = false := by simpa using h2
      obtain ⟨xi, hxi⟩ : ∃ xi, x.st = xi := ⟨_, rfl⟩
      rw [hxi] at d2 h2E
      clear h hA hte hg hcl hrow hi hn h2
      go_enter Try.func31, Try.ntmps31
      go_wp2_with (go_at_call 41; (with_reducible refine C.out.mono ?_); rintro e_ w1 ⟨rfl, rfl⟩)
      go_ret
      rw [HR.out]
      exact ⟨rfl, Hsame.out⟩
    rw [h2] at d2
    by_cases hk1 : k < 1
    · have HR : Hid (replyT T ep id k v = (1, T)) := Lib.hid (by unfold replyT; rw [if_pos Hte.out.symm, hg]; simp only [h2, if_true]; rw [if_neg (by omega)])
      have hkE : (k < 1) = True := eq_true hk1
      clear h hA hte hg hcl hrow hi hn h2 hk1
      go_enter Try.func31, Try.ntmps31
      go_wp2_with (go_at_call 41; (with_reducible refine C.out.mono ?_); rintro e_ w1 ⟨rfl, rfl⟩)
      go_ret
      rw [HR.out]
      exact ⟨rfl, Hsame.out⟩
    have hkE : (k < 1) = False := eq_false hk1
    by_cases hk3 : 3 < k
    · have HR : Hid (replyT T ep id k v = (1, T)) := Lib.hid (by unfold replyT; rw [if_pos Hte.out.symm, hg]; simp only [h2, if_true]; rw [if_neg (by omega)])
      have hkE3 : (3 < k) = True := eq_true hk3
      clear h hA hte hg hcl hrow hi hn h2 hk1 hk3
      go_enter Try.func31, Try.ntmps31
      go_wp2_with (go_at_call 41; (with_reducible refine C.out.mono ?_); rintro e_ w1 ⟨rfl, rfl⟩)
      go_ret
      rw [HR.out]
      exact ⟨rfl, Hsame.out⟩
    have hkE3 : (3 < k) = False := eq_false hk3
    have HR : Hid (replyT T ep id k v = (0, setT T i (x.rep k v))) := Lib.hid (by rw [← Hte.out]; exact reply_at hr hg hi h2 (by omega) (by omega))
    have hrow0 : w.ownsRow 0 37 6 (.slice (some ⟨g, o, none⟩) n c) n (rowE T.L) := by have := h.row; rwa [hn] at this
    have r1 := ent_set (y' := { x with st := 3 }) (u := .int .i64 3) hrow0 hi (j := 2) (by omega) rfl hn
    have zf := fun k => own_fz hrow k
    have hgr := hA.row_ne
    have hu1 := set_upto w g (o + i * 6 + 2) (.int .i64 3)
    have hT1 := h.turned hn hu1 r1
    have hgw : g < w.heap.size := (own_lt H.out.row rfl).1
    have HT1 := Lib.hid (hT1.below (below_alloc _ (O2 k v)))
    have HR1 := Lib.hid (own_kept r1 (below_upto (S := F0) (below_alloc _ (O2 k v))) (fun _ h => False.elim h))
    have Hu1 := Lib.hid (hu1.alloc (O2 k v))
    have Hn := Lib.hid hn
    have Hx := Lib.hid hi
    have hq0 := new_cell (w.setCell ⟨g, o + i * 6 + 2, none⟩ (.int .i64 3)) #[.int .i64 k, .int .i64 v] 35 0 rfl
    have hq1 := new_cell (w.setCell ⟨g, o + i * 6 + 2, none⟩ (.int .i64 3)) #[.int .i64 k, .int .i64 v] 35 1 rfl
    rw [show (w.setCell ⟨g, o + i * 6 + 2, none⟩ (.int .i64 3)).heap.size = w.heap.size by simp [World.setCell]] at hq0 hq1
    have Hq0 := Lib.hid hq0
    have Hq1 := Lib.hid hq1
    clear h hA hte hg hcl hrow hrow0 hi hn h2 hk1 hk3 r1 hT1 hu1 hq0 hq1
    go_enter Try.func31, Try.ntmps31
    go_upto_region 11 with (go_at_call 41; (with_reducible refine C.out.mono ?_); rintro e_ w1 ⟨rfl, rfl⟩)
    obtain ⟨W, hW⟩ : ∃ W, (w.setCell ⟨g, o + i * 6 + 2, none⟩ (.int .i64 3)).alloc (O2 k v) = W := ⟨_, rfl⟩
    rw [hW] at HT1 Hu1 HR1 Hq0 Hq1 ⊢
    have hq0 := Hq0.out
    have hq1 := Hq1.out
    have e0 := HT1.out.c0
    obtain ⟨g', o', hgo, hcl⟩ := ents_at HR1.out (by rw [List.length_set]; exact Hn.out) (by omega)
    cases hgo
    obtain ⟨_, _, _, _, f4, f5⟩ := hcl i _ (List.getElem?_set_self (by rw [Hn.out]; exact hlt))
    have zg := fun k => own_fz HR1.out k
    have HHW := Lib.hid hW
    simp only at f4 f5
    clear hcl hW zf c4 cL k0 k1 d2 C HA
    go_region
    all_goals
      go_wp2
      go_ret
      have r2 := ent_set (i := i) (y := { x with st := 3 }) (y' := { x with st := 3, kind := k }) (u := .int .i64 k) HR1.out (List.getElem?_set_self (by rw [Hn.out]; exact hlt)) (j := 4) (by omega) rfl (by rw [List.length_set]; exact Hn.out)
      rw [List.set_set] at r2
      have r3 := ent_set (i := i) (y := { x with st := 3, kind := k }) (y' := x.rep k v) (u := .int .i64 v) r2 (List.getElem?_set_self (by rw [Hn.out]; exact hlt)) (j := 5) (by omega) rfl (by rw [List.length_set]; exact Hn.out)
      rw [List.set_set] at r3
      have hu := (set_upto W g (o + i * 6 + 4) (.int .i64 k)).then (set_upto _ g (o + i * 6 + 5) (.int .i64 v))
      have hF := HT1.out.turned (i := i) (y := x.rep k v) (by show (T.L.set i _).length = n; rw [List.length_set]; exact Hn.out) hu (by show World.ownsRow _ 0 37 6 _ n (rowE ((T.L.set i _).set i _)); rw [List.set_set]; exact r3)
      rw [HR.out]
      refine ⟨rfl, _, ?_, ((Hu1.out.then hu).mono (fun k hk => .inl (.inr (by rw [hk]; rfl)))).drew, fun k h => .inl h⟩
      have e : setT (setT T i { x with st := 3 }) i (x.rep k v) = setT T i (x.rep k v) := by unfold setT; rw [List.set_set]
      rw [e] at hF
      exact ⟨hF.q, hF.row, hF.ne⟩
end Go.Proofs.Ytfknkkcpieaikaa
