/- The document's table: New, Get, Kill, Drop, Rise. Conditions: it can be read; it holds at most eight; its numbers rise. -/
import Derived.Test.YtfknkkcpieaikaaR1
namespace Go.Proofs.Ytfknkkcpieaikaa
open Go.RowKit
set_option linter.unusedVariables false
set_option linter.unusedSimpArgs false

/-! ### New -/
set_option maxRecDepth 100000 in
theorem rnew_bad (s t f : Int) (h : newOk s t = false) (w : World) : Calls Try.prog 18 #[.int .i64 s, .int .i64 t, .int .u64 f] w (fun e w' => e = .returned (.tuple #[.pointer none, .int .i64 1]) ∧ w' = w) := by
  have hh : ¬ (1 ≤ s ∧ s ≤ 8 ∧ 1 ≤ t ∧ t ≤ 1000) := by simpa [newOk] using h
  clear h
  by_cases a1 : s < 1
  · have a1E : (s < 1) = True := eq_true a1
    clear hh
    go_enter Try.func18, Try.ntmps18
    go_wp2
    go_ret2
    exact ⟨rfl, rfl⟩
  have a1E : (s < 1) = False := eq_false a1
  by_cases a2 : 8 < s
  · have a2E : (8 < s) = True := eq_true a2
    clear hh a1
    go_enter Try.func18, Try.ntmps18
    go_wp2
    go_ret2
    exact ⟨rfl, rfl⟩
  have a2E : (8 < s) = False := eq_false a2
  by_cases a3 : t < 1
  · have a3E : (t < 1) = True := eq_true a3
    clear hh a1 a2
    go_enter Try.func18, Try.ntmps18
    go_wp2
    go_ret2
    exact ⟨rfl, rfl⟩
  have a3E : (t < 1) = False := eq_false a3
  have a4E : (1000 < t) = True := eq_true (by omega)
  clear hh a1 a2 a3
  go_enter Try.func18, Try.ntmps18
  go_wp2
  go_ret2
  exact ⟨rfl, rfl⟩
set_option maxRecDepth 100000 in
theorem rnew_ok (s t f : Int) (h : newOk s t = true) (w : World) : Calls Try.prog 18 #[.int .i64 s, .int .i64 t, .int .u64 f] w (fun e w' => ∃ r, e = .returned (.tuple #[.pointer (some ⟨r, 0, none⟩), .int .i64 0]) ∧ w.heap.size ≤ r ∧ RefAt w' r (.slice none 0 0) ⟨s, t, f, 0, []⟩ ∧ Below w.heap.size w w') := by
  have hh : 1 ≤ s ∧ s ≤ 8 ∧ 1 ≤ t ∧ t ≤ 1000 := by simpa [newOk] using h
  obtain ⟨a1, a2, a3, a4⟩ := hh
  have e1 : (s < 1) = False := eq_false (by omega)
  have e2 : (8 < s) = False := eq_false (by omega)
  have e3 : (t < 1) = False := eq_false (by omega)
  have e4 : (1000 < t) = False := eq_false (by omega)
  clear h a1 a2 a3 a4
  go_enter Try.func18, Try.ntmps18
  go_wp2
  go_ret2
  exact ⟨_, rfl, Nat.le_refl _, ⟨World.alloc_heap_new _ _, World.ownsRow_nil _ _ _ _, by simp [Value.ownBlock]⟩, below_alloc _ _⟩

/-! ### Get -/
theorem at_none {r : Nat} {v : Value} {T : Tb} {id : Int} {w : World} (h : RefAt w r v T) (hl : T.L.length ≤ 8) (hg : getL T.L id = none) : Calls Try.prog 41 #[.pointer (some ⟨r, 0, none⟩), .int .u64 id] w (fun e w' => e = .returned (.int .i64 (-1)) ∧ w = w') :=
  (at_any r v T id w h hl).mono (by
    rintro e w' ⟨rfl, h⟩
    rcases h with ⟨_, rfl⟩ | ⟨i, x, _, h2, _⟩
    · exact ⟨rfl, rfl⟩
    · rw [hg] at h2; cases h2)
theorem at_some {r : Nat} {v : Value} {T : Tb} {id : Int} {w : World} {x : Ent} (h : RefAt w r v T) (hl : T.L.length ≤ 8) (hg : getL T.L id = some x) : Calls Try.prog 41 #[.pointer (some ⟨r, 0, none⟩), .int .u64 id] w (fun e w' => ∃ i : Nat, T.L[i]? = some x ∧ e = .returned (.int .i64 i) ∧ w = w') :=
  (at_any r v T id w h hl).mono (by
    rintro e w' ⟨rfl, h⟩
    rcases h with ⟨h1, _⟩ | ⟨i, y, h1, h2, rfl⟩
    · rw [hg] at h1; cases h1
    · rw [hg] at h2; cases h2; exact ⟨i, h1, rfl, rfl⟩)
set_option maxRecDepth 100000 in
theorem rget_any (r : Nat) (v : Value) (T : Tb) (id : Int) (w : World) (h : RefAt w r v T) (hl : T.L.length ≤ 8) : Calls Try.prog 38 #[.pointer (some ⟨r, 0, none⟩), .int .u64 id] w (GetPost (getL T.L id) w) := by
  have n6 := fun (cs : Array Value) (j : Nat) (v : Value) (hv : cs[j]? = some v) => new_cell w cs 37 j hv
  have nf : ∀ (cs : Array Value) (j : Nat), (w.alloc (.cells cs 37)).frozen? ⟨w.heap.size, j, none⟩ = false := fun cs j => new_fz w cs 37 j
  have h0 := n6 #[.int .u64 0, .int .i64 0, .int .i64 0, .int .i64 0, .int .i64 0, .int .i64 0] 0 _ rfl
  have h1 := n6 #[.int .u64 0, .int .i64 0, .int .i64 0, .int .i64 0, .int .i64 0, .int .i64 0] 1 _ rfl
  have h2 := n6 #[.int .u64 0, .int .i64 0, .int .i64 0, .int .i64 0, .int .i64 0, .int .i64 0] 2 _ rfl
  have h3 := n6 #[.int .u64 0, .int .i64 0, .int .i64 0, .int .i64 0, .int .i64 0, .int .i64 0] 3 _ rfl
  have h4 := n6 #[.int .u64 0, .int .i64 0, .int .i64 0, .int .i64 0, .int .i64 0, .int .i64 0] 4 _ rfl
  have h5 := n6 #[.int .u64 0, .int .i64 0, .int .i64 0, .int .i64 0, .int .i64 0, .int .i64 0] 5 _ rfl
  clear n6
  cases hg : getL T.L id with
  | none =>
    have HA := Lib.hid (fun o => at_none (h.below (below_alloc w o)) hl hg)
    clear h hg
    go_enter Try.func38, Try.ntmps38
    go_wp2_with (go_at_call 41; (with_reducible refine (HA.out _).mono ?_); rintro e_ w1 ⟨rfl, rfl⟩)
    refine bodyPost_ret (v := .tuple #[entV Ent.nil, .bool false]) (by rw [results_cell_tmp rfl]; unfold entV Ent.cells Ent.nil; go_simp) rfl ⟨rfl, below_alloc _ _⟩
  | some x =>
    have HA := Lib.hid (fun o => at_some (h.below (below_alloc w o)) hl hg)
    obtain ⟨i0, hi0⟩ := List.mem_iff_getElem?.1 (getL_mem hg).1
    have hlt0 := (List.getElem?_eq_some_iff.1 hi0).1
    have cL := fun ob => keep_cell (below_alloc w ob) h.c0
    obtain ⟨A, c, rfl⟩ := owns_form h.row
    obtain ⟨g, o, rfl, hcl⟩ := ents_at h.row rfl (by omega)
    have Hcl := Lib.hid hcl
    obtain ⟨n, hn⟩ : ∃ n, T.L.length = n := ⟨_, rfl⟩
    rw [hn] at cL hl
    have Hn := Lib.hid hn
    clear h hg hi0 hlt0 hcl hn
    go_enter Try.func38, Try.ntmps38
    go_wp2_with (go_at_call 41; (with_reducible refine (HA.out _).mono ?_); rintro e_ w1 ⟨i, hi, rfl, rfl⟩; have hin : i < n := (by rw [← Hn.out]; exact (List.getElem?_eq_some_iff.1 hi).1); have hin' : (i : Int) < n := (by omega); have hi0 : ((i : Int) < 0) = False := eq_false (by omega); obtain ⟨f0, f1, f2, f3, f4, f5⟩ := Hcl.out i x hi; have d0 := fun ob => keep_cell (below_alloc w ob) f0; have d1 := fun ob => keep_cell (below_alloc w ob) f1; have d2 := fun ob => keep_cell (below_alloc w ob) f2; have d3 := fun ob => keep_cell (below_alloc w ob) f3; have d4 := fun ob => keep_cell (below_alloc w ob) f4; have d5 := fun ob => keep_cell (below_alloc w ob) f5; clear f0 f1 f2 f3 f4 f5 hi)
    refine bodyPost_ret (v := .tuple #[entV x, .bool true]) (by rw [results_cell_tmp rfl]; unfold entV Ent.cells; go_simp) rfl ⟨rfl, below_alloc _ _⟩

/-! ### Kill -/
theorem kill_at {T : Tb} (hr : T.L.Pairwise (fun x y => x.id < y.id)) {n : Int} {x : Ent} {i : Nat} (hf : ofL T.L n = some x) (hi : T.L[i]? = some x) : killT T n = (x.waits, setT T i (if x.waits then x.go 4 else x)) := by
  unfold killT
  rw [hf]
  simp only
  cases hw : x.waits with
  | true =>
    simp only [if_true]
    refine Prod.ext rfl ?_
    show mapT T _ = setT T i (x.go 4)
    unfold mapT setT
    rw [one_set hr hi]
  | false =>
    simp only [Bool.false_eq_true, if_false]
    rw [setT_same hi]
set_option maxRecDepth 100000 in
theorem rkill_any (r : Nat) (v : Value) (T : Tb) (m : Int) (w : World) (h : RefAt w r v T) (hl : T.L.length ≤ 8) (hr : T.L.Pairwise (fun x y => x.id < y.id)) : Calls Try.prog 32 #[.pointer (some ⟨r, 0, none⟩), .int .i64 m] w (RPost r v (killT T m).2 (.bool (killT T m).1) w) := by
  have cL := h.c0
  have HG := Lib.hid (fun (i : Nat) y (hy : T.L[i]? = some y) => rgone_any r v T i 4 y w h hl hy)
  have H := Lib.hid h
  obtain ⟨A, c, rfl⟩ := owns_form h.row
  have hent := fun h0 => ents_at h.row rfl h0
  obtain ⟨n, hn⟩ : ∃ n, T.L.length = n := ⟨_, rfl⟩
  rw [hn] at cL hl hent H HG ⊢
  have Hn := Lib.hid hn
  have Hent := Lib.hid hent
  have Hr := Lib.hid hr
  clear h hent hn hr
  go_enter Try.func32, Try.ntmps32
  go_wp2
  go_loopw [5] (fun iv wr => ∃ i : Nat, i ≤ n ∧ iv = .int .i64 i ∧ wr = w ∧ ofL T.L m = (T.L.drop i).find? (fun x => x.task == m)) (fun iv _ => n - (intOf iv).toNat)
  case atStart => exact ⟨0, Nat.zero_le _, rfl, rfl, rfl⟩
  case round =>
    obtain ⟨i, hi, rfl, rfl, hf⟩ := hrel
    by_cases hlt : i < n
    · have hlt' : (i : Int) < n := by omega
      obtain ⟨g, o, rfl, hcl⟩ := Hent.out (by omega)
      obtain ⟨x, hx⟩ : ∃ x, T.L[i]? = some x := ⟨_, List.getElem?_eq_getElem (by rw [Hn.out]; exact hlt)⟩
      obtain ⟨_, d1, _⟩ := hcl i x hx
      rw [find_drop hx] at hf
      by_cases he : x.task = m
      · rw [he] at d1
        rw [if_pos (by simpa using he)] at hf
        have HK := Lib.hid (kill_at Hr.out hf hx)
        have HGo := Lib.hid (HG.out i x hx)
        clear hf hcl hx
        have hE : (m == m) = true := by simp
        go_wp2_with (go_at_call 42; (with_reducible refine HGo.out.mono ?_); rintro e_ w1 ⟨rfl, hR1, hu1⟩)
        go_ret
        rw [HK.out]
        exact ⟨rfl, _, hR1, hu1, fun k h => .inl h⟩
      · have heE : (x.task == m) = false := by simpa using he
        rw [if_neg (by simpa using he)] at hf
        have Hf := Lib.hid hf
        obtain ⟨xi, hxi⟩ : ∃ xi, x.task = xi := ⟨_, rfl⟩
        rw [hxi] at d1 heE
        clear hf hcl hx he
        go_wp2
        go_roundw
        case rel => exact ⟨i + 1, by omega, by go_num, trivial, Hf.out⟩
        case measure => (simp [intOf] <;> omega)
    · obtain rfl : i = n := by omega
      rw [List.drop_of_length_le (by rw [Hn.out]; exact Nat.le_refl _)] at hf
      have HK : Hid (killT T m = (false, T)) := Lib.hid (by unfold killT; rw [hf]; rfl)
      clear hf
      go_wp2
      go_ret
      rw [HK.out]
      exact ⟨rfl, _, H.out, Upto.refl _ _, fun k h => .inl h⟩

/-! ### Drop, Rise -/
/-- The first i have turned. -/
def partT (g : Ent → Ent) (T : Tb) (i : Nat) : Tb := { T with L := (T.L.take i).map g ++ T.L.drop i }
theorem part_at {g : Ent → Ent} {T : Tb} {i : Nat} (h : i ≤ T.L.length) : (partT g T i).L[i]? = T.L[i]? := by
  show ((T.L.take i).map g ++ T.L.drop i)[i]? = _
  rw [List.getElem?_append_right (by simp; omega)]
  simp [Nat.min_eq_left h]
theorem part_len (g : Ent → Ent) (T : Tb) (i : Nat) : (partT g T i).L.length = T.L.length := by
  show ((T.L.take i).map g ++ T.L.drop i).length = _
  simp; omega
theorem part_set {g : Ent → Ent} {T : Tb} {i : Nat} {y : Ent} (h : T.L[i]? = some y) : setT (partT g T i) i (g y) = partT g T (i + 1) := by
  obtain ⟨h1, h2⟩ := List.getElem?_eq_some_iff.1 h
  unfold setT partT
  simp only
  congr 1
  rw [List.set_append_right _ _ (by simp; omega)]
  rw [show i - ((T.L.take i).map g).length = 0 by simp; omega, List.drop_eq_getElem_cons h1, List.set_cons_zero, List.take_add_one, h]
  simp
theorem part_zero (g : Ent → Ent) (T : Tb) : partT g T 0 = T := by unfold partT; simp
theorem part_all (g : Ent → Ent) (T : Tb) {n : Nat} (h : T.L.length = n) : partT g T n = mapT T g := by unfold partT mapT; rw [← h]; simp
set_option maxRecDepth 100000 in
theorem rdrop_any (r : Nat) (v : Value) (T : Tb) (w : World) (h : RefAt w r v T) (hl : T.L.length ≤ 8) : Calls Try.prog 36 #[.pointer (some ⟨r, 0, none⟩)] w (RPost r v (dropT T) (.tuple #[]) w) := by
  have HS : Hid (RefAt w r v (partT (fun x : Ent => if x.waits then x.go 7 else x) T 0)) := Lib.hid (by rw [part_zero]; exact h)
  obtain ⟨A, c, rfl⟩ := owns_form h.row
  obtain ⟨n, hn⟩ : ∃ n, T.L.length = n := ⟨_, rfl⟩
  rw [hn] at hl HS ⊢
  have Hn := Lib.hid hn
  clear h hn
  go_enter Try.func36, Try.ntmps36
  go_wp2
  go_loopw [2] (fun iv wr => ∃ i : Nat, i ≤ n ∧ iv = .int .i64 i ∧ RefAt wr r (.slice A n c) (partT (fun x : Ent => if x.waits then x.go 7 else x) T i) ∧ Upto (ROwn r (.slice A n c)) w wr) (fun iv _ => n - (intOf iv).toNat)
  case atStart => exact ⟨0, Nat.zero_le _, rfl, HS.out, Upto.refl _ _⟩
  case round =>
    obtain ⟨i, hi, rfl, hR, hu⟩ := hrel
    have cL := hR.c0
    have Hu := Lib.hid hu
    by_cases hlt : i < n
    · have hlt' : (i : Int) < n := by omega
      obtain ⟨x, hx⟩ : ∃ x, T.L[i]? = some x := ⟨_, List.getElem?_eq_getElem (by rw [Hn.out]; exact hlt)⟩
      have HG := Lib.hid (rgone_any r _ _ i 7 x wr hR (by rw [part_len, Hn.out]; exact hl) (by rw [part_at (by rw [Hn.out]; exact hi)]; exact hx))
      have Hx := Lib.hid hx
      clear hR hu hx HS
      go_wp2_with (go_at_call 42; (with_reducible refine HG.out.mono ?_); rintro e_ w1 ⟨rfl, hR1, hu1⟩)
      go_roundw
      case rel => exact ⟨i + 1, by omega, by go_num, by rw [← part_set Hx.out]; exact hR1, Hu.out.then hu1⟩
      case measure => (simp [intOf] <;> omega)
    · obtain rfl : i = n := by omega
      rw [part_all _ _ Hn.out] at hR
      have HR := Lib.hid hR
      clear hR hu
      go_wp2
      go_end0
      exact ⟨rfl, _, HR.out, Hu.out, fun k h => .inl h⟩
set_option maxRecDepth 100000 in
theorem rrise_any (r : Nat) (v : Value) (T : Tb) (ep : Int) (w : World) (h : RefAt w r v T) (hl : T.L.length ≤ 8) : Calls Try.prog 35 #[.pointer (some ⟨r, 0, none⟩), .int .u64 ep] w (RPost r v (riseT T ep).2 (.int .i64 (riseT T ep).1) w) := by
  have c4 := h.c4
  have z4 := h.fz 4
  have hq := cells_set (o := 4) h.q (.int .u64 ep)
  have hne : ∀ k, v.ownBlock = some k → ¬ k = r := fun k hk e => h.ne (by rw [hk, e])
  have h2 : RefAt (w.setCell ⟨r, 4, none⟩ (.int .u64 ep)) r v { T with epoch := ep } := ⟨hq, own_kept h.row (set_upto w r 4 _) (fun k hk ho => hne k ho hk), h.ne⟩
  have D := Lib.hid (rdrop_any r v _ _ h2 hl)
  have H := Lib.hid h
  obtain ⟨eo, heo⟩ : ∃ eo, T.epoch = eo := ⟨_, rfl⟩
  rw [heo] at c4
  have Heo := Lib.hid heo
  unfold riseT
  rw [heo]
  clear h h2 hq heo hne
  by_cases he : ep ≤ eo
  · have heE : (ep ≤ eo) = True := eq_true he
    rw [if_pos he]
    clear he
    go_enter Try.func35, Try.ntmps35
    go_wp2
    go_ret
    exact ⟨rfl, _, H.out, Upto.refl _ _, fun k h => .inl h⟩
  · have heE : (ep ≤ eo) = False := eq_false he
    rw [if_neg he]
    clear he
    go_enter Try.func35, Try.ntmps35
    go_wp2_with (go_at_call 36; (with_reducible refine D.out.mono ?_); rintro e_ w1 ⟨rfl, v', hR1, hu1, ho1⟩)
    go_ret
    exact ⟨rfl, v', hR1, ((set_upto w r 4 _).mono (fun k hk => .inl (.inl hk))).then hu1, fun k hk => by rcases ho1 k hk with h | h; exact .inl h; exact .inr (by simpa [World.setCell] using h)⟩
end Go.Proofs.Ytfknkkcpieaikaa
