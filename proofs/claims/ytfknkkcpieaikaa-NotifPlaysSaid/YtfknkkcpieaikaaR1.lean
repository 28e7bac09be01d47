/- The document's table: New, gone, Kill, Drop, Rise, Get. Conditions: it can be read; it holds at most eight; its numbers rise. -/
import Derived.Test.YtfknkkcpieaikaaR0
namespace Go.Proofs.Ytfknkkcpieaikaa
open Go.RowKit
set_option linter.unusedVariables false
set_option linter.unusedSimpArgs false

def setT (T : Tb) (i : Nat) (y : Ent) : Tb := { T with L := T.L.set i y }
theorem setT_same {T : Tb} {i : Nat} {y : Ent} (h : T.L[i]? = some y) : setT T i y = T := by
  unfold setT
  obtain ⟨h1, h2⟩ := List.getElem?_eq_some_iff.1 h
  rw [← h2, List.set_getElem_self]
theorem RefAt.row_ne {w : World} {r g o n c : Nat} {T : Tb} (h : RefAt w r (.slice (some ⟨g, o, none⟩) n c) T) : g ≠ r := fun e => h.ne (by rw [e]; rfl)
/-- One notification's cells have turned. -/
theorem RefAt.turned {w W : World} {r g o n c i : Nat} {T : Tb} {y : Ent} (h : RefAt w r (.slice (some ⟨g, o, none⟩) n c) T) (hn : T.L.length = n) (hu : Upto (fun k => k = g) w W) (hrow : W.ownsRow 0 37 6 (.slice (some ⟨g, o, none⟩) n c) n (rowE (T.L.set i y))) : RefAt W r (.slice (some ⟨g, o, none⟩) n c) (setT T i y) := by
  refine ⟨(hu.block r h.lt (fun e => h.row_ne e.symm)).trans h.q, ?_, h.ne⟩
  show W.ownsRow 0 37 6 _ (T.L.set i y).length (rowE (T.L.set i y))
  rw [List.length_set, hn]
  exact hrow
set_option maxRecDepth 100000 in
theorem rgone_any (r : Nat) (v : Value) (T : Tb) (i : Nat) (k : Int) (y : Ent) (w : World) (h : RefAt w r v T) (hl : T.L.length ≤ 8) (hy : T.L[i]? = some y) : Calls Try.prog 42 #[.pointer (some ⟨r, 0, none⟩), .int .i64 i, .int .i64 k] w
    (fun e w' => e = .returned (.bool y.waits) ∧ RefAt w' r v (setT T i (if y.waits then y.go k else y)) ∧ Upto (ROwn r v) w w') := by
  have cL := h.c0
  obtain ⟨A, c, rfl⟩ := owns_form h.row
  obtain ⟨n, hn⟩ : ∃ n, T.L.length = n := ⟨_, rfl⟩
  rw [hn] at h cL hl ⊢
  have hin : i < n := by rw [← hn]; exact (List.getElem?_eq_some_iff.1 hy).1
  have hin' : (i : Int) < n := by omega
  have hrow := h.row
  rw [hn] at hrow
  obtain ⟨g, o, rfl, hcl⟩ := ents_at hrow hn (by omega)
  obtain ⟨d0, d1, d2, d3, d4, d5⟩ := hcl i y hy
  have W1 := rwaits_any y w
  have hne := h.row_ne
  have H := Lib.hid h
  have Hn := Lib.hid hn
  have Hy := Lib.hid hy
  have Hrow := Lib.hid hrow
  obtain ⟨id, task, st, left, kind, val⟩ := y
  simp only [entV, Ent.cells] at W1 d0 d1 d2 d3 d4 d5
  obtain ⟨bw, hbw⟩ : ∃ bw, (⟨id, task, st, left, kind, val⟩ : Ent).waits = bw := ⟨_, rfl⟩
  rw [hbw] at W1 ⊢
  clear h hn hy hcl hrow hbw
  cases bw with
  | false =>
    go_enter Try.func42, Try.ntmps42
    go_wp2_with (go_at_call 43; (with_reducible refine W1.mono ?_); rintro e_ w1 ⟨rfl, hb1⟩)
    go_ret
    refine ⟨rfl, ?_, below_upto hb1⟩
    rw [setT_same Hy.out]
    exact H.out.below hb1
  | true =>
    go_enter Try.func42, Try.ntmps42
    go_upto_region 3 with (go_at_call 43; (with_reducible refine W1.mono ?_); rintro e_ w1 ⟨rfl, hb1⟩)
    have H1 := Lib.hid (H.out.below hb1)
    have R1 := own_kept Hrow.out (below_upto (S := F0) hb1) (fun _ h => False.elim h)
    have e0 := keep_cell hb1 cL
    have e2 := keep_cell hb1 d2
    have e4 := keep_cell hb1 d4
    have e5 := keep_cell hb1 d5
    have zf := fun k => own_fz R1 k
    have hR1 := Lib.hid R1
    have Hb1 := Lib.hid hb1
    have hc0 : ∀ u, (w1.setCell ⟨g, o + i * 6 + 2, none⟩ u).cell? ⟨r, 0, none⟩ = some (.slice (some ⟨g, o, none⟩) n c) := fun u => (set_upto w1 g _ u).cell (fun e => hne e.symm) e0
    clear R1 cL d0 d1 d2 d3 d4 d5 hb1
    go_wp2
    go_ret
    have r1 := ent_set (y' := ⟨id, task, 4, left, kind, val⟩) (u := .int .i64 4) hR1.out Hy.out (j := 2) (by omega) rfl Hn.out
    have r2 := ent_set (i := i) (y := ⟨id, task, 4, left, kind, val⟩) (y' := ⟨id, task, 4, left, k, val⟩) (u := .int .i64 k) r1 (by rw [List.getElem?_set_self (by rw [Hn.out]; exact hin)]) (j := 4) (by omega) rfl (by rw [List.length_set]; exact Hn.out)
    rw [List.set_set] at r2
    have r3 := ent_set (i := i) (y := ⟨id, task, 4, left, k, val⟩) (y' := ⟨id, task, 4, left, k, 0⟩) (u := .int .i64 0) r2 (by rw [List.getElem?_set_self (by rw [Hn.out]; exact hin)]) (j := 5) (by omega) rfl (by rw [List.length_set]; exact Hn.out)
    rw [List.set_set] at r3
    have hu := ((set_upto w1 g (o + i * 6 + 2) (.int .i64 4)).then (set_upto _ g (o + i * 6 + 4) (.int .i64 k))).then (set_upto _ g (o + i * 6 + 5) (.int .i64 0))
    exact ⟨rfl, H1.out.turned Hn.out hu r3, (below_upto Hb1.out).trans hu (fun k hk => .inl (.inr (by rw [hk]; rfl)))⟩
end Go.Proofs.Ytfknkkcpieaikaa
