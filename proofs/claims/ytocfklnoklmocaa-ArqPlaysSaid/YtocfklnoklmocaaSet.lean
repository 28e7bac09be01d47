/- New, Set, Stop of the timers; the two tests. Conditions: the timers can be read, and are no more than a million. -/
import Derived.Test.YtocfklnoklmocaaMem
import Derived.Deep.RegionLaw
import Derived.BigRegion
namespace Go.Proofs.Ytocfklnoklmocaa
open Go.RowKit Go.Maps

set_option linter.unusedVariables false
set_option linter.unusedSimpArgs false

set_option maxRecDepth 100000 in
theorem new_ok (e : Int) (h1 : 1 ≤ e) (h2 : e ≤ 1000) (w : World) : Calls Try.prog 11 #[.int .i64 e] w (fun en w' => ∃ b B, en = .returned (.tuple #[.pointer (some ⟨b, 0, none⟩), .int .i64 0]) ∧ w.heap.size ≤ b ∧ w.heap.size ≤ B ∧ TimAt w' b B 0 e (fun _ => none) ∧ Below w.heap.size w w') := by
  have hmk : (Instr.makeMap 53 none).run Try.prog w = .ok (.map (some w.heap.size)) (w.alloc (.map #[] 0)) := rfl
  have hm := MapIs.made w
  have hb0 := below_alloc w (.map #[] 0)
  have hB : (w.alloc (.map #[] 0)).heap.size = w.heap.size + 1 := by simp
  obtain ⟨wm, hwm⟩ : ∃ wm, w.alloc (.map #[] 0) = wm := ⟨_, rfl⟩
  rw [hwm] at hmk hm hb0 hB
  have HB := Lib.hid hB
  clear hwm hB
  go_enter Try.func11, Try.ntmps11
  go_wp2
  go_ret2
  have hbb := below_alloc wm (.cells #[.int .i64 e, .map (some w.heap.size)] 55)
  refine ⟨_, w.heap.size, rfl, hb0.size, Nat.le_refl _, ⟨new_cell wm _ 55 0 rfl, new_cell wm _ 55 1 rfl, ?_, hm.below hbb⟩, bchain hb0 hb0.size hbb⟩
  rw [HB.out]; omega
set_option maxRecDepth 100000 in
theorem new_bad (e : Int) (h : e < 1 ∨ 1000 < e) (w : World) : Calls Try.prog 11 #[.int .i64 e] w (fun en w' => en = .returned (.tuple #[.pointer none, .int .i64 1]) ∧ w' = w) := by
  by_cases h1 : e < 1
  · clear h
    go_enter Try.func11, Try.ntmps11
    go_wp2
    go_ret2
    exact ⟨rfl, rfl⟩
  · have h2 : 1000 < e := by omega
    have h3 : 1 ≤ e := by omega
    clear h h1
    go_enter Try.func11, Try.ntmps11
    go_wp2
    go_ret2
    exact ⟨rfl, rfl⟩

set_option maxRecDepth 100000 in
theorem set_any (b B K : Nat) (e x : Int) (f : Int → Option Int) (w : World) (hx : U64 x) (he : (Lit.int .i64 e).wf = true) (hK : K < 1000000) (h : TimAt w b B K e f) : Calls Try.prog 13 #[.pointer (some ⟨b, 0, none⟩), .int .u64 x] w (fun en w' => en = .returned (.tuple #[]) ∧ TimAt w' b B (if (f x).isSome then K else K + 1) e (upd f x e) ∧ Upto (fun k => k = B) w w') := by
  have hd : MapIs w.drew B K f := h.2.2.2
  obtain ⟨w', hrun, hm, hu, hs⟩ := hd.put hK hx he
  obtain ⟨Kn, hKn⟩ : ∃ n, (if (f x).isSome then K else K + 1) = n := ⟨_, rfl⟩
  rw [hKn] at hm ⊢
  have e0 := h.1
  have e1 := h.2.1
  have H := Lib.hid h
  have hu2 : Upto (fun k => k = B) w w' := ((Upto.refl _ w).drew).then hu
  clear h hd hx he
  go_enter Try.func13, Try.ntmps13
  go_wp2
  go_region
  go_wp2
  go_end0
  exact ⟨rfl, H.out.turn hu2 hm, hu2⟩

set_option maxRecDepth 100000 in
theorem stop_any (b B K : Nat) (e x : Int) (f : Int → Option Int) (w : World) (hx : U64 x) (h : TimAt w b B K e f) : Calls Try.prog 15 #[.pointer (some ⟨b, 0, none⟩), .int .u64 x] w (fun en w' => en = .returned (.bool (f x).isSome) ∧ TimAt w' b B K e (del f x) ∧ Upto (fun k => k = B) w w') := by
  obtain ⟨w', hrun, hm, hu, hs⟩ := h.2.2.2.drop hx 0
  have hl := h.2.2.2.look_ok hx
  have e0 := h.1
  have e1 := h.2.1
  have H := Lib.hid h
  obtain ⟨t, ht⟩ : ∃ t, (f x).isSome = t := ⟨_, rfl⟩
  rw [ht] at hl ⊢
  clear h hx ht
  go_enter Try.func15, Try.ntmps15
  go_wp2
  go_ret
  exact ⟨rfl, H.out.turn hu hm, hu⟩

theorem zero_test (n : Int) (w : World) : Calls Try.prog 23 #[.int .i64 n] w (fun en w' => en = .returned (.bool (n == 0)) ∧ w = w') := by
  go_enter Try.func23, Try.ntmps23
  go_wp2
  go_ret
  exact ⟨rfl, rfl⟩
theorem all_test (n : Int) (w : World) : Calls Try.prog 24 #[.int .i64 n] w (fun en w' => en = .returned (.bool true) ∧ w = w') := by
  go_enter Try.func24, Try.ntmps24
  go_wp2
  go_ret
  exact ⟨rfl, rfl⟩
end Go.Proofs.Ytocfklnoklmocaa
