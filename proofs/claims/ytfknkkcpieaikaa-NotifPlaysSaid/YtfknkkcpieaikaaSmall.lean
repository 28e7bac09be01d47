/- waits, gone, and the test of Send. Condition: the notification can be read. -/
import Derived.Test.YtfknkkcpieaikaaMem
namespace Go.Proofs.Ytfknkkcpieaikaa
open Go.RowKit
set_option linter.unusedVariables false
set_option linter.unusedSimpArgs false

def Ent.waits (x : Ent) : Bool := x.st == 1 || x.st == 2
def isInit (x : Ent) : Bool := x.st == 1
def Ent.go (x : Ent) (k : Int) : Ent := { x with st := 4, kind := k, val := 0 }
set_option maxRecDepth 100000 in
theorem waits_any (p : Nat) (x : Ent) (w : World) (h : EntAt w p x) : Calls Try.prog 26 #[.pointer (some ⟨p, 0, none⟩)] w (fun e w' => e = .returned (.bool x.waits) ∧ w = w') := by
  have c2 := h.c2
  obtain ⟨s, hs⟩ : ∃ s, x.st = s := ⟨_, rfl⟩
  unfold Ent.waits
  rw [hs] at c2 ⊢
  clear h hs
  by_cases h1 : s = 1
  · subst h1
    go_enter Try.func26, Try.ntmps26
    go_wp2
    go_ret
    exact ⟨rfl, rfl⟩
  · have h1E : (s == 1) = false := by simpa using h1
    rw [h1E]
    clear h1
    by_cases h2 : s = 2
    · subst h2
      go_enter Try.func26, Try.ntmps26
      go_wp2
      go_ret
      exact ⟨rfl, rfl⟩
    · have h2E : (s == 2) = false := by simpa using h2
      rw [h2E]
      clear h2
      go_enter Try.func26, Try.ntmps26
      go_wp2
      go_ret
      exact ⟨rfl, rfl⟩
set_option maxRecDepth 100000 in
theorem inits_any (p : Nat) (x : Ent) (w : World) (h : EntAt w p x) : Calls Try.prog 39 #[.pointer (some ⟨p, 0, none⟩)] w (fun e w' => e = .returned (.bool (isInit x)) ∧ w = w') := by
  have c2 := h.c2
  unfold isInit
  obtain ⟨s, hs⟩ : ∃ s, x.st = s := ⟨_, rfl⟩
  rw [hs] at c2 ⊢
  clear h hs
  go_enter Try.func39, Try.ntmps39
  go_wp2
  go_ret
  exact ⟨rfl, rfl⟩
theorem cells_set {w : World} {p o : Nat} {cs : Array Value} {t : TypeId} (h : w.heap[p]? = some (.cells cs t (0, 0))) (u : Value) : (w.setCell ⟨p, o, none⟩ u).heap[p]? = some (.cells (cs.setIfInBounds o u) t (0, 0)) := by
  unfold World.setCell
  simp [Array.getElem?_modify, h]
theorem set_upto (w : World) (g i : Nat) (u : Value) : Upto (fun k => k = g) w (w.setCell ⟨g, i, none⟩ u) := Upto.setCell (S := fun k => k = g) (Upto.refl _ w) (p := ⟨g, i, none⟩) (.inl rfl) u
set_option maxRecDepth 100000 in
theorem gone_any (p : Nat) (x : Ent) (k : Int) (w : World) (h : EntAt w p x) : Calls Try.prog 28 #[.pointer (some ⟨p, 0, none⟩), .int .i64 k] w (fun e w' => e = .returned (.tuple #[]) ∧ EntAt w' p (x.go k) ∧ Upto (fun k => k = p) w w') := by
  have c2 := h.c2
  have c4 := h.c4
  have c5 := h.c5
  have z2 := h.fz 2
  have z4 := h.fz 4
  have z5 := h.fz 5
  have H := Lib.hid h
  clear h
  go_enter Try.func28, Try.ntmps28
  go_wp2
  go_end0
  exact ⟨rfl, cells_set (cells_set (cells_set H.out _) _) _, ((set_upto _ _ _ _).then (set_upto _ _ _ _)).then (set_upto _ _ _ _)⟩
end Go.Proofs.Ytfknkkcpieaikaa
