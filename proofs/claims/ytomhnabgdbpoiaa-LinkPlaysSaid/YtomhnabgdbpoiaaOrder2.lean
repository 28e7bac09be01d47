/- LinkOrder, whole, and its arguments. No conditions. -/
import Derived.Test.YtomhnabgdbpoiaaOrder
namespace Go.Proofs.Ytomhnabgdbpoiaa
open Go.ChangeShapes Go.WideShapes Go.RowKit
set_option linter.unusedVariables false
set_option linter.unusedSimpArgs false

theorem cells30 : Try.prog.cellsOf 30 = 1 := by kernel_rfl
theorem cells4 : Try.prog.cellsOf 4 = 1 := by kernel_rfl
section
variable {H : Type} {enc : TypeId × Value → H} {w : World} {base : Nat} {held : Bool} {r : Reach} {b0 : Nat}
theorem plain_of {a : Addr} {u : Value} (h : w.cell? a = some u) : ∃ b o, a = ⟨b, o, none⟩ := by
  obtain ⟨b, off, spot⟩ := a
  have hspot : spot = none := by simpa using World.cell?_spot h
  subst hspot
  exact ⟨b, off, rfl⟩
theorem plain_add {a : Addr} {u : Value} (h : w.cell? (a.add 0) = some u) : ∃ b o, a = ⟨b, o, none⟩ := plain_of (by simpa [Addr.add] using h)
/-- A slice of slices of bytes. -/
def RowsArg (w : World) (v : Value) (n : Nat) (fs : Nat → List Int) (sv : Nat → Value) : Prop :=
  ∃ A c, v = .slice A n c ∧ n ≤ 9223372036854775807 ∧ (0 < n → ∃ gl o, A = some ⟨gl, o, none⟩ ∧ ∀ i, i < n → w.cell? ⟨gl, o + i, none⟩ = some (sv i)) ∧ ∀ i, i < n → SlArg w (sv i) (fs i)
theorem open_rows {v : Value} {d : DataW H} {p : List MemPlace} (hv : Value.okWide Try.prog w r b0 22 v) (h : DataW.Trod enc Try.prog w base (fun _ => true) held 22 v d p) : ∃ n fs sv, RowsArg w v n fs sv := by
  obtain ⟨a, len, cap, rfl⟩ := okWide_slice Try.underlying22 hv
  obtain ⟨f, hf⟩ := h
  have hf' : DataW.trod enc Try.prog w base (fun _ => true) held f 22 [.slice a len cap] = some (d, p) := hf
  rcases Deep.open_int_rows Try.underlying22 Try.underlying30 Try.underlying5 cells30 cells5 hf' with ⟨hc, _⟩ | ⟨a, len, cap, A, L, C, Z, hc, _, hl, hm, _, hr⟩
  · simp at hc
    obtain ⟨rfl, rfl, rfl⟩ := hc
    exact ⟨0, fun _ => [], fun _ => .slice none 0 0, none, 0, rfl, by omega, fun h => by omega, fun i hi => by omega⟩
  · simp at hc
    obtain ⟨rfl, rfl, rfl⟩ := hc
    refine ⟨_, fun r => (Z r).take (L r), fun r => .slice (A r) (L r) (C r), some a, _, rfl, by unfold maxLen at hm; omega, fun h0 => ?_, fun i hi => ?_⟩
    · obtain ⟨b, o, rfl⟩ := plain_add (hr 0 (by omega)).1
      refine ⟨b, o, rfl, fun i hi => ?_⟩
      rw [← addr_add]
      exact (hr i (by omega)).1
    · obtain ⟨_, h1, h2, h3, _, h4, h5⟩ := hr i (by omega)
      refine ⟨A i, L i, C i, rfl, by simp; omega, by unfold maxLen at h2; omega, fun h0 => ?_⟩
      cases hA : A i with
      | none => have := h4 hA; omega
      | some a' =>
        obtain ⟨_, h6⟩ := h5 a' hA
        obtain ⟨b, o, rfl⟩ := plain_add (h6 0 (by omega))
        refine ⟨b, o, rfl, fun j hj => ?_⟩
        rw [← addr_add, h6 j (by omega), List.getD_eq_getElem?_getD, List.getD_eq_getElem?_getD, List.getElem?_take_of_lt hj]
def BoolsArg (w : World) (v : Value) (n : Nat) (bv : Nat → Bool) : Prop :=
  ∃ A c, v = .slice A n c ∧ n ≤ 9223372036854775807 ∧ (0 < n → ∃ gl o, A = some ⟨gl, o, none⟩ ∧ ∀ i, i < n → w.cell? ⟨gl, o + i, none⟩ = some (.bool (bv i)))
theorem open_bools {v : Value} {d : DataW H} {p : List MemPlace} (hv : Value.okWide Try.prog w r b0 23 v) (h : DataW.Trod enc Try.prog w base (fun _ => true) held 23 v d p) : ∃ n bv, BoolsArg w v n bv := by
  obtain ⟨a, len, cap, rfl⟩ := okWide_slice Try.underlying23 hv
  obtain ⟨f, hf⟩ := h
  have hf' : DataW.trod enc Try.prog w base (fun _ => true) held f 23 [.slice a len cap] = some (d, p) := hf
  rcases Deep.open_bools Try.underlying23 Try.underlying4 cells4 hf' with ⟨hc, _⟩ | ⟨a, len, cap, B, hc, _, hl, hm, _, hr⟩
  · simp at hc
    obtain ⟨rfl, rfl, rfl⟩ := hc
    exact ⟨0, fun _ => false, none, 0, rfl, by omega, fun h => by omega⟩
  · simp at hc
    obtain ⟨rfl, rfl, rfl⟩ := hc
    refine ⟨_, B, some a, _, rfl, by unfold maxLen at hm; omega, fun h0 => ?_⟩
    obtain ⟨b, o, rfl⟩ := plain_add (hr 0 (by omega))
    refine ⟨b, o, rfl, fun i hi => ?_⟩
    rw [← addr_add]
    exact hr i (by omega)
end

set_option maxRecDepth 100000 in
theorem order_no (A : Option Addr) (n c : Nat) (v : Value) (w : World) (hn : 64 < n) (hm : n ≤ 9223372036854775807) : Calls Try.prog 3 #[.slice A n c, v] w (Ret (.bool true) w) := by
  have h1 : (64 : Int) < (n : Int) := by omega
  go_enter Try.func3, Try.ntmps3
  go_wp2_with (first | (go_at_call 8; refine (awake_ok _).mono ?_; rintro e w1 ⟨rfl, hb⟩))
  go_ret
  exact ⟨rfl, hb⟩

theorem order_any (v u : Value) (n nu : Nat) (fs : Nat → List Int) (sv : Nat → Value) (bv : Nat → Bool) (w : World) (h : RowsArg w v n fs sv) (hu : BoolsArg w u nu bv) : Calls Try.prog 3 #[v, u] w (Ret (.bool true) w) := by
  obtain ⟨A, c, rfl, hm, hl, hf⟩ := h
  obtain ⟨B, cu, rfl, hmu, hlu⟩ := hu
  by_cases h64 : n ≤ 64
  · exact order_yes A B n c nu cu fs sv bv w h64 hmu hl hf hlu
  · exact order_no A n c _ w (by omega) hm
end Go.Proofs.Ytomhnabgdbpoiaa
