/- Clean, Up, Within: the program's walks. No conditions. -/
import Derived.Test.YtnjpodbefcfdhaaDoorLeft
namespace Go.Proofs.YtnjpodbefcfdhaaDoor
open Go.RowKit Go.Shelf
set_option linter.unusedVariables false
set_option linter.unusedSimpArgs false

def Ret2 (v : Value) (w : World) (e : Ending) (W' : World) : Prop := e = .returned v ∧ Below w.heap.size w W'
/-- Clean's two results. -/
def cleanV (l : List UInt8) : Value := if rightB l then .tuple #[.string (strL (cleanL l)), .int .i64 0] else .tuple #[.string ⟨#[]⟩, .int .i64 1]
def upL (l : List UInt8) : List UInt8 := joinL ((leftL (namesL l)).take ((leftL (namesL l)).length - 1))
def upV (l : List UInt8) : Value := if rightB l then .tuple #[.string (strL (upL l)), .int .i64 0] else .tuple #[.string ⟨#[]⟩, .int .i64 1]
def withinB (l d : List UInt8) : Bool := rightB l && rightB d && (leftL (namesL d)).isPrefixOf (leftL (namesL l))

set_option maxRecDepth 100000 in
set_option maxHeartbeats 1000000 in
theorem clean_any (s : ByteArray) (w : World) : Calls Tryd.prog 12 #[.string s] w (Ret2 (cleanV s.data.toList) w) := by
  go_enter Tryd.func12, Tryd.ntmps12
  have R := right_any s
  unfold cleanV
  cases hr : rightB s.data.toList with
  | false =>
    rw [hr] at R
    go_wp2_with (go_at_call 17; refine (R _).mono ?_; rintro e w' ⟨rfl, rfl⟩)
    go_ret2; exact ⟨rfl, Below.refl _ _⟩
  | true =>
    rw [hr] at R
    have L := left_any s
    have J := fun v W h => join_any v (leftL (namesL s.data.toList)) W h (by have := total_leftL s.data.toList; omega)
    go_wp2_with (first
      | (go_at_call 17; refine (R _).mono ?_; rintro e w' ⟨rfl, rfl⟩)
      | (go_at_call 24; refine (L _).mono ?_; rintro e w' ⟨v, rfl, hs, hb⟩)
      | (go_at_call 18; refine (J _ _ hs).mono ?_; rintro e w1 ⟨rfl, hb1⟩))
    go_ret2; exact ⟨rfl, hb.trans (hb1.mono hb.size)⟩

theorem strsAt_take {W : World} {A : Option Addr} {c : Nat} {ns : List (List UInt8)} (h : StrsAt W (.slice A ns.length c) ns) (k : Nat) (hk : k ≤ ns.length) : StrsAt W (.slice A k c) (ns.take k) := by
  obtain ⟨A', c', he, hc, hr⟩ := h
  cases he
  refine ⟨A, c, by simp [hk, Nat.min_eq_left], by simp; omega, fun h0 => ?_⟩
  obtain ⟨b, o, rfl, hlt, hx⟩ := hr (by simp at h0; omega)
  exact ⟨b, o, rfl, hlt, fun j n hj => hx j n (by
    have h1 : j < (ns.take k).length := (List.getElem?_eq_some_iff.1 hj).1
    rw [List.getElem?_take, if_pos (by simp at h1; omega)] at hj; exact hj)⟩

set_option maxRecDepth 100000 in
set_option maxHeartbeats 1000000 in
theorem up_any (s : ByteArray) (w : World) : Calls Tryd.prog 26 #[.string s] w (Ret2 (upV s.data.toList) w) := by
  go_enter Tryd.func26, Tryd.ntmps26
  have R := right_any s
  unfold upV
  cases hr : rightB s.data.toList with
  | false =>
    rw [hr] at R
    go_wp2_with (go_at_call 17; refine (R _).mono ?_; rintro e w' ⟨rfl, rfl⟩)
    go_ret2; exact ⟨rfl, Below.refl _ _⟩
  | true =>
    rw [hr] at R
    have L := left_any s
    have J := fun v W h => join_any v ((leftL (namesL s.data.toList)).take ((leftL (namesL s.data.toList)).length - 1)) W h (by have := total_leftL s.data.toList; have := total_take ((leftL (namesL s.data.toList)).length - 1) (leftL (namesL s.data.toList)); omega)
    have hsm := left_small s.data.toList
    rcases Nat.eq_zero_or_pos (leftL (namesL s.data.toList)).length with h0 | h0
    · have HU : upL s.data.toList = joinL [] := by unfold upL; rw [List.length_eq_zero_iff.1 h0]; rfl
      go_wp2_with (first
        | (go_at_call 17; refine (R _).mono ?_; rintro e w' ⟨rfl, rfl⟩)
        | (go_at_call 24; refine (L _).mono ?_; rintro e w' ⟨v, rfl, ⟨A, c, rfl, hc, hx⟩, hb⟩; have hs := strsAt_take ⟨A, c, rfl, hc, hx⟩ ((leftL (namesL s.data.toList)).length - 1) (by omega); rw [h0] at hs ⊢; have hs2 : StrsAt w' (.slice A (max (-1 : Int) 0).toNat c) ((leftL (namesL s.data.toList)).take ((leftL (namesL s.data.toList)).length - 1)) := (by rw [h0]; exact hs); clear hs hx)
        | (go_at_call 18; refine (J _ _ hs2).mono ?_; rintro e w1 ⟨rfl, hb1⟩))
      go_ret2; exact ⟨rfl, hb.trans (hb1.mono hb.size)⟩
    · obtain ⟨k, hk⟩ : ∃ k, (leftL (namesL s.data.toList)).length = k + 1 := ⟨(leftL (namesL s.data.toList)).length - 1, by omega⟩
      have hk1 : k ≤ 257 := by omega
      have hkm : max ((k : Int)) 0 = k := by omega
      have HU : upL s.data.toList = joinL ((leftL (namesL s.data.toList)).take k) := by unfold upL; rw [hk]; rfl
      go_wp2_with (first
        | (go_at_call 17; refine (R _).mono ?_; rintro e w' ⟨rfl, rfl⟩)
        | (go_at_call 24; refine (L _).mono ?_; rintro e w' ⟨v, rfl, ⟨A, c, rfl, hc, hx⟩, hb⟩; have hs2 : StrsAt w' (.slice A k c) ((leftL (namesL s.data.toList)).take ((leftL (namesL s.data.toList)).length - 1)) := (by have := strsAt_take ⟨A, c, rfl, hc, hx⟩ ((leftL (namesL s.data.toList)).length - 1) (by omega); rw [hk] at this ⊢; exact this); rw [hk] at hc ⊢; clear hx)
        | (go_at_call 18; refine (J _ _ hs2).mono ?_; rintro e w1 ⟨rfl, hb1⟩))
      go_ret2; exact ⟨rfl, hb.trans (hb1.mono hb.size)⟩

theorem prefix_false {a b : List (List UInt8)} {k : Nat} (hk : k < b.length) (h : ¬ b[k]? = a[k]?) : b.isPrefixOf a = false := by
  cases hp : b.isPrefixOf a with
  | false => rfl
  | true =>
    obtain ⟨t, ht⟩ := List.isPrefixOf_iff_prefix.1 hp
    exact absurd (by rw [← ht, List.getElem?_append_left hk]) h
theorem prefix_true {a b : List (List UInt8)} (h : b = a.take b.length) : b.isPrefixOf a = true :=
  List.isPrefixOf_iff_prefix.2 (by rw [h]; exact List.take_prefix _ _)

end Go.Proofs.YtnjpodbefcfdhaaDoor
