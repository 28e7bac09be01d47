/- Clean, Up, Within: the program's walks. No conditions. -/
import Derived.Test.YtpejghinphnllaaLeft
namespace Go.Proofs.Ytpejghinphnllaa
open Go.RowKit Go.Shelf
set_option linter.unusedVariables false
set_option linter.unusedSimpArgs false

def Ret2 (v : Value) (w : World) (e : Ending) (W' : World) : Prop := e = .returned v ∧ Below w.heap.size w W'
/-- Clean's two results. -/
def cleanV (l : List UInt8) : Value := if rightB l then .tuple #[.string (strL (cleanL l)), .int .i64 0] else .tuple #[.string ⟨#[]⟩, .int .i64 1]
def upL (l : List UInt8) : List UInt8 := joinL ((leftL (namesL l)).take ((leftL (namesL l)).length - 1))
def upV (l : List UInt8) : Value := if rightB l then .tuple #[.string (strL (upL l)), .int .i64 0] else .tuple #[.string ⟨#[]⟩, .int .i64 1]
def withinB (l d : List UInt8) : Bool := rightB l && rightB d && (leftL (namesL d)).isPrefixOf (leftL (namesL l))

set_option maxRecDepth 100000 in
set_option maxHeartbeats 1000000 in
theorem clean_any (s : ByteArray) (w : World) : Calls Try.prog 16 #[.string s] w (Ret2 (cleanV s.data.toList) w) := by
  go_enter Try.func16, Try.ntmps16
  have R := right_any s
  unfold cleanV
  cases hr : rightB s.data.toList with
  | false =>
    rw [hr] at R
    go_wp2_with (go_at_call 17; refine (R _).mono ?_; rintro e w' ⟨rfl, rfl⟩)
    go_ret2; exact ⟨rfl, Below.refl _ _⟩
  | true =>
    rw [hr] at R
    have L := left_any s
    have J := fun v W h => join_any v (leftL (namesL s.data.toList)) W h (by have := total_leftL s.data.toList; omega)
    go_wp2_with (first
      | (go_at_call 17; refine (R _).mono ?_; rintro e w' ⟨rfl, rfl⟩)
      | (go_at_call 25; refine (L _).mono ?_; rintro e w' ⟨v, rfl, hs, hb⟩)
      | (go_at_call 12; refine (J _ _ hs).mono ?_; rintro e w1 ⟨rfl, hb1⟩))
    go_ret2; exact ⟨rfl, hb.trans (hb1.mono hb.size)⟩

theorem strsAt_take {W : World} {A : Option Addr} {c : Nat} {ns : List (List UInt8)} (h : StrsAt W (.slice A ns.length c) ns) (k : Nat) (hk : k ≤ ns.length) : StrsAt W (.slice A k c) (ns.take k) := by
  obtain ⟨A', c', he, hc, hr⟩ := h
  cases he
  refine ⟨A, c, by simp [hk, Nat.min_eq_left], by simp; omega, fun h0 => ?_⟩
  obtain ⟨b, o, rfl, hlt, hx⟩ := hr (by simp at h0; omega)
  exact ⟨b, o, rfl, hlt, fun j n hj => hx j n (by
    have h1 : j < (ns.take k).length := (List.getElem?_eq_some_iff.1 hj).1
    rw [List.getElem?_take, if_pos (by simp at h1; omega)] at hj; exact hj)⟩

set_option maxRecDepth 100000 in
set_option maxHeartbeats 1000000 in
theorem up_any (s : ByteArray) (w : World) : Calls Try.prog 19 #[.string s] w (Ret2 (upV s.data.toList) w) := by
  go_enter Try.func19, Try.ntmps19
  have R := right_any s
  unfold upV
  cases hr : rightB s.data.toList with
  | false =>
    rw [hr] at R
    go_wp2_with (go_at_call 17; refine (R _).mono ?_; rintro e w' ⟨rfl, rfl⟩)
    go_ret2; exact ⟨rfl, Below.refl _ _⟩
  | true =>
    rw [hr] at R
    have L := left_any s
    have J := fun v W h => join_any v ((leftL (namesL s.data.toList)).take ((leftL (namesL s.data.toList)).length - 1)) W h (by have := total_leftL s.data.toList; have := total_take ((leftL (namesL s.data.toList)).length - 1) (leftL (namesL s.data.toList)); omega)
    have hsm := left_small s.data.toList
    rcases Nat.eq_zero_or_pos (leftL (namesL s.data.toList)).length with h0 | h0
    · have HU : upL s.data.toList = joinL [] := by unfold upL; rw [List.length_eq_zero_iff.1 h0]; rfl
      go_wp2_with (first
        | (go_at_call 17; refine (R _).mono ?_; rintro e w' ⟨rfl, rfl⟩)
        | (go_at_call 25; refine (L _).mono ?_; rintro e w' ⟨v, rfl, ⟨A, c, rfl, hc, hx⟩, hb⟩; have hs := strsAt_take ⟨A, c, rfl, hc, hx⟩ ((leftL (namesL s.data.toList)).length - 1) (by omega); rw [h0] at hs ⊢; have hs2 : StrsAt w' (.slice A (max (-1 : Int) 0).toNat c) ((leftL (namesL s.data.toList)).take ((leftL (namesL s.data.toList)).length - 1)) := (by rw [h0]; exact hs); clear hs hx)
        | (go_at_call 12; refine (J _ _ hs2).mono ?_; rintro e w1 ⟨rfl, hb1⟩))
      go_ret2; exact ⟨rfl, hb.trans (hb1.mono hb.size)⟩
    · obtain ⟨k, hk⟩ : ∃ k, (leftL (namesL s.data.toList)).length = k + 1 := ⟨(leftL (namesL s.data.toList)).length - 1, by omega⟩
      have hk1 : k ≤ 257 := by omega
      have hkm : max ((k : Int)) 0 = k := by omega
      have HU : upL s.data.toList = joinL ((leftL (namesL s.data.toList)).take k) := by unfold upL; rw [hk]; rfl
      go_wp2_with (first
        | (go_at_call 17; refine (R _).mono ?_; rintro e w' ⟨rfl, rfl⟩)
        | (go_at_call 25; refine (L _).mono ?_; rintro e w' ⟨v, rfl, ⟨A, c, rfl, hc, hx⟩, hb⟩; have hs2 : StrsAt w' (.slice A k c) ((leftL (namesL s.data.toList)).take ((leftL (namesL s.data.toList)).length - 1)) := (by have := strsAt_take ⟨A, c, rfl, hc, hx⟩ ((leftL (namesL s.data.toList)).length - 1) (by omega); rw [hk] at this ⊢; exact this); rw [hk] at hc ⊢; clear hx)
        | (go_at_call 12; refine (J _ _ hs2).mono ?_; rintro e w1 ⟨rfl, hb1⟩))
      go_ret2; exact ⟨rfl, hb.trans (hb1.mono hb.size)⟩

theorem prefix_false {a b : List (List UInt8)} {k : Nat} (hk : k < b.length) (h : ¬ b[k]? = a[k]?) : b.isPrefixOf a = false := by
  cases hp : b.isPrefixOf a with
  | false => rfl
  | true =>
    obtain ⟨t, ht⟩ := List.isPrefixOf_iff_prefix.1 hp
    exact absurd (by rw [← ht, List.getElem?_append_left hk]) h
theorem prefix_true {a b : List (List UInt8)} (h : b = a.take b.length) : b.isPrefixOf a = true :=
  List.isPrefixOf_iff_prefix.2 (by rw [h]; exact List.take_prefix _ _)
def WithinRel (a b : List (List UInt8)) (i : Value) : Prop := ∃ k : Nat, k ≤ b.length ∧ i = .int .i64 k ∧ b.take k = a.take k ∧ k ≤ a.length
theorem strL_inj {a b : List UInt8} (h : ¬ a = b) : (a == b) = false := by simpa using h

set_option maxRecDepth 100000 in
set_option maxHeartbeats 2000000 in
theorem within_any (s d : ByteArray) (w : World) : Calls Try.prog 14 #[.string s, .string d] w (Ret (.bool (withinB s.data.toList d.data.toList)) w) := by
  go_enter Try.func14, Try.ntmps14
  have R := right_any s
  have Rd := right_any d
  unfold withinB
  cases hr : rightB s.data.toList with
  | false =>
    rw [hr] at R
    go_wp2_with (go_at_call 17; (with_reducible refine (R _).mono ?_); rintro e w' ⟨rfl, rfl⟩)
    go_ret; exact ⟨rfl, Below.refl _ _⟩
  | true =>
    rw [hr] at R
    cases hd : rightB d.data.toList with
    | false =>
      rw [hd] at Rd
      go_wp2_with (go_at_call 17; first | ((with_reducible refine (R _).mono ?_); rintro e w' ⟨rfl, rfl⟩) | ((with_reducible refine (Rd _).mono ?_); rintro e w' ⟨rfl, rfl⟩))
      go_ret; exact ⟨rfl, Below.refl _ _⟩
    | true =>
      rw [hd] at Rd
      have L := left_any s
      have Ld := left_any d
      have hsm := left_small s.data.toList
      have hsd := left_small d.data.toList
      obtain ⟨a, ha⟩ : ∃ a, leftL (namesL s.data.toList) = a := ⟨_, rfl⟩
      obtain ⟨b, hb⟩ : ∃ b, leftL (namesL d.data.toList) = b := ⟨_, rfl⟩
      rw [ha] at L hsm ⊢
      rw [hb] at Ld hsd ⊢
      clear ha hb
      obtain ⟨res, hres⟩ : ∃ r, (true && true && b.isPrefixOf a) = r := ⟨_, rfl⟩
      have Hres := Lib.hid hres
      rw [hres]
      clear hres
      go_wp2_with (first
        | (go_at_call 17; first | ((with_reducible refine (R _).mono ?_); rintro e w' ⟨rfl, rfl⟩) | ((with_reducible refine (Rd _).mono ?_); rintro e w' ⟨rfl, rfl⟩))
        | (go_at_call 25; first | ((with_reducible refine (L _).mono ?_); rintro e w1 ⟨v1, rfl, hs1, hb1⟩; have Hs1 := Lib.hid hs1; clear hs1) | ((with_reducible refine (Ld _).mono ?_); rintro e w2 ⟨v2, rfl, ⟨A2, c2, rfl, hc2, hx2⟩, hb2⟩; obtain ⟨A1, c1, rfl, hc1, hx1⟩ := strsAt_below Hs1.out hb2; have Hx1 := Lib.hid hx1; have Hx2 := Lib.hid hx2; clear hx1 hx2)))
      go_loop [23] (fun i => WithinRel a b i) (fun i => b.length - (intOf i).toNat)
      case atStart => exact ⟨0, Nat.zero_le _, rfl, by simp, Nat.zero_le _⟩
      case round =>
        obtain ⟨k, hk, rfl, hp, hka⟩ := hrel
        by_cases hlt : k < b.length
        · obtain ⟨b2, o2, rfl, -, hcell2⟩ := Hx2.out (by omega)
          obtain ⟨y, hy⟩ : ∃ y, b[k]? = some y := ⟨_, List.getElem?_eq_getElem hlt⟩
          have cy := hcell2 k y hy
          have hlt' : (k : Int) < (b.length : Int) := by omega
          have hk1 : k ≤ 257 := by omega
          have Hp := Lib.hid hp
          have Hy := Lib.hid hy
          clear hcell2 hp hy
          by_cases hla : k < a.length
          · obtain ⟨b1, o1, rfl, -, hcell1⟩ := Hx1.out (by omega)
            obtain ⟨x, hx⟩ : ∃ x, a[k]? = some x := ⟨_, List.getElem?_eq_getElem hla⟩
            have cx := hcell1 k x hx
            have tx : (strL x).toList = x := ByteArray.toList_eq _
            have ty : (strL y).toList = y := ByteArray.toList_eq _
            have Hx := Lib.hid hx
            clear hcell1 hx
            have hla' : (k : Int) < (a.length : Int) := by omega
            by_cases hxy : x = y
            · have hE : (x == y) = true := by simpa using hxy
              have Hxy := Lib.hid hxy
              clear hxy
              go_wp2
              go_round
              case rel => exact ⟨k + 1, by omega, by go_num, by rw [List.take_add_one, List.take_add_one, Hp.out, Hx.out, Hy.out, Hxy.out], by omega⟩
              case measure => simp [intOf]; omega
            · have hE : (x == y) = false := by simpa using hxy
              have Hxy := Lib.hid hxy
              clear hxy
              go_wp2
              go_ret
              exact ⟨by rw [← Hres.out, prefix_false hlt (by rw [Hx.out, Hy.out]; exact fun h => Hxy.out (Option.some.inj h).symm)]; rfl, hb1.trans (hb2.mono hb1.size)⟩
          · have hla' : (a.length : Int) ≤ (k : Int) := by omega
            go_wp2
            go_ret
            exact ⟨by rw [← Hres.out, prefix_false hlt (by rw [Hy.out, List.getElem?_eq_none (by omega)]; simp)]; rfl, hb1.trans (hb2.mono hb1.size)⟩
        · obtain rfl : k = b.length := by omega
          rw [List.take_length] at hp
          have Hp := Lib.hid hp
          clear hp
          go_wp2
          go_ret
          exact ⟨by rw [← Hres.out, prefix_true Hp.out]; rfl, hb1.trans (hb2.mono hb1.size)⟩
end Go.Proofs.Ytpejghinphnllaa
