/- Right, twice: what it answers. Conditions: the string is no longer than a string can be. -/
import Derived.Test.YtnjpodbefcfdhaaDoorShelf
import Derived.Test.YtnjpodbefcfdhaaDoorChecked
import Derived.WalkLawsBesides
import Derived.WalkSmall
import Derived.Deep.RegionHeld3
import Derived.Deep.RegionLaw
import Derived.Deep.DrawnRows
import Derived.Deep.QuietTactic
import Derived.BigQuiet
import Derived.Lib.Hide
import Derived.Lib.IndexLaws
namespace Go.Proofs.YtnjpodbefcfdhaaDoor
open Go.RowKit
attribute [local go_sem ↓] Go.wp_at_zero Go.wp_at_succ
set_option linter.unusedVariables false
set_option linter.unusedSimpArgs false

def Same (v : Value) (w : World) (e : Ending) (w' : World) : Prop := e = .returned v ∧ w = w'
/-- May this be a path? -/
def rightB (l : List UInt8) : Bool := Lib.hasPrefix l [47] && (decide ((l.length : Int) ≤ 256) && decide (Lib.indexByte l 0 < 0))
theorem len_data (s : ByteArray) : s.data.toList.length = s.size := Array.length_toList

theorem right_any (s : ByteArray) (w : World) : Calls Tryd.prog 17 #[.string s] w (Same (.bool (rightB s.data.toList)) w) := by
  go_enter Tryd.func17, Tryd.ntmps17
  go_wp2_with (first
    | (go_at_call 29; refine (Tryd.strings_HasPrefix _ _ _).mono ?_; rintro e w' ⟨rfl, rfl⟩)
    | (go_at_call 28; refine (Tryd.strings_IndexByte _ _ _).mono ?_; rintro e w' ⟨rfl, rfl⟩))
  · have h1 : Lib.hasPrefix s.data.toList [47] = true := by assumption
    have h2 : (s.size : Int) ≤ 256 := by assumption
    go_ret
    refine ⟨?_, rfl⟩
    unfold rightB
    rw [h1, len_data, decide_eq_true h2]
    rfl
  · have h1 : Lib.hasPrefix s.data.toList [47] = true := by assumption
    have h2 : 256 < (s.size : Int) := by assumption
    go_ret
    refine ⟨?_, rfl⟩
    unfold rightB
    rw [h1, len_data, decide_eq_false (by omega)]
    rfl
  · have h1 : ¬ Lib.hasPrefix s.data.toList [47] = true := by assumption
    go_ret
    refine ⟨?_, rfl⟩
    unfold rightB
    rw [Bool.not_eq_true] at h1
    rw [h1]
    rfl

/-- Up to here there is no zero. -/
def RefRel (l : List UInt8) (u : Value) : Prop := ∃ k : Nat, k ≤ l.length ∧ u = .int .i64 k ∧ ∀ i, i < k → l[i]? ≠ some 0
theorem idx_no {l : List UInt8} (h : ∀ i, i < l.length → l[i]? ≠ some 0) : Lib.indexByte l 0 < 0 := by
  rcases Int.lt_or_le (Lib.indexByte l 0) 0 with h1 | h1
  · exact h1
  · obtain ⟨o, ho⟩ : ∃ o : Nat, Lib.indexByte l 0 = o := ⟨(Lib.indexByte l 0).toNat, by omega⟩
    have := (Lib.indexByte_some ho).1
    exact absurd this (h o (List.getElem?_eq_some_iff.1 this).1)
theorem idx_yes {l : List UInt8} {k : Nat} (h : l[k]? = some 0) : ¬ Lib.indexByte l 0 < 0 := by
  intro h1
  have h2 := Lib.indexByte_ge l 0
  exact Lib.indexByte_none (show Lib.indexByte l 0 = -1 by omega) k h
theorem pre47 (l : List UInt8) : Lib.hasPrefix l [47] = true ↔ l[0]? = some 47 := by
  cases l with
  | nil => simp [Lib.hasPrefix, List.isPrefixOf]
  | cons a t =>
    simp only [Lib.hasPrefix, List.isPrefixOf, Bool.and_true, beq_iff_eq, List.getElem?_cons_zero, Option.some.injEq]
    exact ⟨fun h => h.symm, fun h => h.symm⟩
theorem get_data (s : ByteArray) (k : Nat) (h : k < s.size) : s.data.toList[k]? = some s[k] := by
  rw [List.getElem?_eq_getElem (by rw [len_data]; exact h)]; rfl
theorem byte_eq {b : UInt8} {n : Nat} (hn : n < 256) : ((b.toNat : Int) = n) ↔ b = UInt8.ofNat n := by
  constructor
  · intro h
    have h' : b.toNat = n := by omega
    rw [← h']; exact (UInt8.ofNat_toNat).symm
  · rintro rfl
    have : (UInt8.ofNat n).toNat = n := by rw [UInt8.toNat_ofNat']; omega
    rw [this]

set_option maxRecDepth 10000 in
theorem ref_right_any (s : ByteArray) (w : World) : Calls Tryd.prog 21 #[.string s] w (Same (.bool (rightB s.data.toList)) w) := by
  by_cases hz : s.size = 0
  · obtain rfl : s = ByteArray.empty := by
      apply ByteArray.ext
      exact Array.eq_empty_of_size_eq_zero hz
    have hr : rightB ByteArray.empty.data.toList = false := rfl
    rw [hr]
    go_enter Tryd.func21, Tryd.ntmps21
    go_wp2
    go_ret
    exact ⟨rfl, rfl⟩
  · have he : ¬ s = ByteArray.empty := by rintro rfl; exact hz rfl
    have hz2 : ((s.size : Int) == 0) = false := by simp; omega
    have hz3 : 0 < s.size := by omega
    by_cases h256 : 256 < (s.size : Int)
    · have hr : rightB s.data.toList = false := by
        unfold rightB
        rw [len_data, decide_eq_false (show ¬ (s.size : Int) ≤ 256 by omega)]
        simp
      rw [hr]
      clear hr
      go_enter Tryd.func21, Tryd.ntmps21
      go_wp2
      go_ret
      exact ⟨rfl, rfl⟩
    · have hle : (s.size : Int) ≤ 256 := by omega
      have hd : decide (256 < (s.size : Int)) = false := by simp; omega
      by_cases h47 : s[0] = 47
      · have hc : (((s[0]).toNat : Int) != 47) = false := by rw [h47]; rfl
        have hp : Lib.hasPrefix s.data.toList [47] = true := (pre47 _).2 (by rw [get_data s 0 hz3, h47])
        have hr : rightB s.data.toList = decide (Lib.indexByte s.data.toList 0 < 0) := by
          unfold rightB
          rw [hp, len_data, decide_eq_true hle]; rfl
        have Hr := Lib.hid hr
        clear hr hp h47
        go_enter Tryd.func21, Tryd.ntmps21
        go_wp2
        go_loop [3] (fun u => RefRel s.data.toList u) (fun u => s.size - (intOf u).toNat)
        case atStart => exact ⟨0, Nat.zero_le _, rfl, fun i hi => by omega⟩
        case round =>
          obtain ⟨k, hk, rfl, hall⟩ := hrel
          rw [len_data] at hk
          have Hall := Lib.hid hall
          clear hall
          by_cases hlt : k < s.size
          · by_cases h0 : s[k] = 0
            · have hc0 : (((s[k]).toNat : Int) == 0) = true := by rw [h0]; rfl
              have hfin := Lib.hid (idx_yes (l := s.data.toList) (k := k) (by rw [get_data s k hlt, h0]))
              clear h0
              go_wp2
              go_ret
              exact ⟨by rw [Hr.out, show decide (Lib.indexByte s.data.toList 0 < 0) = false from decide_eq_false (by have := hfin.out; omega)]; rfl, rfl⟩
            · have hc0 : (((s[k]).toNat : Int) == 0) = false := by
                simp only [beq_eq_false_iff_ne]
                intro h
                exact h0 ((byte_eq (n := 0) (by omega)).1 h)
              have H0 := Lib.hid h0
              clear h0
              go_wp2
              go_round
              case rel => exact ⟨k + 1, by rw [len_data]; omega, by go_num, fun i hi => by
                by_cases hik : i = k
                · subst hik; rw [get_data s i hlt]; intro h; exact H0.out (Option.some.inj h)
                · exact Hall.out i (by omega)⟩
              case measure => simp [intOf]; omega
          · obtain rfl : k = s.size := by omega
            have hfin := Lib.hid (idx_no (l := s.data.toList) (fun i hi => Hall.out i (by rw [len_data] at hi; exact hi)))
            go_wp2
            go_ret
            exact ⟨by rw [Hr.out, show decide (Lib.indexByte s.data.toList 0 < 0) = true from decide_eq_true (by have := hfin.out; omega)]; rfl, rfl⟩
      · have hc : (((s[0]).toNat : Int) != 47) = true := by
          simp only [bne_iff_ne, ne_eq]
          intro h
          exact h47 ((byte_eq (n := 47) (by omega)).1 h)
        have hr : rightB s.data.toList = false := by
          have hp : Lib.hasPrefix s.data.toList [47] = false := by
            rw [← Bool.not_eq_true, pre47, get_data s 0 hz3]
            intro h; exact h47 (Option.some.inj h)
          unfold rightB
          rw [hp]; rfl
        rw [hr]
        clear hr h47
        go_enter Tryd.func21, Tryd.ntmps21
        go_wp2
        go_ret
        exact ⟨rfl, rfl⟩
end Go.Proofs.YtnjpodbefcfdhaaDoor
