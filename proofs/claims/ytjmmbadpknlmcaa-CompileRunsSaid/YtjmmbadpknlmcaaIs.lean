/- What a word is, twice. Conditions: the string is no longer than a string can be. -/
import Derived.Test.YtjmmbadpknlmcaaLex
namespace Go.Proofs.Ytjmmbadpknlmcaa
open Go.RowKit Go.Great
attribute [local go_sem ↓] Go.wp_at_zero Go.wp_at_succ
set_option linter.unusedVariables false
set_option linter.unusedSimpArgs false

def wordL : List UInt8 → Bool
  | [] => false
  | b :: l => smallI b.toNat && decide ((lenL (b :: l) : Int) = (b :: l).length)
theorem wordL_cons (b : UInt8) (l : List UInt8) : wordL (b :: l) = (smallI b.toNat && decide ((lenL (b :: l) : Int) = (b :: l).length)) := rfl
def wordB (s : ByteArray) : Bool := wordL s.data.toList
theorem bytes_cons {s : ByteArray} {b : UInt8} {l : List UInt8} (h : s.data.toList = b :: l) : ∃ hp : 0 < s.size, s[0]'hp = b := by
  have hl : s.data.size = (b :: l).length := by rw [← h]; exact Array.length_toList.symm
  have hp : 0 < s.data.size := by rw [hl]; simp
  refine ⟨hp, ?_⟩
  have h0 : s.data.toList[0]? = some b := by rw [h]; rfl
  rw [Array.getElem?_toList, Array.getElem?_eq_getElem hp] at h0
  exact Option.some.inj h0

theorem wrap32_byte (x : Nat) (h : x < 256) : wrap32 (x : Int) = x := by
  simp [wrap32]
  omega
set_option maxRecDepth 100000 in
theorem is_any (s : ByteArray) (w : World) : Calls Try.prog 68 #[.string s] w (Ret (.bool (wordB s)) w) := by
  have L := length_any s
  unfold wordB
  rcases hs : s.data.toList with _ | ⟨b, l⟩
  · obtain rfl : s = ⟨#[]⟩ := ByteArray.ext (Array.toList_inj.1 hs)
    go_enter Try.func68, Try.ntmps68
    go_wp2
    go_ret
    exact ⟨rfl, Below.refl _ _⟩
  · obtain ⟨hp, hb⟩ := bytes_cons hs
    have hne : (s.toList == []) = false := by rw [ByteArray.toList_eq, hs]; rfl
    have hz : (s.size : Int) = ((b :: l).length : Nat) := by rw [← hs, Array.length_toList]; rfl
    rw [wordL_cons]
    rw [hs] at L
    obtain ⟨n, hn⟩ : ∃ n, lenL (b :: l) = n := ⟨_, rfl⟩
    rw [hn] at L ⊢
    rw [← hz]
    obtain ⟨x, hx⟩ : ∃ x, b.toNat = x := ⟨_, rfl⟩
    have S := small_any (x : Int)
    rw [hx]
    obtain ⟨y, hy⟩ : ∃ y, smallI (x : Int) = y := ⟨_, rfl⟩
    rw [hy] at S ⊢
    have hw : wrap32 (x : Int) = x := wrap32_byte x (by rw [← hx]; exact b.toNat_lt)
    clear hn hy hz hs
    cases y with
    | true =>
      go_enter Try.func68, Try.ntmps68
      go_wp2_with (first | (go_at_call 86; refine (S _).mono ?_; rintro e w' ⟨rfl, rfl⟩) | (go_at_call 87; refine (L _).mono ?_; rintro e w' ⟨rfl, hb7⟩))
      go_ret
      exact ⟨rfl, hb7⟩
    | false =>
      go_enter Try.func68, Try.ntmps68
      go_wp2_with (first | (go_at_call 86; refine (S _).mono ?_; rintro e w' ⟨rfl, rfl⟩) | (go_at_call 87; refine (L _).mono ?_; rintro e w' ⟨rfl, hb7⟩))
      go_ret
      exact ⟨rfl, Below.refl _ _⟩

def RunRel (s : ByteArray) (i : Value) : Prop := ∃ k : Nat, i = .int .i64 k ∧ k ≤ s.size ∧ lenL s.data.toList = k + lenL (s.data.toList.drop k)

set_option maxRecDepth 100000 in
set_option maxHeartbeats 1000000 in
theorem run_any (s : ByteArray) (hs : s.size ≤ 9223372036854775807) (w : World) : Calls Try.prog 62 #[.string s, .int .i64 0] w (Same (.int .i64 (lenL s.data.toList)) w) := by
  go_enter Try.func62, Try.ntmps62
  go_wp2
  go_loop [5] (fun i => RunRel s i) (fun i => s.size - (intOf i).toNat)
  case atStart => exact ⟨0, rfl, by omega, by simp⟩
  case round =>
    obtain ⟨pos, rfl, hle, hl⟩ := hrel
    by_cases hp : pos < s.size
    · have hsame : s.data.toList[pos]? = some (s[pos]'hp) := by rw [Array.getElem?_toList]; exact Array.getElem?_eq_getElem hp
      obtain ⟨c, hc⟩ : ∃ c, (s[pos]'hp).toNat = c := ⟨_, rfl⟩
      have hat := lenL_at hsame hc
      have hp' : (pos : Int) < s.size := by omega
      have h0 : (0 : Int) + pos = pos := by omega
      have G := ref_goes_any (c : Int)
      obtain ⟨y, hy⟩ : ∃ y, goesI (c : Int) = y := ⟨_, rfl⟩
      rw [hy] at hat G
      clear hy hsame
      rw [hat] at hl
      have Hl := Lib.hid hl
      clear hat hl
      cases y with
      | true =>
        go_wp2_with (go_at_call 83; refine (G _).mono ?_; rintro e w' ⟨rfl, rfl⟩)
        go_round
        case rel => exact ⟨pos + 1, rfl, by omega, by rw [Hl.out, if_pos trivial]; omega⟩
        case measure => (simp [intOf] <;> omega)
      | false =>
        go_wp2_with (go_at_call 83; refine (G _).mono ?_; rintro e w' ⟨rfl, rfl⟩)
        go_ret
        exact ⟨by rw [Hl.out]; simp, rfl⟩
    · obtain rfl : pos = s.size := by omega
      have h0 : lenL (s.data.toList.drop s.size) = 0 := by rw [List.drop_eq_nil_of_le (by rw [Array.length_toList]; exact Nat.le_refl _)]; rfl
      rw [h0] at hl
      have Hl := Lib.hid hl
      clear hl h0
      go_wp2
      go_ret
      exact ⟨by rw [Hl.out]; rfl, rfl⟩

set_option maxRecDepth 100000 in
theorem ref_is_any (s : ByteArray) (hsz : s.size ≤ 9223372036854775807) (w : World) : Calls Try.prog 41 #[.string s] w (Ret (.bool (wordB s)) w) := by
  have L := run_any s hsz
  unfold wordB
  rcases hs : s.data.toList with _ | ⟨b, l⟩
  · obtain rfl : s = ⟨#[]⟩ := ByteArray.ext (Array.toList_inj.1 hs)
    go_enter Try.func41, Try.ntmps41
    go_wp2
    go_ret
    exact ⟨rfl, Below.refl _ _⟩
  · obtain ⟨hp, hb⟩ := bytes_cons hs
    have hz : (s.size : Int) = ((b :: l).length : Nat) := by rw [← hs, Array.length_toList]; rfl
    rw [wordL_cons]
    rw [hs] at L
    obtain ⟨n, hn⟩ : ∃ n, lenL (b :: l) = n := ⟨_, rfl⟩
    rw [hn] at L ⊢
    rw [← hz]
    obtain ⟨x, hx⟩ : ∃ x, b.toNat = x := ⟨_, rfl⟩
    have S := ref_small_any (x : Int)
    rw [hx]
    obtain ⟨y, hy⟩ : ∃ y, smallI (x : Int) = y := ⟨_, rfl⟩
    rw [hy] at S ⊢
    have hp' : (0 : Int) < s.size := by omega
    clear hn hy hz hs
    cases y with
    | true =>
      go_enter Try.func41, Try.ntmps41
      go_wp2_with (first | (go_at_call 61; refine (S _).mono ?_; rintro e w' ⟨rfl, rfl⟩) | (go_at_call 62; refine (L _).mono ?_; rintro e w' ⟨rfl, rfl⟩))
      go_ret
      exact ⟨rfl, Below.refl _ _⟩
    | false =>
      go_enter Try.func41, Try.ntmps41
      go_wp2_with (first | (go_at_call 61; refine (S _).mono ?_; rintro e w' ⟨rfl, rfl⟩) | (go_at_call 62; refine (L _).mono ?_; rintro e w' ⟨rfl, rfl⟩))
      go_ret
      exact ⟨rfl, Below.refl _ _⟩
end Go.Proofs.Ytjmmbadpknlmcaa
