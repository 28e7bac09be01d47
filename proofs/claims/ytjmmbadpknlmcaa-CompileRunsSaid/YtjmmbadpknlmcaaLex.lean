/- What a word is: of the program (runes) and of the reference (bytes). Conditions: the string is no longer than a string can be. -/
import Derived.Test.YtjmmbadpknlmcaaNames
namespace Go.Proofs.Ytjmmbadpknlmcaa
open Go.RowKit Go.Great
attribute [local go_sem ↓] Go.wp_at_zero Go.wp_at_succ
set_option linter.unusedVariables false
set_option linter.unusedSimpArgs false

def smallI (n : Int) : Bool := decide (97 ≤ n ∧ n ≤ 122)
def digitI (n : Int) : Bool := decide (48 ≤ n ∧ n ≤ 57)
def goesI (n : Int) : Bool := smallI n || digitI n || n == 95

theorem small_any (n : Int) (w : World) : Calls Try.prog 86 #[.int .i32 n] w (Same (.bool (smallI n)) w) := by
  go_enter Try.func86, Try.ntmps86
  go_wp2
  all_goals
    go_ret
    refine same_of ?_
    rw [Bool.eq_iff_iff]
    simp [smallI]
    try omega
theorem digit_any (n : Int) (w : World) : Calls Try.prog 98 #[.int .i32 n] w (Same (.bool (digitI n)) w) := by
  go_enter Try.func98, Try.ntmps98
  go_wp2
  all_goals
    go_ret
    refine same_of ?_
    rw [Bool.eq_iff_iff]
    simp [digitI]
    try omega
theorem goes_any (n : Int) (w : World) : Calls Try.prog 96 #[.int .i32 n] w (Same (.bool (goesI n)) w) := by
  have S := small_any n
  have D := digit_any n
  unfold goesI
  obtain ⟨a, ha⟩ : ∃ a, smallI n = a := ⟨_, rfl⟩
  obtain ⟨b, hb⟩ : ∃ b, digitI n = b := ⟨_, rfl⟩
  rw [ha] at S ⊢
  rw [hb] at D ⊢
  clear ha hb
  go_enter Try.func96, Try.ntmps96
  cases a <;> cases b
  all_goals
    go_wp2_with (first | (go_at_call 86; refine (S _).mono ?_; rintro e w' ⟨rfl, rfl⟩) | (go_at_call 98; refine (D _).mono ?_; rintro e w' ⟨rfl, rfl⟩))
    go_ret
    first | exact ⟨rfl, rfl⟩ | (refine same_of ?_; simp)
theorem ref_small_any (n : Int) (w : World) : Calls Try.prog 61 #[.int .u8 n] w (Same (.bool (smallI n)) w) := by
  go_enter Try.func61, Try.ntmps61
  go_wp2
  all_goals
    go_ret
    refine same_of ?_
    rw [Bool.eq_iff_iff]
    simp [smallI]
    try omega
theorem ref_digit_any (n : Int) (w : World) : Calls Try.prog 94 #[.int .u8 n] w (Same (.bool (digitI n)) w) := by
  go_enter Try.func94, Try.ntmps94
  go_wp2
  all_goals
    go_ret
    refine same_of ?_
    rw [Bool.eq_iff_iff]
    simp [digitI]
    try omega
theorem ref_goes_any (n : Int) (w : World) : Calls Try.prog 83 #[.int .u8 n] w (Same (.bool (goesI n)) w) := by
  have S := ref_small_any n
  have D := ref_digit_any n
  unfold goesI
  obtain ⟨a, ha⟩ : ∃ a, smallI n = a := ⟨_, rfl⟩
  obtain ⟨b, hb⟩ : ∃ b, digitI n = b := ⟨_, rfl⟩
  rw [ha] at S ⊢
  rw [hb] at D ⊢
  clear ha hb
  go_enter Try.func83, Try.ntmps83
  cases a <;> cases b
  all_goals
    go_wp2_with (first | (go_at_call 61; refine (S _).mono ?_; rintro e w' ⟨rfl, rfl⟩) | (go_at_call 94; refine (D _).mono ?_; rintro e w' ⟨rfl, rfl⟩))
    go_ret
    first | exact ⟨rfl, rfl⟩ | (refine same_of ?_; simp)

/-- How many bytes from the front on go on a word. -/
def lenL (l : List UInt8) : Nat := (l.takeWhile fun b => goesI b.toNat).length
theorem lenL_at {l : List UInt8} {k n : Nat} {b : UInt8} (h : l[k]? = some b) (hn : b.toNat = n) : lenL (l.drop k) = if goesI n then 1 + lenL (l.drop (k + 1)) else 0 := by
  subst hn
  unfold lenL
  rw [List.drop_eq_getElem_cons (List.getElem?_eq_some_iff.1 h).1, (List.getElem?_eq_some_iff.1 h).2, List.takeWhile_cons]
  split <;> simp <;> omega
theorem lenL_le (l : List UInt8) : lenL l ≤ l.length := by
  induction l with
  | nil => simp [lenL]
  | cons x l ih =>
    unfold lenL at *
    rw [List.takeWhile_cons]
    split <;> simp <;> omega
theorem goes_low {n : Int} (h : goesI n = true) : n < 128 := by
  unfold goesI smallI digitI at h
  simp only [Bool.or_eq_true, decide_eq_true_eq, beq_iff_eq] at h
  omega

def LexRel (s : ByteArray) (w wr : World) : Prop := ∃ pos, wr = w.iter s pos ∧ pos ≤ s.size ∧ lenL s.data.toList = pos + lenL (s.data.toList.drop pos)

set_option maxRecDepth 100000 in
set_option maxHeartbeats 1000000 in
theorem length_any (s : ByteArray) (w : World) : Calls Try.prog 87 #[.string s] w (Ret (.int .i64 (lenL s.data.toList)) w) := by
  have hdl : s.data.toList.length = s.size := Array.length_toList
  go_enter Try.func87, Try.ntmps87
  go_wp2
  go_loopw [3] (fun _ wr => LexRel s w wr) (fun _ wr => s.size - wr.iterPos w.heap.size)
  case atStart => exact ⟨0, rfl, by omega, by simp⟩
  case round =>
    obtain ⟨pos, rfl, hle, hl⟩ := hrel
    by_cases hp : pos < s.size
    · have hnx : ∀ ty, (Instr.next (.pointer (some ⟨w.heap.size, 0, none⟩)) true ty).run Try.prog (w.iter s pos) = _ := fun ty => run_next_any w s pos ty hp
      have hsame : s.data.toList[pos]? = some (s[pos]'hp) := by rw [Array.getElem?_toList]; exact Array.getElem?_eq_getElem hp
      by_cases hlow : (s[pos]'hp).toNat < 128
      · have hd := decode_ascii s pos hp hlow
        rw [hd] at hnx
        obtain ⟨c, hc⟩ : ∃ c, (s[pos]'hp).toNat = c := ⟨_, rfl⟩
        have hat := lenL_at hsame hc
        rw [hc] at hnx
        clear hd hc hsame hlow
        have G := goes_any (c : Int)
        obtain ⟨y, hy⟩ : ∃ y, goesI (c : Int) = y := ⟨_, rfl⟩
        rw [hy] at hat G
        clear hy
        rw [hat] at hl
        have Hl := Lib.hid hl
        clear hat hl hdl
        cases y with
        | true =>
          go_wp2_with (go_at_call 96; refine (G _).mono ?_; rintro e w' ⟨rfl, rfl⟩)
          go_roundw
          case rel => exact ⟨pos + 1, rfl, by omega, by rw [Hl.out]; simp; omega⟩
          case measure => (simp; omega)
        | false =>
          go_wp2_with (go_at_call 96; refine (G _).mono ?_; rintro e w' ⟨rfl, rfl⟩)
          go_ret
          refine ⟨by rw [Hl.out]; simp, (Below.refl _ _).alloc (Nat.le_refl _) _⟩
      · have hd := decode_high s pos hp (by omega)
        obtain ⟨⟨c, n⟩, hc⟩ : ∃ c, Utf8.decode s pos = c := ⟨_, rfl⟩
        rw [hc] at hd hnx
        obtain ⟨x, hx⟩ : ∃ x, (s[pos]'hp).toNat = x := ⟨_, rfl⟩
        have hat := lenL_at hsame hx
        rw [hx] at hlow
        clear hc hsame hx
        have G := goes_any (c : Int)
        have hy : goesI (c : Int) = false := by
          cases h : goesI (c : Int) with
          | false => rfl
          | true => have := goes_low h; simp at hd; omega
        have hyx : goesI (x : Int) = false := by
          cases h : goesI (x : Int) with
          | false => rfl
          | true => have := goes_low h; omega
        rw [hyx] at hat
        rw [hy] at G
        rw [hat] at hl
        have Hl := Lib.hid hl
        clear hat hl hdl hd hlow hy hyx
        go_wp2_with (go_at_call 96; refine (G _).mono ?_; rintro e w' ⟨rfl, rfl⟩)
        go_ret
        refine ⟨by rw [Hl.out]; simp, (Below.refl _ _).alloc (Nat.le_refl _) _⟩
    · have hnx : ∀ ty, (Instr.next (.pointer (some ⟨w.heap.size, 0, none⟩)) true ty).run Try.prog (w.iter s pos) = _ := fun ty => run_next_end w s pos ty hp
      obtain rfl : pos = s.size := by omega
      have h0 : lenL (s.data.toList.drop s.size) = 0 := by rw [List.drop_eq_nil_of_le (by omega)]; rfl
      rw [h0] at hl
      have Hl := Lib.hid hl
      clear hl h0
      go_wp2
      go_ret
      exact ⟨by rw [Hl.out]; rfl, (Below.refl _ _).alloc (Nat.le_refl _) _⟩
end Go.Proofs.Ytjmmbadpknlmcaa
