/- GlobStars: it answers true. Conditions: the byte is one. -/
import Derived.Test.YtcmogmplfigikaaPlain3
import Derived.Laws.BytesArg
namespace Go.Proofs.Ytcmogmplfigikaa
open Go.RowKit
attribute [local go_sem ↓] Go.wp_at_zero Go.wp_at_succ
set_option linter.unusedVariables false
set_option linter.unusedSimpArgs false

set_option maxRecDepth 100000 in
set_option maxHeartbeats 2000000 in
theorem law_stars_early (s : ByteArray) (c : Int) (n : Int) (h : (300 : Int) < (s.size : Int) ∨ n < 1 ∨ 20 < n ∨ c = 42 ∨ c = 63) (w : World) : Calls Try.prog 7 #[.string s, .int .u8 c, .int .i64 n] w (Ret (.bool true) w) := by
  have A := awake_any
  by_cases h1 : (300 : Int) < (s.size : Int)
  · go_enter Try.func7, Try.ntmps7
    go_wp2_with (go_at_call 10; refine (A _).mono ?_; rintro e w1 ⟨rfl, hb1⟩)
    go_ret
    exact ⟨rfl, hb1⟩
  · have h1' : (s.size : Int) ≤ 300 := by omega
    by_cases h2 : n < 1
    · clear h h1
      go_enter Try.func7, Try.ntmps7
      go_wp2_with (go_at_call 10; refine (A _).mono ?_; rintro e w1 ⟨rfl, hb1⟩)
      go_ret
      exact ⟨rfl, hb1⟩
    · have h2' : 1 ≤ n := by omega
      by_cases h3 : 20 < n
      · clear h h1 h2
        go_enter Try.func7, Try.ntmps7
        go_wp2_with (go_at_call 10; refine (A _).mono ?_; rintro e w1 ⟨rfl, hb1⟩)
        go_ret
        exact ⟨rfl, hb1⟩
      · have h3' : n ≤ 20 := by omega
        by_cases h4 : c = 42
        · subst h4
          clear h h1 h2 h3
          go_enter Try.func7, Try.ntmps7
          go_wp2_with (go_at_call 10; refine (A _).mono ?_; rintro e w1 ⟨rfl, hb1⟩)
          go_ret
          exact ⟨rfl, hb1⟩
        · obtain rfl : c = 63 := by omega
          clear h h1 h2 h3 h4
          go_enter Try.func7, Try.ntmps7
          go_wp2_with (go_at_call 10; refine (A _).mono ?_; rintro e w1 ⟨rfl, hb1⟩)
          go_ret
          exact ⟨rfl, hb1⟩
def StarRel (n : Nat) (v i : Value) : Prop := ∃ k : Nat, k ≤ n ∧ i = .int .i64 k ∧ v = .string (strL (List.replicate k 42))
def HasRel (l : List UInt8) (c : UInt8) (v i : Value) : Prop := ∃ k : Nat, k ≤ l.length ∧ i = .int .i64 k ∧ v = .bool ((l.take k).contains c)
theorem contains_next {l : List UInt8} {c b : UInt8} {k : Nat} (h : l[k]? = some b) : (l.take (k + 1)).contains c = ((l.take k).contains c || (b == c)) := by
  rw [List.take_add_one, h, List.contains_eq_any_beq, List.contains_eq_any_beq, List.any_append]
  congr 1
  show ((c == b) || false) = (b == c)
  rw [Bool.or_false, Bool.eq_iff_iff]
  simp only [beq_iff_eq]
  exact eq_comm

set_option maxRecDepth 100000 in
set_option maxHeartbeats 8000000 in
theorem law_stars_late (s : ByteArray) (c : UInt8) (n : Nat) (h1 : (s.size : Int) ≤ 300) (h2 : 1 ≤ n) (h3 : n ≤ 20) (h4 : c ≠ 42) (h5 : c ≠ 63) (w : World) : Calls Try.prog 7 #[.string s, .int .u8 (c.toNat : Int), .int .i64 (n : Int)] w (Ret (.bool true) w) := by
  have A := awake_any
  have q42 : ((c.toNat : Int) == 42) = false := byte_ne (n := 42) (by omega) h4
  have q63 : ((c.toNat : Int) == 63) = false := byte_ne (n := 63) (by omega) h5
  have H4 := Lib.hid h4
  have H5 := Lib.hid h5
  have Hsl : Hid (s.data.toList.length = s.size) := Lib.hid (size_data s).symm
  have kc : ∀ W : World, (convert 28 9 (.slice (some ⟨W.heap.size, 0, none⟩) 1 1)).run Try.prog (W.alloc (.cells #[.int .u8 (c.toNat : Int)] 5)) = .ok (.string (strL [c])) (W.alloc (.cells #[.int .u8 (c.toNat : Int)] 5)) := fun W => by
    have h := run_convert_bytes_arg (P := Try.prog) (W.alloc (.cells #[.int .u8 (c.toNat : Int)] 5)) 28 5 Try.underlying28 Try.underlying5 W.heap.size 0 1 1 [(c.toNat : Int)] rfl (fun i hi => by
      obtain rfl : i = 0 := by omega
      exact (Boxed.new W 5 (.int .u8 (c.toNat : Int))).cell) 9 Try.underlying9
    rw [h]
    congr 2
    unfold strOfNums strL
    simp
  clear h4 h5
  go_enter Try.func7, Try.ntmps7
  go_wp2_with (go_at_call 10; refine (A _).mono ?_; rintro e w1 ⟨rfl, hb1⟩)
  go_loop [8, 9] (fun v i => StarRel n v i) (fun _ i => n - (intOf i).toNat)
  case atStart => exact ⟨0, Nat.zero_le _, rfl, rfl⟩
  case round =>
    obtain ⟨k, hk, rfl, rfl⟩ := hrel
    by_cases hlt : k < n
    · have hlt' : (k : Int) < (n : Int) := by omega
      have hcat : strL (List.replicate k 42) ++ (⟨#[42]⟩ : ByteArray) = strL (List.replicate (k + 1) 42) := by
        rw [show (⟨#[42]⟩ : ByteArray) = strL [42] from rfl, strL_append, List.replicate_succ']
      have z1 : (strL (List.replicate k (42 : UInt8))).size ≤ 20 := by rw [strL_size]; simp; omega
      obtain ⟨x, hx⟩ : ∃ x, strL (List.replicate k (42 : UInt8)) = x := ⟨_, rfl⟩
      rw [hx] at hcat z1 ⊢
      have Hcat := Lib.hid hcat
      clear hcat hx
      go_wp2
      go_round
      case rel => exact ⟨k + 1, by omega, by go_num, by rw [Hcat.out]⟩
      case measure => (simp [intOf] <;> omega)
    · obtain rfl : k = n := by omega
      obtain ⟨m, hm⟩ : ∃ m, k = m + 1 := ⟨k - 1, by omega⟩
      have N1 := name_any (strL (List.replicate k 42)) s (by rw [strL_size]; simp; omega) (by omega)
      have N2 := name_any (strL ((List.replicate k 42 ++ [c]) ++ List.replicate k 42)) s (by rw [strL_size]; simp; omega) (by omega)
      have N3 := name_any (strL (List.replicate k 42 ++ [c])) s (by rw [strL_size]; simp; omega) (by omega)
      have N4 := name_any (strL ([c] ++ List.replicate k 42)) s (by rw [strL_size]; simp; omega) (by omega)
      rw [strL_data, hm, stars_all] at N1
      rw [strL_data, hm, List.append_assoc, one_in H4.out H5.out] at N2
      rw [strL_data, hm, one_last H4.out H5.out] at N3
      rw [strL_data, hm, one_head H4.out H5.out] at N4
      rw [← List.append_assoc, ← hm] at N2
      rw [← hm] at N1 N3 N4
      have e1 : strL (List.replicate k 42) ++ strL [c] = strL (List.replicate k 42 ++ [c]) := strL_append _ _
      have e2 : strL (List.replicate k 42 ++ [c]) ++ strL (List.replicate k 42) = strL ((List.replicate k 42 ++ [c]) ++ List.replicate k 42) := strL_append _ _
      have e3 : strL [c] ++ strL (List.replicate k 42) = strL ([c] ++ List.replicate k 42) := strL_append _ _
      have z1 : (strL (List.replicate k (42 : UInt8))).size ≤ 20 := by rw [strL_size]; simp; omega
      have z2 : (strL (List.replicate k 42 ++ [c])).size ≤ 21 := by rw [strL_size]; simp; omega
      have z3 : (strL [c]).size ≤ 1 := by rw [strL_size]; simp
      obtain ⟨st, hst⟩ : ∃ x, strL (List.replicate k (42 : UInt8)) = x := ⟨_, rfl⟩
      obtain ⟨s2, hs2⟩ : ∃ x, strL ((List.replicate k 42 ++ [c]) ++ List.replicate k 42) = x := ⟨_, rfl⟩
      obtain ⟨s3, hs3⟩ : ∃ x, strL (List.replicate k 42 ++ [c]) = x := ⟨_, rfl⟩
      obtain ⟨s4, hs4⟩ : ∃ x, strL ([c] ++ List.replicate k 42) = x := ⟨_, rfl⟩
      obtain ⟨on, hon⟩ : ∃ x, strL [c] = x := ⟨_, rfl⟩
      rw [hst] at N1 e1 e2 e3 z1 ⊢
      rw [hs2] at N2 e2
      rw [hs3] at N3 e1 e2 z2
      rw [hs4] at N4 e3
      simp only [hon] at kc
      rw [hon] at e1 e3 z3
      clear hst hs2 hs3 hs4 hon hm
      go_wp2
      go_loop [11, 12] (fun v i => HasRel s.data.toList c v i) (fun _ i => s.size - (intOf i).toNat)
      case atStart => exact ⟨0, Nat.zero_le _, rfl, rfl⟩
      case round =>
        obtain ⟨j, hj, rfl, rfl⟩ := hrel
        rw [Hsl.out] at hj
        by_cases hjl : j < s.size
        · have Hn := Lib.hid (contains_next (c := c) (get_data s j hjl))
          have hjl' : (j : Int) < (s.size : Int) := by omega
          obtain ⟨x, hx⟩ : ∃ x, (s.data.toList.take j).contains c = x := ⟨_, rfl⟩
          obtain ⟨y, hy⟩ : ∃ y, (((s[j]).toNat : Int) == (c.toNat : Int)) = y := ⟨_, rfl⟩
          have Hy : Hid ((s[j] == c) = y) := Lib.hid (by rw [← byte_same]; exact hy)
          rw [hx] at Hn ⊢
          clear hx
          cases x with
          | true =>
            go_wp2
            go_round
            case rel => exact ⟨j + 1, by rw [Hsl.out]; omega, by go_num, by rw [Hn.out]; rfl⟩
            case measure => (simp [intOf] <;> omega)
          | false =>
            go_wp2
            go_round
            case rel => exact ⟨j + 1, by rw [Hsl.out]; omega, by go_num, by rw [Hn.out, Hy.out]; rfl⟩
            case measure => (simp [intOf] <;> omega)
        · obtain rfl : j = s.size := by omega
          rw [← Hsl.out, List.take_length]
          obtain ⟨hs, hhs⟩ : ∃ x, s.data.toList.contains c = x := ⟨_, rfl⟩
          rw [hhs] at N2 ⊢
          clear hhs
          rcases Nat.eq_zero_or_pos s.size with h0 | h0
          · have hnil : s.data.toList = [] := List.length_eq_zero_iff.1 (by rw [Hsl.out]; exact h0)
            rw [hnil] at N3 N4
            have q3 : (([] : List UInt8).getLast? == some c) = false := rfl
            have q4 : (([] : List UInt8).head? == some c) = false := rfl
            rw [q3] at N3
            rw [q4] at N4
            rw [Hsl.out]
            have hz : (s.size : Int) ≤ 0 := by omega
            clear hnil q3 q4 h0
            go_wp2_with (go_at_call 11; first | ((with_reducible refine (N1 _).mono ?_); rintro e w2 ⟨rfl, m1, rfl⟩) | ((with_reducible refine (N2 _).mono ?_); rintro e w3 ⟨rfl, m2, rfl⟩) | ((with_reducible refine (N3 _).mono ?_); rintro e w4 ⟨rfl, m3, rfl⟩) | ((with_reducible refine (N4 _).mono ?_); rintro e w5 ⟨rfl, m4, rfl⟩))
            go_ret
            exact ⟨rfl, below_drewN (hb1.alloc hb1.size _) _⟩
          · obtain ⟨m', hm'⟩ : ∃ m', s.size = m' + 1 := ⟨s.size - 1, by omega⟩
            have hml : m' < s.size := by omega
            have g3 : (s.data.toList.getLast? == some c) = (((s[m']).toNat : Int) == (c.toNat : Int)) := by
              rw [byte_same, List.getLast?_eq_getElem?, Hsl.out, show s.size - 1 = m' by omega, get_data s m' hml]; rfl
            have g4 : (s.data.toList.head? == some c) = (((s[0]).toNat : Int) == (c.toNat : Int)) := by
              rw [byte_same, List.head?_eq_getElem?, get_data s 0 h0]; rfl
            rw [g3] at N3
            rw [g4] at N4
            have hidx : ((s.size : Int) - 1) = (m' : Int) := by omega
            have hpos : (0 : Int) < (s.size : Int) := by omega
            have hml' : (m' : Int) < (s.size : Int) := by omega
            obtain ⟨y3, hy3⟩ : ∃ y, (((s[m']).toNat : Int) == (c.toNat : Int)) = y := ⟨_, rfl⟩
            obtain ⟨y4, hy4⟩ : ∃ y, (((s[0]).toNat : Int) == (c.toNat : Int)) = y := ⟨_, rfl⟩
            rw [hy3] at N3
            rw [hy4] at N4
            rw [Hsl.out]
            clear g3 g4 hm'
            go_wp2_with (go_at_call 11; first | ((with_reducible refine (N1 _).mono ?_); rintro e w2 ⟨rfl, m1, rfl⟩) | ((with_reducible refine (N2 _).mono ?_); rintro e w3 ⟨rfl, m2, rfl⟩) | ((with_reducible refine (N3 _).mono ?_); rintro e w4 ⟨rfl, m3, rfl⟩) | ((with_reducible refine (N4 _).mono ?_); rintro e w5 ⟨rfl, m4, rfl⟩))
            go_ret
            exact ⟨rfl, below_drewN (hb1.alloc hb1.size _) _⟩

theorem law_stars (s : ByteArray) (c : Int) (n : Int) (hwf : (Lit.int IntKind.u8 c).wf = true) (w : World) : Calls Try.prog 7 #[.string s, .int .u8 c, .int .i64 n] w (Ret (.bool true) w) := by
  by_cases h : (300 : Int) < (s.size : Int) ∨ n < 1 ∨ 20 < n ∨ c = 42 ∨ c = 63
  · exact law_stars_early s c n h w
  · have h0 : 0 ≤ c ∧ c ≤ 255 := by
      simp only [Lit.wf, Bool.and_eq_true, decide_eq_true_eq] at hwf
      exact hwf
    obtain ⟨k, rfl⟩ : ∃ k : Nat, n = k := ⟨n.toNat, by omega⟩
    obtain ⟨d, hd⟩ : ∃ d : UInt8, (d.toNat : Int) = c := ⟨UInt8.ofNat c.toNat, by
      have : (UInt8.ofNat c.toNat).toNat = c.toNat % 256 := UInt8.toNat_ofNat'
      rw [this]; omega⟩
    subst hd
    simp only [not_or] at h
    refine law_stars_late s d k (by omega) (by omega) (by omega) (fun e => h.2.2.2.1 (by rw [e]; rfl)) (fun e => h.2.2.2.2 (by rw [e]; rfl)) w
end Go.Proofs.Ytcmogmplfigikaa
