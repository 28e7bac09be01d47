/- PathLonger: it answers true. No conditions. -/
import Derived.Test.YtpejghinphnllaaLaw4
namespace Go.Proofs.Ytpejghinphnllaa
open Go.RowKit Go.Shelf
set_option linter.unusedVariables false
set_option linter.unusedSimpArgs false

theorem left_more {l n : List UInt8} (hr : rightB l = true) (hl : l.length + n.length + 1 ≤ 256) (hn : ∀ b ∈ n, b ≠ 0) (hs : ∀ b ∈ n, b ≠ 47) (hb : nameB n = true) :
    leftL (namesL (l ++ 47 :: n)) = stepL (leftL (namesL l)) n := by rw [names_more hr hl hn hs hb]; exact leftL_snoc _ _
theorem left_more_name {l n : List UInt8} (hr : rightB l = true) (hl : l.length + n.length + 1 ≤ 256) (hn : ∀ b ∈ n, b ≠ 0) (hs : ∀ b ∈ n, b ≠ 47) (hb : nameB n = true) (hd : n ≠ [46, 46]) :
    leftL (namesL (l ++ 47 :: n)) = leftL (namesL l) ++ [n] := by rw [left_more hr hl hn hs hb]; unfold stepL; rw [if_neg hd]
theorem left_more_up {l : List UInt8} (hr : rightB l = true) (hl : l.length + 3 ≤ 256) :
    leftL (namesL (l ++ 47 :: [46, 46])) = (leftL (namesL l)).take ((leftL (namesL l)).length - 1) := by
  rw [left_more hr (by simp; omega) (by decide) (by decide) (by decide)]; rfl
theorem up_more {l n : List UInt8} (hr : rightB l = true) (hl : l.length + n.length + 1 ≤ 256) (hn : ∀ b ∈ n, b ≠ 0) (hs : ∀ b ∈ n, b ≠ 47) (hb : nameB n = true) (hd : n ≠ [46, 46]) :
    upL (l ++ 47 :: n) = cleanL l := by
  unfold upL cleanL
  rw [left_more_name hr hl hn hs hb hd]
  simp
theorem clean_more_up {l n : List UInt8} (hr : rightB l = true) (hl : l.length + n.length + 4 ≤ 256) (hn : ∀ b ∈ n, b ≠ 0) (hs : ∀ b ∈ n, b ≠ 47) (hb : nameB n = true) (hd : n ≠ [46, 46]) :
    cleanL ((l ++ 47 :: n) ++ 47 :: [46, 46]) = cleanL l := by
  unfold cleanL
  rw [left_more_up (right_more hr (by omega) hn) (by simp; omega), left_more_name hr (by omega) hn hs hb hd]
  simp
theorem clean_up {l : List UInt8} (hr : rightB l = true) (hl : l.length + 3 ≤ 256) : cleanL (l ++ 47 :: [46, 46]) = upL l := by
  unfold cleanL upL
  rw [left_more_up hr hl]
theorem within_more {l n : List UInt8} (hr : rightB l = true) (hl : l.length + n.length + 1 ≤ 256) (hn : ∀ b ∈ n, b ≠ 0) (hs : ∀ b ∈ n, b ≠ 47) (hb : nameB n = true) (hd : n ≠ [46, 46]) :
    withinB (l ++ 47 :: n) l = true := by
  unfold withinB
  rw [right_more hr hl hn, hr, left_more_name hr hl hn hs hb hd, List.isPrefixOf_iff_prefix.2 (List.prefix_append _ _)]; rfl

set_option maxRecDepth 100000 in
set_option maxHeartbeats 1000000 in
theorem law_longer_early (s t : ByteArray) (h : (100 : Int) < (s.size : Int) ∨ (100 : Int) < (t.size : Int) ∨ t.size = 0 ∨ t.data.toList = [46] ∨ t.data.toList = [46, 46]) (w : World) : Calls Try.prog 8 #[.string s, .string t] w (Ret (.bool true) w) := by
  have A := awake_any
  have tn : t.toList = t.data.toList := ByteArray.toList_eq _
  by_cases h1 : (100 : Int) < (s.size : Int)
  · go_enter Try.func8, Try.ntmps8
    go_wp2_with (go_at_call 9; refine (A _).mono ?_; rintro e w1 ⟨rfl, hb1⟩)
    go_ret
    exact ⟨rfl, hb1⟩
  · have h1' : (s.size : Int) ≤ 100 := by omega
    by_cases h2 : (100 : Int) < (t.size : Int)
    · clear h h1
      go_enter Try.func8, Try.ntmps8
      go_wp2_with (go_at_call 9; refine (A _).mono ?_; rintro e w1 ⟨rfl, hb1⟩)
      go_ret
      exact ⟨rfl, hb1⟩
    · have h2' : (t.size : Int) ≤ 100 := by omega
      by_cases h3 : t.size = 0
      · have h3' : ((t.size : Int) == 0) = true := beq_iff_eq.2 (by omega)
        clear h h1 h2
        go_enter Try.func8, Try.ntmps8
        go_wp2_with (go_at_call 9; refine (A _).mono ?_; rintro e w1 ⟨rfl, hb1⟩)
        go_ret
        exact ⟨rfl, hb1⟩
      · have h3' : ((t.size : Int) == 0) = false := beq_eq_false_iff_ne.2 (by omega)
        by_cases h4 : t.data.toList = [46]
        · have h4' : (t.data.toList == [46]) = true := by simpa using h4
          clear h h1 h2 h3 h4
          go_enter Try.func8, Try.ntmps8
          go_wp2_with (go_at_call 9; refine (A _).mono ?_; rintro e w1 ⟨rfl, hb1⟩)
          go_ret
          exact ⟨rfl, hb1⟩
        · have h5 : t.data.toList = [46, 46] := by
            rcases h with h | h | h | h | h
            · omega
            · omega
            · omega
            · exact absurd h h4
            · exact h
          have h4' : (t.data.toList == [46]) = false := by simpa using h4
          have h5' : (t.data.toList == [46, 46]) = true := by simpa using h5
          clear h h1 h2 h3 h4 h5
          go_enter Try.func8, Try.ntmps8
          go_wp2_with (go_at_call 9; refine (A _).mono ?_; rintro e w1 ⟨rfl, hb1⟩)
          go_ret
          exact ⟨rfl, hb1⟩

def FreeRel (l : List UInt8) (i : Value) : Prop := ∃ k : Nat, k ≤ l.length ∧ i = .int .i64 k ∧ ∀ j, j < k → l[j]? ≠ some 47 ∧ l[j]? ≠ some 0
theorem free_all {l : List UInt8} {c : UInt8} (h : ∀ j, j < l.length → l[j]? ≠ some c) : ∀ b ∈ l, b ≠ c := by
  intro b hb hc
  subst hc
  obtain ⟨i, hi⟩ := List.getElem?_of_mem hb
  exact h i (List.getElem?_eq_some_iff.1 hi).1 hi

set_option maxRecDepth 100000 in
set_option maxHeartbeats 4000000 in
theorem law_longer_late (s t : ByteArray) (h1 : (s.size : Int) ≤ 100) (h2 : (t.size : Int) ≤ 100) (h3 : ¬ t.size = 0) (h4 : ¬ t.data.toList = [46]) (h5 : ¬ t.data.toList = [46, 46]) (w : World) : Calls Try.prog 8 #[.string s, .string t] w (Ret (.bool true) w) := by
  have A := awake_any
  have C := clean_any s
  have tn : t.toList = t.data.toList := ByteArray.toList_eq _
  have h3' : ((t.size : Int) == 0) = false := beq_eq_false_iff_ne.2 (by omega)
  have h4' : (t.data.toList == [46]) = false := by simpa using h4
  have h5' : (t.data.toList == [46, 46]) = false := by simpa using h5
  have hnb : nameB t.data.toList = true := by
    unfold nameB
    have : t.data.toList ≠ [] := fun h => h3 (by rw [size_data, h]; rfl)
    simp [this, h4]
  have Hnb := Lib.hid hnb
  have H5 := Lib.hid h5
  have Hls : Hid (s.data.toList.length = s.size) := Lib.hid (size_data s).symm
  have Hlt : Hid (t.data.toList.length = t.size) := Lib.hid (size_data t).symm
  clear h4 h5 hnb
  go_enter Try.func8, Try.ntmps8
  go_wp2_with (go_at_call 9; refine (A _).mono ?_; rintro e w1 ⟨rfl, hb1⟩)
  go_loop [6] (fun i => FreeRel t.data.toList i) (fun i => t.size - (intOf i).toNat)
  case atStart => exact ⟨0, Nat.zero_le _, rfl, fun j hj => by omega⟩
  case round =>
    obtain ⟨k, hk, rfl, hall⟩ := hrel
    rw [Hlt.out] at hk
    have Hall := Lib.hid hall
    clear hall
    by_cases hlt : k < t.size
    · by_cases ha : t[k] = 47
      · have hc : (((t[k]).toNat : Int) == 47) = true := by rw [ha]; rfl
        clear ha
        go_wp2
        go_ret
        exact ⟨rfl, hb1⟩
      · have hc : (((t[k]).toNat : Int) == 47) = false := by
          simp only [beq_eq_false_iff_ne]; intro h; exact ha ((byte_eq (n := 47) (by omega)).1 h)
        have Ha := Lib.hid ha
        clear ha
        by_cases hz : t[k] = 0
        · have hc0 : (((t[k]).toNat : Int) == 0) = true := by rw [hz]; rfl
          clear hz
          go_wp2
          go_ret
          exact ⟨rfl, hb1⟩
        · have hc0 : (((t[k]).toNat : Int) == 0) = false := by
            simp only [beq_eq_false_iff_ne]; intro h; exact hz ((byte_eq (n := 0) (by omega)).1 h)
          have Hz := Lib.hid hz
          clear hz
          go_wp2
          go_round
          case rel => exact ⟨k + 1, by rw [Hlt.out]; omega, by go_num, fun j hj => by
            by_cases hjk : j = k
            · subst hjk
              rw [get_data t j hlt]
              exact ⟨fun h => Ha.out (Option.some.inj h), fun h => Hz.out (Option.some.inj h)⟩
            · exact Hall.out j (by omega)⟩
          case measure => simp [intOf]; omega
    · obtain rfl : k = t.size := by omega
      have hs47 : ∀ b ∈ t.data.toList, b ≠ 47 := free_all (fun j hj => (Hall.out j (by rw [← Hlt.out]; exact hj)).1)
      have hs0 : ∀ b ∈ t.data.toList, b ≠ 0 := free_all (fun j hj => (Hall.out j (by rw [← Hlt.out]; exact hj)).2)
      unfold cleanV at C
      cases hr : rightB s.data.toList with
      | false =>
        rw [hr, if_neg (by decide)] at C
        clear hs47 hs0
        go_wp2_with (go_at_call 16; refine (C _).mono ?_; rintro e w2 ⟨rfl, hb2⟩)
        go_ret
        exact ⟨rfl, bchain hb1 hb1.size hb2⟩
      | true =>
        rw [hr, if_pos rfl] at C
        have hlen : s.data.toList.length + t.data.toList.length + 4 ≤ 256 := by rw [Hls.out, Hlt.out]; omega
        have hU := up_any (strL (s.data.toList ++ 47 :: t.data.toList))
        unfold upV at hU
        rw [strL_data, right_more hr (by omega) hs0, if_pos rfl, up_more hr (by omega) hs0 hs47 Hnb.out H5.out] at hU
        have hC2 := clean_any (strL ((s.data.toList ++ 47 :: t.data.toList) ++ 47 :: [46, 46]))
        unfold cleanV at hC2
        rw [strL_data, right_more (right_more hr (by omega) hs0) (by simp; omega) (by decide), if_pos rfl, clean_more_up hr hlen hs0 hs47 Hnb.out H5.out] at hC2
        have hV := up_any s
        unfold upV at hV
        rw [hr, if_pos rfl] at hV
        have hC3 := clean_any (strL (s.data.toList ++ 47 :: [46, 46]))
        unfold cleanV at hC3
        rw [strL_data, right_more hr (by simp; omega) (by decide), if_pos rfl, clean_up hr (by omega)] at hC3
        have hW := within_any (strL (s.data.toList ++ 47 :: t.data.toList)) s
        rw [strL_data, within_more hr (by omega) hs0 hs47 Hnb.out H5.out] at hW
        have e1 : s ++ (⟨#[47]⟩ : ByteArray) ++ t = strL (s.data.toList ++ 47 :: t.data.toList) := by
          have h1 := strL_append s.data.toList [47]
          have h2 := strL_append (s.data.toList ++ [47]) t.data.toList
          rw [strL_of] at h1 h2
          rw [show (⟨#[47]⟩ : ByteArray) = strL [47] from rfl, h1, h2]
          simp
        have e2 : strL (s.data.toList ++ 47 :: t.data.toList) ++ (⟨#[47, 46, 46]⟩ : ByteArray) = strL ((s.data.toList ++ 47 :: t.data.toList) ++ 47 :: [46, 46]) := strL_append _ [47, 46, 46]
        have e3 : s ++ (⟨#[47, 46, 46]⟩ : ByteArray) = strL (s.data.toList ++ 47 :: [46, 46]) := by
          have h1 := strL_append s.data.toList [47, 46, 46]
          rw [strL_of] at h1
          exact h1
        have z1 : (s ++ (⟨#[47]⟩ : ByteArray)).size ≤ 101 := by rw [ByteArray.size_append]; show s.size + 1 ≤ _; omega
        have z2 : (strL (s.data.toList ++ 47 :: t.data.toList)).size ≤ 201 := by rw [strL_size]; simp; omega
        obtain ⟨lg, hlg⟩ : ∃ x, strL (s.data.toList ++ 47 :: t.data.toList) = x := ⟨_, rfl⟩
        obtain ⟨l2, hl2⟩ : ∃ x, strL ((s.data.toList ++ 47 :: t.data.toList) ++ 47 :: [46, 46]) = x := ⟨_, rfl⟩
        obtain ⟨l3, hl3⟩ : ∃ x, strL (s.data.toList ++ 47 :: [46, 46]) = x := ⟨_, rfl⟩
        obtain ⟨cl, hcl⟩ : ∃ x, strL (cleanL s.data.toList) = x := ⟨_, rfl⟩
        obtain ⟨ul, hul⟩ : ∃ x, strL (upL s.data.toList) = x := ⟨_, rfl⟩
        rw [hcl] at C hU hC2
        rw [hul] at hV hC3
        rw [hlg] at hU hW e1 e2 z2
        rw [hl2] at hC2 e2
        rw [hl3] at hC3 e3
        clear hlg hl2 hl3 hcl hul hs47 hs0 hlen hr
        go_wp2_with (first
          | (go_at_call 16; first | ((with_reducible refine (C _).mono ?_); rintro e w2 ⟨rfl, hb2⟩) | ((with_reducible refine (hC2 _).mono ?_); rintro e w4 ⟨rfl, hb4⟩) | ((with_reducible refine (hC3 _).mono ?_); rintro e w6 ⟨rfl, hb6⟩))
          | (go_at_call 19; first | ((with_reducible refine (hU _).mono ?_); rintro e w3 ⟨rfl, hb3⟩) | ((with_reducible refine (hV _).mono ?_); rintro e w5 ⟨rfl, hb5⟩))
          | (go_at_call 14; (with_reducible refine (hW _).mono ?_); rintro e w7 ⟨rfl, hb7⟩))
        go_ret
        have k2 := bchain hb1 hb1.size hb2
        have k3 := bchain k2 k2.size hb3
        have k4 := bchain k3 k3.size hb4
        have k5 := bchain k4 k4.size hb5
        have k6 := bchain k5 k5.size hb6
        exact ⟨rfl, bchain k6 k6.size hb7⟩

theorem law_longer (s t : ByteArray) (w : World) : Calls Try.prog 8 #[.string s, .string t] w (Ret (.bool true) w) := by
  by_cases h : (100 : Int) < (s.size : Int) ∨ (100 : Int) < (t.size : Int) ∨ t.size = 0 ∨ t.data.toList = [46] ∨ t.data.toList = [46, 46]
  · exact law_longer_early s t h w
  · simp only [not_or] at h
    exact law_longer_late s t (by omega) (by omega) h.2.2.1 h.2.2.2.1 h.2.2.2.2 w
end Go.Proofs.Ytpejghinphnllaa
