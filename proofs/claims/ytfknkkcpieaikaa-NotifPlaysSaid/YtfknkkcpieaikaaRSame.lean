/- Same of the document's answer for layer 19. Conditions: both lists can be read. -/
import Derived.Test.YtfknkkcpieaikaaR2
import Derived.BigQuiet
namespace Go.Proofs.Ytfknkkcpieaikaa
open Go.RowKit
set_option linter.unusedVariables false
set_option linter.unusedSimpArgs false

theorem take_same {xs ys : List Int} {j : Nat} {x : Int} (h : xs.take j = ys.take j) (hx : xs[j]? = some x) (hy : ys[j]? = some x) : xs.take (j + 1) = ys.take (j + 1) := by
  rw [List.take_add_one, List.take_add_one, h, hx, hy]
set_option maxRecDepth 100000 in
theorem rsame_any (A B : Option Addr) (c d : Nat) (xs ys : List Int) (w : World) (hX : NumsAt w (.slice A xs.length c) xs) (hY : NumsAt w (.slice B ys.length d) ys) (hxl : xs.length ≤ 1000000) :
    Calls Try.prog 33 #[.slice A xs.length c, .slice B ys.length d] w (Ret (.bool (decide (xs = ys))) w) := by
  obtain ⟨n, hn⟩ : ∃ n, xs.length = n := ⟨_, rfl⟩
  obtain ⟨m, hm⟩ : ∃ m, ys.length = m := ⟨_, rfl⟩
  rw [hn] at hX hxl ⊢
  rw [hm] at hY ⊢
  have HX := Lib.hid hX
  have HY := Lib.hid hY
  have Hn := Lib.hid hn
  have Hm := Lib.hid hm
  clear hX hY hn hm
  by_cases hl : n = m
  · subst hl
    have hE : ((n : Int) == (n : Int)) = true := by simp
    go_enter Try.func33, Try.ntmps33
    go_wp2
    go_loopw [5] (fun iv wr => ∃ j : Nat, j ≤ n ∧ iv = .int .i64 j ∧ xs.take j = ys.take j ∧ Below w.heap.size w wr) (fun iv _ => n - (intOf iv).toNat)
    case atStart => exact ⟨0, Nat.zero_le _, rfl, rfl, Below.refl _ _⟩
    case round =>
      obtain ⟨j, hj, rfl, ht, hb⟩ := hrel
      have HT := Lib.hid ht
      have HB := Lib.hid hb
      by_cases hlt : j < n
      · have hlt' : (j : Int) < n := by omega
        obtain ⟨g, o, rfl, hc⟩ := HX.out.at' (by omega)
        obtain ⟨g2, o2, rfl, hc2⟩ := HY.out.at' (by omega)
        obtain ⟨x, hx⟩ : ∃ x, xs[j]? = some x := ⟨_, List.getElem?_eq_getElem (by rw [Hn.out]; exact hlt)⟩
        obtain ⟨y, hy⟩ : ∃ y, ys[j]? = some y := ⟨_, List.getElem?_eq_getElem (by rw [Hm.out]; exact hlt)⟩
        have c1 := keep_cell hb (hc j x hx)
        have c2 := keep_cell hb (hc2 j y hy)
        have Hx := Lib.hid hx
        have Hy := Lib.hid hy
        clear hc hc2 hx hy hb ht
        by_cases hxy : x = y
        · subst hxy
          have hE2 : (x == x) = true := by simp
          go_wp2
          go_quiet (fail)
          go_wp2
          go_roundw
          case rel => exact ⟨j + 1, by omega, by go_num, take_same HT.out Hx.out Hy.out, below_drewN HB.out _⟩
          case measure => (simp [intOf] <;> omega)
        · have hE2 : (x == y) = false := by simpa using hxy
          have hd : decide (xs = ys) = false := decide_eq_false (fun e => hxy (by have h1 := Hx.out; rw [e, Hy.out] at h1; cases h1; rfl))
          rw [hd]
          clear hxy hd
          go_wp2
          go_quiet (fail)
          go_wp2
          go_ret
          exact ⟨rfl, below_drewN HB.out _⟩
      · obtain rfl : j = n := by omega
        have hd : decide (xs = ys) = true := decide_eq_true (by
          have := HT.out
          rwa [List.take_of_length_le (by rw [Hn.out]; exact Nat.le_refl _), List.take_of_length_le (by rw [Hm.out]; exact Nat.le_refl _)] at this)
        have HD := Lib.hid hd
        clear hd hb ht
        go_wp2
        go_ret
        exact ⟨by rw [HD.out]; rfl, HB.out⟩
  · have hE : ((n : Int) == (m : Int)) = false := by simp; omega
    have hE2 : (n == m) = false := by simpa using hl
    have hd : decide (xs = ys) = false := decide_eq_false (fun e => hl (by rw [← Hn.out, ← Hm.out, e]))
    rw [hd]
    clear hl hd
    go_enter Try.func33, Try.ntmps33
    go_wp2
    go_ret
    exact ⟨rfl, Below.refl _ _⟩
end Go.Proofs.Ytfknkkcpieaikaa
