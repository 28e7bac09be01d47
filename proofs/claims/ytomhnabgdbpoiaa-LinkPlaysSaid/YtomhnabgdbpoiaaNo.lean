/- Drop, Twice, Spoil where there is no such frame or no room; Clear. Conditions: the link lies at its block. -/
import Derived.Test.YtomhnabgdbpoiaaChecked
import Derived.Test.YtomhnabgdbpoiaaTwice
import Derived.Test.YtomhnabgdbpoiaaSpoil
import Derived.WalkLawsBesides
import Derived.WalkSmall
import Derived.Deep.RegionHeld3
import Derived.Deep.RegionLaw
import Derived.Deep.DrawnRows
import Derived.Deep.QuietTactic
import Derived.BigQuiet
import Derived.Lib.Hide
namespace Go.Proofs.Ytomhnabgdbpoiaa
open Go.RowKit
attribute [local go_sem ↓] Go.wp_at_zero Go.wp_at_succ
set_option linter.unusedVariables false
set_option linter.unusedSimpArgs false

theorem LinkAt.goes {w w' : World} {g : Nat} {s : St} {F : Nat → Prop} (h : LinkAt w g s F) (hU : Upto (fun _ => False) w w') : LinkPost w g F Nought s w' :=
  ⟨F, h.keep hU (fun _ _ h => h), hU.mono (fun _ h => h.elim), fun _ hk => .inl ⟨hk, fun h => h⟩⟩

set_option maxRecDepth 100000 in
theorem drop_no (g : Nat) (st : St) (F : Nat → Prop) (w : World) (hL : LinkAt w g st F) (j : Int) (jr : j < 9223372036854775808) (hj : j < 0 ∨ ((st true).length : Int) + (st false).length ≤ j) :
    Calls Try.prog 13 #[.pointer (some ⟨g, 0, none⟩), .int .i64 j] w (Turns (.bool false) w g F st) := by
  have HL := Lib.hid hL
  obtain ⟨v, us, gs, hP⟩ := hL
  obtain ⟨Au, cu, hvu⟩ := owns_form (hP.owns true)
  obtain ⟨Ad, cd, hvd⟩ := owns_form (hP.owns false)
  have hg := hP.blk
  rw [hvu, hvd] at hg
  have hlu := hP.len true
  have hld := hP.len false
  have hfu := hP.few true
  have hfd := hP.few false
  rw [hlu, hld] at hg
  obtain ⟨nu, hnu⟩ : ∃ n, (st true).length = n := ⟨_, rfl⟩
  obtain ⟨nd, hnd⟩ : ∃ n, (st false).length = n := ⟨_, rfl⟩
  rw [hnu, hnd] at hg
  rw [hnu] at hfu
  rw [hnd] at hfd
  have c0 : w.cell? ⟨g, 0, none⟩ = some (.slice Au nu cu) := cell_of_row w g 0 _ _ _ hg
  have c1 : w.cell? ⟨g, 1, none⟩ = some (.slice Ad nd cd) := cell_of_row w g 1 _ _ _ hg
  have lg : g < w.heap.size := lt_of_block hg
  rw [hnu, hnd] at hj
  have t1 := ta_dd
  clear hP hnu hnd hg hvu hvd hlu hld
  rcases hj with hj | hj
  · have hj2 : ¬ (nu : Int) ≤ j := by omega
    go_enter Try.func13, Try.ntmps13
    go_wp2_with (first | go_in)
    go_ret
    exact ⟨rfl, HL.out.stays⟩
  · have hj2 : (nu : Int) ≤ j := by omega
    have hj3 : 0 ≤ j - nu := by omega
    have hj4 : (nd : Int) ≤ j - nu := by omega
    go_enter Try.func13, Try.ntmps13
    go_wp2_with (first | go_in)
    go_ret
    exact ⟨rfl, HL.out.stays⟩

set_option maxRecDepth 100000 in
theorem twice_no (g : Nat) (st : St) (F : Nat → Prop) (w : World) (hL : LinkAt w g st F) (j : Int) (jr : j < 9223372036854775808) (hj : j < 0 ∨ ((st true).length : Int) + (st false).length ≤ j) :
    Calls Try.prog 14 #[.pointer (some ⟨g, 0, none⟩), .int .i64 j] w (Turns (.bool false) w g F st) := by
  have HL := Lib.hid hL
  obtain ⟨v, us, gs, hP⟩ := hL
  obtain ⟨Au, cu, hvu⟩ := owns_form (hP.owns true)
  obtain ⟨Ad, cd, hvd⟩ := owns_form (hP.owns false)
  have hg := hP.blk
  rw [hvu, hvd] at hg
  have hlu := hP.len true
  have hld := hP.len false
  have hfu := hP.few true
  have hfd := hP.few false
  rw [hlu, hld] at hg
  obtain ⟨nu, hnu⟩ : ∃ n, (st true).length = n := ⟨_, rfl⟩
  obtain ⟨nd, hnd⟩ : ∃ n, (st false).length = n := ⟨_, rfl⟩
  rw [hnu, hnd] at hg
  rw [hnu] at hfu
  rw [hnd] at hfd
  have c0 : w.cell? ⟨g, 0, none⟩ = some (.slice Au nu cu) := cell_of_row w g 0 _ _ _ hg
  have c1 : w.cell? ⟨g, 1, none⟩ = some (.slice Ad nd cd) := cell_of_row w g 1 _ _ _ hg
  have lg : g < w.heap.size := lt_of_block hg
  rw [hnu, hnd] at hj
  have t1 := ta_td
  have t2 := ta_tt
  clear hP hnu hnd hg hvu hvd hlu hld
  rcases hj with hj | hj
  · have hj2 : ¬ (nu : Int) ≤ j := by omega
    go_enter Try.func14, Try.ntmps14
    go_wp2_with (first | go_in)
    go_ret
    exact ⟨rfl, HL.out.stays⟩
  · have hj2 : (nu : Int) ≤ j := by omega
    have hj3 : 0 ≤ j - nu := by omega
    have hj4 : (nd : Int) ≤ j - nu := by omega
    go_enter Try.func14, Try.ntmps14
    go_wp2_with (first | go_in)
    go_ret
    exact ⟨rfl, HL.out.stays⟩

set_option maxRecDepth 100000 in
theorem spoil_no (g : Nat) (st : St) (F : Nat → Prop) (w : World) (hL : LinkAt w g st F) (j : Int) (bit : Int) (jr : j < 9223372036854775808) (hj : j < 0 ∨ ((st true).length : Int) + (st false).length ≤ j) :
    Calls Try.prog 15 #[.pointer (some ⟨g, 0, none⟩), .int .i64 j, .int .i64 bit] w (Turns (.bool false) w g F st) := by
  have HL := Lib.hid hL
  obtain ⟨v, us, gs, hP⟩ := hL
  obtain ⟨Au, cu, hvu⟩ := owns_form (hP.owns true)
  obtain ⟨Ad, cd, hvd⟩ := owns_form (hP.owns false)
  have hg := hP.blk
  rw [hvu, hvd] at hg
  have hlu := hP.len true
  have hld := hP.len false
  have hfu := hP.few true
  have hfd := hP.few false
  rw [hlu, hld] at hg
  obtain ⟨nu, hnu⟩ : ∃ n, (st true).length = n := ⟨_, rfl⟩
  obtain ⟨nd, hnd⟩ : ∃ n, (st false).length = n := ⟨_, rfl⟩
  rw [hnu, hnd] at hg
  rw [hnu] at hfu
  rw [hnd] at hfd
  have c0 : w.cell? ⟨g, 0, none⟩ = some (.slice Au nu cu) := cell_of_row w g 0 _ _ _ hg
  have c1 : w.cell? ⟨g, 1, none⟩ = some (.slice Ad nd cd) := cell_of_row w g 1 _ _ _ hg
  have lg : g < w.heap.size := lt_of_block hg
  rw [hnu, hnd] at hj
  have t1 := ta_sd
  have t2 := ta_st
  have t3 := ta_ss
  clear hP hnu hnd hg hvu hvd hlu hld
  rcases hj with hj | hj
  · have hj2 : ¬ (nu : Int) ≤ j := by omega
    go_enter Try.func15, Try.ntmps15
    go_wp2_with (first | go_in)
    go_ret
    exact ⟨rfl, HL.out.stays⟩
  · have hj2 : (nu : Int) ≤ j := by omega
    have hj3 : 0 ≤ j - nu := by omega
    have hj4 : (nd : Int) ≤ j - nu := by omega
    go_enter Try.func15, Try.ntmps15
    go_wp2_with (first | go_in)
    go_ret
    exact ⟨rfl, HL.out.stays⟩

set_option maxRecDepth 100000 in
theorem twice_full_true (g : Nat) (st : St) (F : Nat → Prop) (w : World) (hL : LinkAt w g st F) (k : Nat) (hk : k < (st true).length) (hfull : 64 ≤ (st true).length) (j : Int) (hj : j = k) :
    Calls Try.prog 14 #[.pointer (some ⟨g, 0, none⟩), .int .i64 j] w (Turns (.bool false) w g F st) := by
  have HL := Lib.hid hL
  obtain ⟨v, us, gs, hP⟩ := hL
  obtain ⟨Au, cu, hvu⟩ := owns_form (hP.owns true)
  obtain ⟨Ad, cd, hvd⟩ := owns_form (hP.owns false)
  have hg := hP.blk
  rw [hvu, hvd] at hg
  have hlu := hP.len true
  have hld := hP.len false
  have hfu := hP.few true
  have hfd := hP.few false
  rw [hlu, hld] at hg
  obtain ⟨nu, hnu⟩ : ∃ n, (st true).length = n := ⟨_, rfl⟩
  obtain ⟨nd, hnd⟩ : ∃ n, (st false).length = n := ⟨_, rfl⟩
  rw [hnu, hnd] at hg
  rw [hnu] at hfu
  rw [hnd] at hfd
  have c0 : w.cell? ⟨g, 0, none⟩ = some (.slice Au nu cu) := cell_of_row w g 0 _ _ _ hg
  have c1 : w.cell? ⟨g, 1, none⟩ = some (.slice Ad nd cd) := cell_of_row w g 1 _ _ _ hg
  have lg : g < w.heap.size := lt_of_block hg
  
  rw [hnu] at hk hfull
  have t1 := ta_td
  have t2 := ta_tt
  clear hP hnu hnd hg hvu hvd hlu hld
  have hj1 : ¬ j < 0 := by omega
  have hj2 : ¬ (nu : Int) ≤ j := by omega
  have hj3 : ¬ j - nu < 0 ∨ True := .inr trivial
  have hj4 : True := by trivial
  have hl : (64 : Int) ≤ (nu : Int) := by omega
  clear hj
  go_enter Try.func14, Try.ntmps14
  go_wp2_with (first | go_in)
  go_ret
  exact ⟨rfl, HL.out.goes ((Upto.refl _ _).alloc _)⟩

set_option maxRecDepth 100000 in
theorem twice_full_false (g : Nat) (st : St) (F : Nat → Prop) (w : World) (hL : LinkAt w g st F) (k : Nat) (hk : k < (st false).length) (hfull : 64 ≤ (st false).length) (j : Int) (hj : j = (st true).length + k) :
    Calls Try.prog 14 #[.pointer (some ⟨g, 0, none⟩), .int .i64 j] w (Turns (.bool false) w g F st) := by
  have HL := Lib.hid hL
  obtain ⟨v, us, gs, hP⟩ := hL
  obtain ⟨Au, cu, hvu⟩ := owns_form (hP.owns true)
  obtain ⟨Ad, cd, hvd⟩ := owns_form (hP.owns false)
  have hg := hP.blk
  rw [hvu, hvd] at hg
  have hlu := hP.len true
  have hld := hP.len false
  have hfu := hP.few true
  have hfd := hP.few false
  rw [hlu, hld] at hg
  obtain ⟨nu, hnu⟩ : ∃ n, (st true).length = n := ⟨_, rfl⟩
  obtain ⟨nd, hnd⟩ : ∃ n, (st false).length = n := ⟨_, rfl⟩
  rw [hnu, hnd] at hg
  rw [hnu] at hfu
  rw [hnd] at hfd
  have c0 : w.cell? ⟨g, 0, none⟩ = some (.slice Au nu cu) := cell_of_row w g 0 _ _ _ hg
  have c1 : w.cell? ⟨g, 1, none⟩ = some (.slice Ad nd cd) := cell_of_row w g 1 _ _ _ hg
  have lg : g < w.heap.size := lt_of_block hg
  rw [hnu] at hj
  rw [hnd] at hk hfull
  have t1 := ta_td
  have t2 := ta_tt
  clear hP hnu hnd hg hvu hvd hlu hld
  have hj1 : ¬ j < 0 := by omega
  have hj2 : (nu : Int) ≤ j := by omega
  have hj3 : ¬ j - nu < 0 := by omega
  have hj4 : ¬ (nd : Int) ≤ j - nu := by omega
  have hl : (64 : Int) ≤ (nd : Int) := by omega
  clear hj
  go_enter Try.func14, Try.ntmps14
  go_wp2_with (first | go_in)
  go_ret
  exact ⟨rfl, HL.out.goes ((Upto.refl _ _).alloc _)⟩

set_option maxRecDepth 100000 in
theorem clear_any (g : Nat) (st : St) (F : Nat → Prop) (w : World) (hL : LinkAt w g st F) :
    Calls Try.prog 16 #[.pointer (some ⟨g, 0, none⟩)] w (Turns (.tuple #[]) w g F (fun _ => [])) := by
  obtain ⟨v, us, gs, hP⟩ := hL
  have hg := hP.blk
  have hs := hP.self
  have lg : g < w.heap.size := lt_of_block hg
  have c0 : w.cell? ⟨g, 0, none⟩ = some (v true) := cell_of_row w g 0 _ _ _ hg
  have c1 : w.cell? ⟨g, 1, none⟩ = some (v false) := cell_of_row w g 1 _ _ _ hg
  have f0 : w.frozen? ⟨g, 0, none⟩ = false := frozen_of_row hg
  have f1 : w.frozen? ⟨g, 1, none⟩ = false := frozen_of_row hg
  have Hg := Lib.hid hg
  clear hP hg
  go_enter Try.func16, Try.ntmps16
  go_wp2
  go_end0
  refine ⟨rfl, F, ⟨fun _ => .slice none 0 0, fun _ => [], fun _ => [], ?_, fun b => ⟨rfl, .inl ⟨rfl, rfl⟩⟩, fun b => trivial, fun b => List.nodup_nil, fun b => Nat.zero_le _, fun b k hk => by simp [Value.ownBlock] at hk, fun b k hk => by simp at hk, fun b k hk => by simp [Value.ownBlock] at hk, fun b k hk => by simp at hk, hs⟩, ?_, fun k hk => .inl ⟨hk, fun h => h⟩⟩
  · rw [cells_set (cells_set Hg.out _)]
    rfl
  · exact ((Upto.refl _ _).setCell (p := ⟨g, 0, none⟩) (.inl hs) _).setCell (p := ⟨g, 1, none⟩) (.inl hs) _
end Go.Proofs.Ytomhnabgdbpoiaa
