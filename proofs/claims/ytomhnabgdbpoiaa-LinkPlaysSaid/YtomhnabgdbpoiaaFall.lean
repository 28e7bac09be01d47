/- Drop, Twice, Spoil, Clear: what they do to the rows. Conditions: the link lies at its block. -/
import Derived.Test.YtomhnabgdbpoiaaChecked
import Derived.Test.YtomhnabgdbpoiaaTake
import Derived.WalkLawsBesides
import Derived.WalkSmall
import Derived.Deep.RegionHeld3
import Derived.Deep.RegionLaw
import Derived.Deep.DrawnRows
import Derived.Deep.QuietTactic
import Derived.BigQuiet
import Derived.Lib.Hide
namespace Go.Proofs.Ytomhnabgdbpoiaa
open Go.RowKit
attribute [local go_sem ↓] Go.wp_at_zero Go.wp_at_succ
set_option linter.unusedVariables false
set_option linter.unusedSimpArgs false

theorem ta_dd (w : World) : (Instr.typeAssert (.iface 54 (.agg #[])) 20 54 true).run Try.prog w = .ok (.tuple #[.agg #[], .bool true]) w := by kernel_rfl
theorem ta_td (w : World) : (Instr.typeAssert (.iface 55 (.agg #[])) 20 54 true).run Try.prog w = .ok (.tuple #[.agg #[], .bool false]) w := by kernel_rfl
theorem ta_tt (w : World) : (Instr.typeAssert (.iface 55 (.agg #[])) 20 55 true).run Try.prog w = .ok (.tuple #[.agg #[], .bool true]) w := by kernel_rfl
theorem ta_sd (b : Int) (w : World) : (Instr.typeAssert (.iface 57 (.agg #[.int .i64 b])) 20 54 true).run Try.prog w = .ok (.tuple #[.agg #[], .bool false]) w := by kernel_rfl
theorem ta_st (b : Int) (w : World) : (Instr.typeAssert (.iface 57 (.agg #[.int .i64 b])) 20 55 true).run Try.prog w = .ok (.tuple #[.agg #[], .bool false]) w := by kernel_rfl
theorem ta_ss (b : Int) (w : World) : (Instr.typeAssert (.iface 57 (.agg #[.int .i64 b])) 20 57 true).run Try.prog w = .ok (.tuple #[.agg #[.int .i64 b], .bool true]) w := by kernel_rfl

set_option maxRecDepth 100000 in
theorem drop_true (g : Nat) (st : St) (F : Nat → Prop) (v : Bool → Value) (us : Bool → List Value) (gs : Bool → List Nat) (w : World) (hP : Parts w g st F v us gs) (k : Nat) (hk : k < (st true).length) (j : Int) (hj : j = k) :
    Calls Try.prog 13 #[.pointer (some ⟨g, 0, none⟩), .int .i64 j] w (Turns (.bool true) w g F (upd st true ((st true).take k ++ (st true).drop (k + 1)))) := by
  have U1 : Upto (fun _ => False) w (w.alloc (.cells #[] 54)) := (Upto.refl _ w).alloc _
  have HC := Lib.hid (cut_true g st F v us gs (w.alloc (.cells #[] 54)) (hP.keep U1 (fun _ _ h => h)) k hk)
  replace U1 := Lib.hid U1
  obtain ⟨Au, cu, hvu⟩ := owns_form (hP.owns true)
  obtain ⟨Ad, cd, hvd⟩ := owns_form (hP.owns false)
  have hg := hP.blk
  rw [hvu, hvd] at hg
  have hlu := hP.len true
  have hld := hP.len false
  have hfu := hP.few true
  have hfd := hP.few false
  rw [hlu, hld] at hg
  obtain ⟨nu, hnu⟩ : ∃ n, (st true).length = n := ⟨_, rfl⟩
  obtain ⟨nd, hnd⟩ : ∃ n, (st false).length = n := ⟨_, rfl⟩
  rw [hnu, hnd] at hg
  rw [hnu] at hfu
  rw [hnd] at hfd
  have c0 : w.cell? ⟨g, 0, none⟩ = some (.slice Au nu cu) := cell_of_row w g 0 _ _ _ hg
  have c1 : w.cell? ⟨g, 1, none⟩ = some (.slice Ad nd cd) := cell_of_row w g 1 _ _ _ hg
  have HP := Lib.hid hP
  have t1 := ta_dd
  rw [hnu] at hk
  
  have hj1 : 0 ≤ j := by omega
  have hj2 : j < nu := by omega
  have hj3 : 0 ≤ j := by omega
  have hj4 : 0 ≤ j := by omega
  subst hj
  clear hP hnu hnd hg hvu hvd hlu hld
  go_enter Try.func13, Try.ntmps13
  go_wp2_with (first | (go_at_call 20; refine HC.out.mono ?_; rintro e w1 ⟨rfl, gb', hgb', hLP, hU⟩; have HL := Lib.hid hLP; have HU := Lib.hid hU; have Hgb' := Lib.hid hgb'; clear hLP hU hgb') | go_in)
  go_ret
  exact ⟨rfl, (HL.out.from_ U1.out).weaken⟩

set_option maxRecDepth 100000 in
theorem drop_false (g : Nat) (st : St) (F : Nat → Prop) (v : Bool → Value) (us : Bool → List Value) (gs : Bool → List Nat) (w : World) (hP : Parts w g st F v us gs) (k : Nat) (hk : k < (st false).length) (j : Int) (hj : j = (st true).length + k) :
    Calls Try.prog 13 #[.pointer (some ⟨g, 0, none⟩), .int .i64 j] w (Turns (.bool true) w g F (upd st false ((st false).take k ++ (st false).drop (k + 1)))) := by
  have U1 : Upto (fun _ => False) w (w.alloc (.cells #[] 54)) := (Upto.refl _ w).alloc _
  have HC := Lib.hid (cut_false g st F v us gs (w.alloc (.cells #[] 54)) (hP.keep U1 (fun _ _ h => h)) k hk)
  replace U1 := Lib.hid U1
  obtain ⟨Au, cu, hvu⟩ := owns_form (hP.owns true)
  obtain ⟨Ad, cd, hvd⟩ := owns_form (hP.owns false)
  have hg := hP.blk
  rw [hvu, hvd] at hg
  have hlu := hP.len true
  have hld := hP.len false
  have hfu := hP.few true
  have hfd := hP.few false
  rw [hlu, hld] at hg
  obtain ⟨nu, hnu⟩ : ∃ n, (st true).length = n := ⟨_, rfl⟩
  obtain ⟨nd, hnd⟩ : ∃ n, (st false).length = n := ⟨_, rfl⟩
  rw [hnu, hnd] at hg
  rw [hnu] at hfu
  rw [hnd] at hfd
  have c0 : w.cell? ⟨g, 0, none⟩ = some (.slice Au nu cu) := cell_of_row w g 0 _ _ _ hg
  have c1 : w.cell? ⟨g, 1, none⟩ = some (.slice Ad nd cd) := cell_of_row w g 1 _ _ _ hg
  have HP := Lib.hid hP
  have t1 := ta_dd
  rw [hnd] at hk
  rw [hnu] at hj
  have hj1 : 0 ≤ j := by omega
  have hj2 : (nu : Int) ≤ j := by omega
  have hj3 : j - nu < nd := by omega
  have hj4 : 0 ≤ j - nu := by omega
  have Hj : Hid (j - (nu : Int) = (k : Int)) := by show _ = _; omega
  clear hP hnu hnd hg hvu hvd hlu hld hj
  go_enter Try.func13, Try.ntmps13
  go_wp2_with (first | (go_at_call 20; rw [Hj.out]; refine HC.out.mono ?_; rintro e w1 ⟨rfl, gb', hgb', hLP, hU⟩; have HL := Lib.hid hLP; have HU := Lib.hid hU; have Hgb' := Lib.hid hgb'; clear hLP hU hgb') | go_in)
  go_ret
  exact ⟨rfl, (HL.out.from_ U1.out).weaken⟩

theorem frm_form {w : World} {v : Value} {gb : Nat} {bs : List Int} (h : Frm w v gb bs) : ∃ c, v = .slice (some ⟨gb, 0, none⟩) bs.length c ∧ gb < w.heap.size := by
  obtain ⟨cs, hc⟩ := own_block_type h.1 h.2
  rcases h.1.2 with ⟨rfl, _⟩ | ⟨g', cap, cur, rfl, _⟩
  · have := h.2
    simp [Value.ownBlock] at this
  · have e := h.2
    simp [Value.ownBlock] at e
    subst e
    exact ⟨cap, rfl, lt_of_block hc⟩
end Go.Proofs.Ytomhnabgdbpoiaa
