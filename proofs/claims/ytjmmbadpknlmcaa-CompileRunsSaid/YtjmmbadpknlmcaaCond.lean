/- The functions of package cond and of its reference: what each computes. No conditions. -/
import Derived.Test.YtjmmbadpknlmcaaChecked
import Derived.WalkKit
import Derived.Deep.QuietTactic
import Derived.BigQuiet
import Derived.WalkLawsBesides
import Derived.WalkSmall
import Derived.Deep.RegionHeld3
import Derived.Deep.DrawnRows
import Derived.Lib.Hide
section
namespace Go.Proofs.Ytjmmbadpknlmcaa
open Go.RowKit
attribute [local go_sem ↓] Go.wp_at_zero Go.wp_at_succ

/-- It returns v, and what lay before lies as it lay. -/
def Ret (v : Value) (w : World) (e : Ending) (w' : World) : Prop := e = .returned v ∧ Below w.heap.size w w'

def rightB (a o : Int) : Bool := decide (0 ≤ a ∧ a ≤ 5 ∧ 1 ≤ o ∧ o ≤ 6)
def cmpB (o x v : Int) : Bool :=
  if o = 1 then x == v else if o = 2 then x != v else if o = 3 then decide (x < v) else if o = 4 then decide (x ≤ v) else if o = 5 then decide (v < x) else decide (v ≤ x)

theorem ret_of {b : Bool} {c : Bool} {w w' : World} (h : b = c) (hb : Below w.heap.size w w') : Ret (.bool c) w (.returned (.bool b)) w' := ⟨by rw [h], hb⟩

theorem right_any (a o m v : Int) (w : World) : Calls Try.prog 55 #[.agg #[.int .i64 a, .int .i64 o, .int .u64 m, .int .u64 v]] w (Ret (.bool (rightB a o)) w) := by
  go_enter Try.func55, Try.ntmps55
  go_wp2
  all_goals
    go_ret
    refine ret_of ?_ ((Below.refl _ _).alloc (Nat.le_refl _) _)
    rw [Bool.eq_iff_iff]
    simp [rightB]
    try omega

theorem right2_any (a o m v : Int) (w : World) : Calls Try.prog 42 #[.agg #[.int .i64 a, .int .i64 o, .int .u64 m, .int .u64 v]] w (Ret (.bool (rightB a o)) w) := by
  go_enter Try.func42, Try.ntmps42
  go_wp2
  all_goals
    go_ret
    refine ret_of ?_ ((Below.refl _ _).alloc (Nat.le_refl _) _)
    rw [Bool.eq_iff_iff]
    simp [rightB]
    try omega

/-- It returns v and leaves the world alone. -/
def Same (v : Value) (w : World) (e : Ending) (w' : World) : Prop := e = .returned v ∧ w = w'
theorem same_of {b c : Bool} {w : World} (h : b = c) : Same (.bool c) w (.returned (.bool b)) w := ⟨by rw [h], rfl⟩

theorem same_any (x v : Int) (w : World) : Calls Try.prog 80 #[.int .u64 x, .int .u64 v] w (Same (.bool (x == v)) w) := by
  go_enter Try.func80, Try.ntmps80
  go_wp2
  go_ret
  exact ⟨rfl, rfl⟩
theorem greater_any (x v : Int) (w : World) : Calls Try.prog 81 #[.int .u64 x, .int .u64 v] w (Same (.bool (decide (v < x))) w) := by
  go_enter Try.func81, Try.ntmps81
  go_wp2
  go_ret
  exact ⟨rfl, rfl⟩
theorem atLeast_any (x v : Int) (w : World) : Calls Try.prog 82 #[.int .u64 x, .int .u64 v] w (Same (.bool (decide (v ≤ x))) w) := by
  go_enter Try.func82, Try.ntmps82
  go_wp2
  go_ret
  exact ⟨rfl, rfl⟩

/-- What way tells of an op. -/
def wayF (o : Int) : FuncId := if o = 1 ∨ o = 2 then 80 else if o = 4 ∨ o = 5 then 81 else 82
def wayO (o : Int) : Int := if o = 1 ∨ o = 2 then 1 else if o = 4 ∨ o = 5 then 5 else 6
def wayN (o : Int) : Bool := decide (o = 2 ∨ o = 4 ∨ o = 3)
theorem way_any (o : Int) (h1 : 1 ≤ o) (h6 : o ≤ 6) (w : World) : Calls Try.prog 56 #[.int .i64 o] w (Same (.tuple #[.func (.func (wayF o)) #[] #[], .int .i64 (wayO o), .bool (wayN o)]) w) := by
  obtain rfl | rfl | rfl | rfl | rfl | rfl : o = 1 ∨ o = 2 ∨ o = 3 ∨ o = 4 ∨ o = 5 ∨ o = 6 := by omega
  all_goals
    go_enter Try.func56, Try.ntmps56
    go_wp2
    go_ret3
    exact ⟨rfl, rfl⟩

def argI (a x0 x1 x2 x3 x4 x5 : Int) : Int := if a = 0 then x0 else if a = 1 then x1 else if a = 2 then x2 else if a = 3 then x3 else if a = 4 then x4 else x5

set_option maxRecDepth 100000 in
theorem holds_no (a o m v nr ar ip x0 x1 x2 x3 x4 x5 : Int) (hr : rightB a o = false) (w : World) :
    Calls Try.prog 50 #[.agg #[.int .i64 a, .int .i64 o, .int .u64 m, .int .u64 v], .agg #[.int .u32 nr, .int .u32 ar, .int .u64 ip, .int .u64 x0, .int .u64 x1, .int .u64 x2, .int .u64 x3, .int .u64 x4, .int .u64 x5]] w
      (Ret (.bool false) w) := by
  go_enter Try.func50, Try.ntmps50
  go_wp2_with (go_at_call 55; refine (right_any _ _ _ _ _).mono ?_; rintro e w' ⟨rfl, hb⟩)
  go_ret
  exact ⟨rfl, (((Below.refl _ _).alloc (Nat.le_refl _) _).alloc (by simp) _).trans (hb.mono (by simp; omega))⟩

theorem cells_arg (a nr ar ip x0 x1 x2 x3 x4 x5 : Int) (h0 : 0 ≤ a) (h5 : a ≤ 5) :
    (#[.int .u32 nr, .int .u32 ar, .int .u64 ip, .int .u64 x0, .int .u64 x1, .int .u64 x2, .int .u64 x3, .int .u64 x4, .int .u64 x5] : Array Value)[3 + a.toNat]? = some (.int .u64 (argI a x0 x1 x2 x3 x4 x5)) := by
  obtain rfl | rfl | rfl | rfl | rfl | rfl : a = 0 ∨ a = 1 ∨ a = 2 ∨ a = 3 ∨ a = 4 ∨ a = 5 := by omega
  all_goals rfl

theorem way_1 (w : World) : Calls Try.prog 56 #[.int .i64 1] w (Same (.tuple #[.func (.func 80) #[] #[], .int .i64 1, .bool false]) w) := way_any 1 (by decide) (by decide) w
set_option maxRecDepth 100000 in
theorem holds_yes1 (a m v nr ar ip x0 x1 x2 x3 x4 x5 : Int) (h0 : 0 ≤ a) (h5 : a ≤ 5) (w : World) :
    Calls Try.prog 50 #[.agg #[.int .i64 a, .int .i64 1, .int .u64 m, .int .u64 v], .agg #[.int .u32 nr, .int .u32 ar, .int .u64 ip, .int .u64 x0, .int .u64 x1, .int .u64 x2, .int .u64 x3, .int .u64 x4, .int .u64 x5]] w
      (Ret (.bool (cmpB 1 (bits .and .u64 (argI a x0 x1 x2 x3 x4 x5) m) v)) w) := by
  have hc := cells_arg a nr ar ip x0 x1 x2 x3 x4 x5 h0 h5
  have h6 : a < 6 := by omega
  go_enter Try.func50, Try.ntmps50
  go_wp2_with (first | (go_at_call 56; refine (way_1 _).mono ?_; rintro e w' ⟨rfl, rfl⟩) | go_in)
  go_quiet (exact Calls.quiet_of_same ((same_any _ _ _).mono fun _ _ h => ⟨h.1, h.2.symm⟩))
  go_wp2
  go_ret
  refine ret_of (by rw [Bool.eq_iff_iff]; simp [cmpB]) ?_
  exact below_drewN ((((Below.refl _ _).alloc (Nat.le_refl _) _).alloc (by simp) _).alloc (by simp; omega) _) _
theorem way_2 (w : World) : Calls Try.prog 56 #[.int .i64 2] w (Same (.tuple #[.func (.func 80) #[] #[], .int .i64 1, .bool true]) w) := way_any 2 (by decide) (by decide) w
set_option maxRecDepth 100000 in
theorem holds_yes2 (a m v nr ar ip x0 x1 x2 x3 x4 x5 : Int) (h0 : 0 ≤ a) (h5 : a ≤ 5) (w : World) :
    Calls Try.prog 50 #[.agg #[.int .i64 a, .int .i64 2, .int .u64 m, .int .u64 v], .agg #[.int .u32 nr, .int .u32 ar, .int .u64 ip, .int .u64 x0, .int .u64 x1, .int .u64 x2, .int .u64 x3, .int .u64 x4, .int .u64 x5]] w
      (Ret (.bool (cmpB 2 (bits .and .u64 (argI a x0 x1 x2 x3 x4 x5) m) v)) w) := by
  have hc := cells_arg a nr ar ip x0 x1 x2 x3 x4 x5 h0 h5
  have h6 : a < 6 := by omega
  go_enter Try.func50, Try.ntmps50
  go_wp2_with (first | (go_at_call 56; refine (way_2 _).mono ?_; rintro e w' ⟨rfl, rfl⟩) | go_in)
  go_quiet (exact Calls.quiet_of_same ((same_any _ _ _).mono fun _ _ h => ⟨h.1, h.2.symm⟩))
  go_wp2
  go_ret
  refine ret_of (by rw [Bool.eq_iff_iff]; simp [cmpB]) ?_
  exact below_drewN ((((Below.refl _ _).alloc (Nat.le_refl _) _).alloc (by simp) _).alloc (by simp; omega) _) _
theorem way_3 (w : World) : Calls Try.prog 56 #[.int .i64 3] w (Same (.tuple #[.func (.func 82) #[] #[], .int .i64 6, .bool true]) w) := way_any 3 (by decide) (by decide) w
set_option maxRecDepth 100000 in
theorem holds_yes3 (a m v nr ar ip x0 x1 x2 x3 x4 x5 : Int) (h0 : 0 ≤ a) (h5 : a ≤ 5) (w : World) :
    Calls Try.prog 50 #[.agg #[.int .i64 a, .int .i64 3, .int .u64 m, .int .u64 v], .agg #[.int .u32 nr, .int .u32 ar, .int .u64 ip, .int .u64 x0, .int .u64 x1, .int .u64 x2, .int .u64 x3, .int .u64 x4, .int .u64 x5]] w
      (Ret (.bool (cmpB 3 (bits .and .u64 (argI a x0 x1 x2 x3 x4 x5) m) v)) w) := by
  have hc := cells_arg a nr ar ip x0 x1 x2 x3 x4 x5 h0 h5
  have h6 : a < 6 := by omega
  go_enter Try.func50, Try.ntmps50
  go_wp2_with (first | (go_at_call 56; refine (way_3 _).mono ?_; rintro e w' ⟨rfl, rfl⟩) | go_in)
  go_quiet (exact Calls.quiet_of_same ((atLeast_any _ _ _).mono fun _ _ h => ⟨h.1, h.2.symm⟩))
  go_wp2
  go_ret
  refine ret_of (by rw [Bool.eq_iff_iff]; simp [cmpB]) ?_
  exact below_drewN ((((Below.refl _ _).alloc (Nat.le_refl _) _).alloc (by simp) _).alloc (by simp; omega) _) _
theorem way_4 (w : World) : Calls Try.prog 56 #[.int .i64 4] w (Same (.tuple #[.func (.func 81) #[] #[], .int .i64 5, .bool true]) w) := way_any 4 (by decide) (by decide) w
set_option maxRecDepth 100000 in
theorem holds_yes4 (a m v nr ar ip x0 x1 x2 x3 x4 x5 : Int) (h0 : 0 ≤ a) (h5 : a ≤ 5) (w : World) :
    Calls Try.prog 50 #[.agg #[.int .i64 a, .int .i64 4, .int .u64 m, .int .u64 v], .agg #[.int .u32 nr, .int .u32 ar, .int .u64 ip, .int .u64 x0, .int .u64 x1, .int .u64 x2, .int .u64 x3, .int .u64 x4, .int .u64 x5]] w
      (Ret (.bool (cmpB 4 (bits .and .u64 (argI a x0 x1 x2 x3 x4 x5) m) v)) w) := by
  have hc := cells_arg a nr ar ip x0 x1 x2 x3 x4 x5 h0 h5
  have h6 : a < 6 := by omega
  go_enter Try.func50, Try.ntmps50
  go_wp2_with (first | (go_at_call 56; refine (way_4 _).mono ?_; rintro e w' ⟨rfl, rfl⟩) | go_in)
  go_quiet (exact Calls.quiet_of_same ((greater_any _ _ _).mono fun _ _ h => ⟨h.1, h.2.symm⟩))
  go_wp2
  go_ret
  refine ret_of (by rw [Bool.eq_iff_iff]; simp [cmpB]) ?_
  exact below_drewN ((((Below.refl _ _).alloc (Nat.le_refl _) _).alloc (by simp) _).alloc (by simp; omega) _) _
theorem way_5 (w : World) : Calls Try.prog 56 #[.int .i64 5] w (Same (.tuple #[.func (.func 81) #[] #[], .int .i64 5, .bool false]) w) := way_any 5 (by decide) (by decide) w
set_option maxRecDepth 100000 in
theorem holds_yes5 (a m v nr ar ip x0 x1 x2 x3 x4 x5 : Int) (h0 : 0 ≤ a) (h5 : a ≤ 5) (w : World) :
    Calls Try.prog 50 #[.agg #[.int .i64 a, .int .i64 5, .int .u64 m, .int .u64 v], .agg #[.int .u32 nr, .int .u32 ar, .int .u64 ip, .int .u64 x0, .int .u64 x1, .int .u64 x2, .int .u64 x3, .int .u64 x4, .int .u64 x5]] w
      (Ret (.bool (cmpB 5 (bits .and .u64 (argI a x0 x1 x2 x3 x4 x5) m) v)) w) := by
  have hc := cells_arg a nr ar ip x0 x1 x2 x3 x4 x5 h0 h5
  have h6 : a < 6 := by omega
  go_enter Try.func50, Try.ntmps50
  go_wp2_with (first | (go_at_call 56; refine (way_5 _).mono ?_; rintro e w' ⟨rfl, rfl⟩) | go_in)
  go_quiet (exact Calls.quiet_of_same ((greater_any _ _ _).mono fun _ _ h => ⟨h.1, h.2.symm⟩))
  go_wp2
  go_ret
  refine ret_of (by rw [Bool.eq_iff_iff]; simp [cmpB]) ?_
  exact below_drewN ((((Below.refl _ _).alloc (Nat.le_refl _) _).alloc (by simp) _).alloc (by simp; omega) _) _
theorem way_6 (w : World) : Calls Try.prog 56 #[.int .i64 6] w (Same (.tuple #[.func (.func 82) #[] #[], .int .i64 6, .bool false]) w) := way_any 6 (by decide) (by decide) w
set_option maxRecDepth 100000 in
theorem holds_yes6 (a m v nr ar ip x0 x1 x2 x3 x4 x5 : Int) (h0 : 0 ≤ a) (h5 : a ≤ 5) (w : World) :
    Calls Try.prog 50 #[.agg #[.int .i64 a, .int .i64 6, .int .u64 m, .int .u64 v], .agg #[.int .u32 nr, .int .u32 ar, .int .u64 ip, .int .u64 x0, .int .u64 x1, .int .u64 x2, .int .u64 x3, .int .u64 x4, .int .u64 x5]] w
      (Ret (.bool (cmpB 6 (bits .and .u64 (argI a x0 x1 x2 x3 x4 x5) m) v)) w) := by
  have hc := cells_arg a nr ar ip x0 x1 x2 x3 x4 x5 h0 h5
  have h6 : a < 6 := by omega
  go_enter Try.func50, Try.ntmps50
  go_wp2_with (first | (go_at_call 56; refine (way_6 _).mono ?_; rintro e w' ⟨rfl, rfl⟩) | go_in)
  go_quiet (exact Calls.quiet_of_same ((atLeast_any _ _ _).mono fun _ _ h => ⟨h.1, h.2.symm⟩))
  go_wp2
  go_ret
  refine ret_of (by rw [Bool.eq_iff_iff]; simp [cmpB]) ?_
  exact below_drewN ((((Below.refl _ _).alloc (Nat.le_refl _) _).alloc (by simp) _).alloc (by simp; omega) _) _
theorem holds_any (a o m v nr ar ip x0 x1 x2 x3 x4 x5 : Int) (w : World) :
    Calls Try.prog 50 #[.agg #[.int .i64 a, .int .i64 o, .int .u64 m, .int .u64 v], .agg #[.int .u32 nr, .int .u32 ar, .int .u64 ip, .int .u64 x0, .int .u64 x1, .int .u64 x2, .int .u64 x3, .int .u64 x4, .int .u64 x5]] w
      (Ret (.bool (rightB a o && cmpB o (bits .and .u64 (argI a x0 x1 x2 x3 x4 x5) m) v)) w) := by
  cases hr : rightB a o with
  | false => rw [Bool.false_and]; exact holds_no a o m v nr ar ip x0 x1 x2 x3 x4 x5 hr w
  | true =>
    have hR : 0 ≤ a ∧ a ≤ 5 ∧ 1 ≤ o ∧ o ≤ 6 := by simpa [rightB] using hr
    obtain ⟨ha0, ha5, ho1, ho6⟩ := hR
    rw [Bool.true_and]
    obtain rfl | rfl | rfl | rfl | rfl | rfl : o = 1 ∨ o = 2 ∨ o = 3 ∨ o = 4 ∨ o = 5 ∨ o = 6 := by omega
    · exact holds_yes1 a m v nr ar ip x0 x1 x2 x3 x4 x5 ha0 ha5 w
    · exact holds_yes2 a m v nr ar ip x0 x1 x2 x3 x4 x5 ha0 ha5 w
    · exact holds_yes3 a m v nr ar ip x0 x1 x2 x3 x4 x5 ha0 ha5 w
    · exact holds_yes4 a m v nr ar ip x0 x1 x2 x3 x4 x5 ha0 ha5 w
    · exact holds_yes5 a m v nr ar ip x0 x1 x2 x3 x4 x5 ha0 ha5 w
    · exact holds_yes6 a m v nr ar ip x0 x1 x2 x3 x4 x5 ha0 ha5 w
end Go.Proofs.Ytjmmbadpknlmcaa
end
section
/- The reference's functions, and Is: what each computes. No conditions. -/
namespace Go.Proofs.Ytjmmbadpknlmcaa
open Go.RowKit
attribute [local go_sem ↓] Go.wp_at_zero Go.wp_at_succ

theorem keep_cell {W w' : World} {p : Addr} {v : Value} (hb : Below W.heap.size W w') (h : W.cell? p = some v) : w'.cell? p = some v := (hb.cell (World.block_lt_of_cell? W p h)).trans h
theorem keep_below {B : Nat} {w W w' : World} (h : Below B w W) (hb : Below W.heap.size W w') (hB : B ≤ w.heap.size) : Below B w w' := h.trans (hb.mono (Nat.le_trans hB h.size))

end Go.Proofs.Ytjmmbadpknlmcaa
end
