/- The reference's functions, and Is: what each computes. No conditions. -/
import Derived.Test.YtipapejgemkoaaaCond
import Derived.Lib.Hide
namespace Go.Proofs.Ytipapejgemkoaaa
open Go.RowKit
attribute [local go_sem ↓] Go.wp_at_zero Go.wp_at_succ

theorem keep_cell {W w' : World} {p : Addr} {v : Value} (hb : Below W.heap.size W w') (h : W.cell? p = some v) : w'.cell? p = some v := (hb.cell (World.block_lt_of_cell? W p h)).trans h
theorem keep_below {B : Nat} {w W w' : World} (h : Below B w W) (hb : Below W.heap.size W w') (hB : B ≤ w.heap.size) : Below B w w' := h.trans (hb.mono (Nat.le_trans hB h.size))

set_option maxRecDepth 100000 in
theorem of_yes (a o m v x : Int) (hr : rightB a o = true) (w : World) :
    Calls Try.prog 21 #[.agg #[.int .i64 a, .int .i64 o, .int .u64 m, .int .u64 v], .int .u64 x] w (Ret (.bool (cmpB o (bits .and .u64 x m) v)) w) := by
  have hR : 0 ≤ a ∧ a ≤ 5 ∧ 1 ≤ o ∧ o ≤ 6 := by simpa [rightB] using hr
  obtain ⟨ha0, ha5, ho1, ho6⟩ := hR
  go_enter Try.func21, Try.ntmps21
  go_wp2_with (first | (go_at_call 22; refine (held_any _ _ _ (by omega) (by omega) _).mono ?_; rintro e w' ⟨rfl, rfl⟩) | go_in)
  go_ret
  exact ⟨rfl, (((Below.refl _ _).alloc (Nat.le_refl _) _).alloc (by simp) _)⟩

set_option maxRecDepth 100000 in
theorem holds2_any (a o m v nr ar ip x0 x1 x2 x3 x4 x5 : Int) (w : World) :
    Calls Try.prog 13 #[.agg #[.int .i64 a, .int .i64 o, .int .u64 m, .int .u64 v], .agg #[.int .u32 nr, .int .u32 ar, .int .u64 ip, .int .u64 x0, .int .u64 x1, .int .u64 x2, .int .u64 x3, .int .u64 x4, .int .u64 x5]] w
      (Ret (.bool (rightB a o && cmpB o (bits .and .u64 (argI a x0 x1 x2 x3 x4 x5) m) v)) w) := by
  cases hr : rightB a o with
  | false =>
    rw [Bool.false_and]
    go_enter Try.func13, Try.ntmps13
    go_wp2_with (go_at_call 11; refine (right2_any _ _ _ _ _).mono ?_; rintro e w' ⟨rfl, hb⟩)
    go_ret
    exact ⟨rfl, (((Below.refl _ _).alloc (Nat.le_refl _) _).alloc (by simp) _).trans (hb.mono (by simp; omega))⟩
  | true =>
    have hR : 0 ≤ a ∧ a ≤ 5 ∧ 1 ≤ o ∧ o ≤ 6 := by simpa [rightB] using hr
    obtain ⟨ha0, ha5, ho1, ho6⟩ := hR
    rw [Bool.true_and]
    have hc := cells_arg a nr ar ip x0 x1 x2 x3 x4 x5 ha0 ha5
    have h6 : a < 6 := by omega
    go_enter Try.func13, Try.ntmps13
    go_wp2
    go_region_held3 (fun w' => w'.cell? ⟨w.heap.size, 0, none⟩ = some (.int .i64 a) ∧ w'.cell? ⟨w.heap.size, 1, none⟩ = some (.int .i64 o) ∧ w'.cell? ⟨w.heap.size, 2, none⟩ = some (.int .u64 m) ∧ w'.cell? ⟨w.heap.size, 3, none⟩ = some (.int .u64 v) ∧ w'.cell? ⟨w.heap.size + 1, 3 + a.toNat, none⟩ = some (.int .u64 (argI a x0 x1 x2 x3 x4 x5)))
      (refine ⟨?_, ?_, ?_, ?_, ?_⟩ <;> first | exact keep_cell hb (by go_keep) | go_keep) (first | (go_at_call 21; refine (of_yes _ _ _ _ _ hr _).mono ?_; rintro e w' ⟨rfl, hb⟩))
    go_wp2
    go_ret
    exact ⟨rfl, ((((Below.refl _ _).alloc (Nat.le_refl _) _).alloc (by simp) _).alloc (by simp; omega) _).drew.trans (hb.mono (by simp; omega))⟩

def isB (al ne no : Bool) (op m v x : Int) : Bool :=
  if al then true else if ne then false else if op = 1 ∨ op = 5 ∨ op = 6 then (cmpB op (bits .and .u64 x m) v != no) else no

set_option maxRecDepth 100000 in
theorem is_any (al ne no : Bool) (op m v x : Int) (w : World) :
    Calls Try.prog 14 #[.agg #[.bool al, .bool ne, .bool no, .int .i64 op, .int .u64 m, .int .u64 v], .int .u64 x] w (Ret (.bool (isB al ne no op m v x)) w) := by
  cases al with
  | true =>
    go_enter Try.func14, Try.ntmps14
    go_wp2
    go_ret
    exact ret_of (by simp [isB]) ((Below.refl _ _).alloc (Nat.le_refl _) _)
  | false =>
  cases ne with
  | true =>
    go_enter Try.func14, Try.ntmps14
    go_wp2
    go_ret
    exact ret_of (by simp [isB]) ((Below.refl _ _).alloc (Nat.le_refl _) _)
  | false =>
  by_cases e1 : op = 1
  · subst e1
    go_enter Try.func14, Try.ntmps14
    go_wp2_with (first | (go_at_call 20; refine (way_1 _).mono ?_; rintro e w' ⟨rfl, rfl⟩) | go_in)
    go_quiet (exact Calls.quiet_of_same ((same_any _ _ _).mono fun _ _ h => ⟨h.1, h.2.symm⟩))
    go_wp2
    go_ret
    exact ret_of (by cases no <;> simp [isB, cmpB]) (below_drewN ((Below.refl _ _).alloc (Nat.le_refl _) _) _)
  by_cases e5 : op = 5
  · subst e5
    go_enter Try.func14, Try.ntmps14
    go_wp2_with (first | (go_at_call 20; refine (way_5 _).mono ?_; rintro e w' ⟨rfl, rfl⟩) | go_in)
    go_quiet (exact Calls.quiet_of_same ((greater_any _ _ _).mono fun _ _ h => ⟨h.1, h.2.symm⟩))
    go_wp2
    go_ret
    exact ret_of (by cases no <;> simp [isB, cmpB]) (below_drewN ((Below.refl _ _).alloc (Nat.le_refl _) _) _)
  by_cases e6 : op = 6
  · subst e6
    go_enter Try.func14, Try.ntmps14
    go_wp2_with (first | (go_at_call 20; refine (way_6 _).mono ?_; rintro e w' ⟨rfl, rfl⟩) | go_in)
    go_quiet (exact Calls.quiet_of_same ((atLeast_any _ _ _).mono fun _ _ h => ⟨h.1, h.2.symm⟩))
    go_wp2
    go_ret
    exact ret_of (by cases no <;> simp [isB, cmpB]) (below_drewN ((Below.refl _ _).alloc (Nat.le_refl _) _) _)
  have n1 : (op == 1) = false := by simpa using e1
  have n5 : (op == 5) = false := by simpa using e5
  have n6 : (op == 6) = false := by simpa using e6
  have m1 : (op != 1) = true := by simpa using e1
  have m5 : (op != 5) = true := by simpa using e5
  have m6 : (op != 6) = true := by simpa using e6
  have he : isB false false no op m v x = no := by simp [isB, e1, e5, e6]
  have He := Lib.hid he
  clear he e1 e5 e6
  go_enter Try.func14, Try.ntmps14
  go_wp2
  go_ret
  exact ret_of (by rw [He.out]; try simp) ((Below.refl _ _).alloc (Nat.le_refl _) _)

set_option maxRecDepth 100000 in
theorem is2_any (al ne no : Bool) (op m v x : Int) (w : World) :
    Calls Try.prog 15 #[.agg #[.bool al, .bool ne, .bool no, .int .i64 op, .int .u64 m, .int .u64 v], .int .u64 x] w (Ret (.bool (isB al ne no op m v x)) w) := by
  cases al with
  | true =>
    go_enter Try.func15, Try.ntmps15
    go_wp2
    go_ret
    exact ret_of (by simp [isB]) ((Below.refl _ _).alloc (Nat.le_refl _) _)
  | false =>
  cases ne with
  | true =>
    go_enter Try.func15, Try.ntmps15
    go_wp2
    go_ret
    exact ret_of (by simp [isB]) ((Below.refl _ _).alloc (Nat.le_refl _) _)
  | false =>
  by_cases e1 : op = 1
  · subst e1
    go_enter Try.func15, Try.ntmps15
    go_wp2_with (go_at_call 22; refine (held_any _ _ _ (by omega) (by omega) _).mono ?_; rintro e w' ⟨rfl, rfl⟩)
    go_ret
    exact ret_of (by cases no <;> simp [isB, cmpB]) ((Below.refl _ _).alloc (Nat.le_refl _) _)
  by_cases e5 : op = 5
  · subst e5
    go_enter Try.func15, Try.ntmps15
    go_wp2_with (go_at_call 22; refine (held_any _ _ _ (by omega) (by omega) _).mono ?_; rintro e w' ⟨rfl, rfl⟩)
    go_ret
    exact ret_of (by cases no <;> simp [isB, cmpB]) ((Below.refl _ _).alloc (Nat.le_refl _) _)
  by_cases e6 : op = 6
  · subst e6
    go_enter Try.func15, Try.ntmps15
    go_wp2_with (go_at_call 22; refine (held_any _ _ _ (by omega) (by omega) _).mono ?_; rintro e w' ⟨rfl, rfl⟩)
    go_ret
    exact ret_of (by cases no <;> simp [isB, cmpB]) ((Below.refl _ _).alloc (Nat.le_refl _) _)
  have n1 : (op == 1) = false := by simpa using e1
  have n5 : (op == 5) = false := by simpa using e5
  have n6 : (op == 6) = false := by simpa using e6
  have m1 : (op != 1) = true := by simpa using e1
  have m5 : (op != 5) = true := by simpa using e5
  have m6 : (op != 6) = true := by simpa using e6
  have he : isB false false no op m v x = no := by simp [isB, e1, e5, e6]
  have He := Lib.hid he
  clear he e1 e5 e6
  go_enter Try.func15, Try.ntmps15
  go_wp2
  go_ret
  exact ret_of (by rw [He.out]; try simp) ((Below.refl _ _).alloc (Nat.le_refl _) _)

end Go.Proofs.Ytipapejgemkoaaa
