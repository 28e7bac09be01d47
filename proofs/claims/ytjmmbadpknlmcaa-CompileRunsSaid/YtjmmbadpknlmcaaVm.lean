/- The codes that a program of rules has: known, jumps, ends; what is wrong with a fine instruction (nothing). Conditions: the instruction is fine. -/
import Derived.Test.YtjmmbadpknlmcaaCode
import Derived.Test.YtjmmbadpknlmcaaRule
import Derived.Deep.RegionHeld3
section
namespace Go.Proofs.Ytjmmbadpknlmcaa
open Go.RowKit
set_option linter.unusedVariables false
set_option linter.unusedSimpArgs false
attribute [local go_sem ↓] Go.wp_at_zero Go.wp_at_succ

theorem under125 : Try.prog.underlying 125 = some (.array 10 68) := by kernel_rfl
theorem cells68 : Try.prog.cellsOf 68 = 1 := by kernel_rfl
theorem info68 : (Try.prog.info? 68).map (fun i => (i.zero, i.size, i.bytes)) = some (some (.int .u16 0), 1, 2) := by kernel_rfl
theorem under68' : Try.prog.underlying 68 = some (.int .u16) := by kernel_rfl
theorem run_index_one {w : World} (t : TypeId) (n : Nat) (cs : Array Value) (i : Nat) (v : Value) (h : Try.prog.underlying t = some (.array n 68)) (hi : i < n) (hv : cs[i]? = some v) :
    (Instr.index t (.agg cs) (.int .i64 (i : Int))).run Try.prog w = .ok v w := by
  have h0 : (0 : Int) ≤ i ∧ (i : Int) < n := by omega
  obtain ⟨i0, hi0, hz0, hz1, hz2⟩ := info_parts info68
  have hc : Try.prog.cellsOf 68 = 1 := cells68
  simp [Instr.index, run_underlying h, asIntOf, h0, hi, go_sem, part, isAgg, run_underlying under68', run_sizeOf w hi0, hc, hv]
def singles : Array Value := #[.int .u16 32, .int .u16 0, .int .u16 1, .int .u16 96, .int .u16 97, .int .u16 2, .int .u16 3, .int .u16 132, .int .u16 7, .int .u16 135]
set_option maxRecDepth 100000 in
theorem jumps_32 (w : World) : Calls Try.prog 46 #[.int .u16 32] w (Same (.bool false) w) := by
  go_enter Try.func46, Try.ntmps46
  go_wp2
  go_ret
  exact ⟨rfl, rfl⟩
set_option maxRecDepth 100000 in
theorem ends_32 (w : World) : Calls Try.prog 47 #[.int .u16 32] w (Same (.bool false) w) := by
  go_enter Try.func47, Try.ntmps47
  go_wp2
  go_ret
  exact ⟨rfl, rfl⟩
set_option maxRecDepth 100000 in
theorem reckons_32 (w : World) : Calls Try.prog 63 #[.int .u16 32] w (Same (.bool false) w) := by
  go_enter Try.func63, Try.ntmps63
  go_wp2
  go_ret
  exact ⟨rfl, rfl⟩
set_option maxRecDepth 100000 in
theorem jumps_84 (w : World) : Calls Try.prog 46 #[.int .u16 84] w (Same (.bool false) w) := by
  go_enter Try.func46, Try.ntmps46
  go_wp2
  go_ret
  exact ⟨rfl, rfl⟩
set_option maxRecDepth 100000 in
theorem ends_84 (w : World) : Calls Try.prog 47 #[.int .u16 84] w (Same (.bool false) w) := by
  go_enter Try.func47, Try.ntmps47
  go_wp2
  go_ret
  exact ⟨rfl, rfl⟩
set_option maxRecDepth 100000 in
theorem reckons_84 (w : World) : Calls Try.prog 63 #[.int .u16 84] w (Same (.bool true) w) := by
  go_enter Try.func63, Try.ntmps63
  go_wp2
  go_ret
  exact ⟨rfl, rfl⟩
set_option maxRecDepth 100000 in
theorem jumps_21 (w : World) : Calls Try.prog 46 #[.int .u16 21] w (Same (.bool true) w) := by
  go_enter Try.func46, Try.ntmps46
  go_wp2
  go_ret
  exact ⟨rfl, rfl⟩
set_option maxRecDepth 100000 in
theorem ends_21 (w : World) : Calls Try.prog 47 #[.int .u16 21] w (Same (.bool false) w) := by
  go_enter Try.func47, Try.ntmps47
  go_wp2
  go_ret
  exact ⟨rfl, rfl⟩
set_option maxRecDepth 100000 in
theorem reckons_21 (w : World) : Calls Try.prog 63 #[.int .u16 21] w (Same (.bool false) w) := by
  go_enter Try.func63, Try.ntmps63
  go_wp2
  go_ret
  exact ⟨rfl, rfl⟩
set_option maxRecDepth 100000 in
theorem jumps_37 (w : World) : Calls Try.prog 46 #[.int .u16 37] w (Same (.bool true) w) := by
  go_enter Try.func46, Try.ntmps46
  go_wp2
  go_ret
  exact ⟨rfl, rfl⟩
set_option maxRecDepth 100000 in
theorem ends_37 (w : World) : Calls Try.prog 47 #[.int .u16 37] w (Same (.bool false) w) := by
  go_enter Try.func47, Try.ntmps47
  go_wp2
  go_ret
  exact ⟨rfl, rfl⟩
set_option maxRecDepth 100000 in
theorem reckons_37 (w : World) : Calls Try.prog 63 #[.int .u16 37] w (Same (.bool false) w) := by
  go_enter Try.func63, Try.ntmps63
  go_wp2
  go_ret
  exact ⟨rfl, rfl⟩
set_option maxRecDepth 100000 in
theorem jumps_53 (w : World) : Calls Try.prog 46 #[.int .u16 53] w (Same (.bool true) w) := by
  go_enter Try.func46, Try.ntmps46
  go_wp2
  go_ret
  exact ⟨rfl, rfl⟩
set_option maxRecDepth 100000 in
theorem ends_53 (w : World) : Calls Try.prog 47 #[.int .u16 53] w (Same (.bool false) w) := by
  go_enter Try.func47, Try.ntmps47
  go_wp2
  go_ret
  exact ⟨rfl, rfl⟩
set_option maxRecDepth 100000 in
theorem reckons_53 (w : World) : Calls Try.prog 63 #[.int .u16 53] w (Same (.bool false) w) := by
  go_enter Try.func63, Try.ntmps63
  go_wp2
  go_ret
  exact ⟨rfl, rfl⟩
set_option maxRecDepth 100000 in
theorem jumps_5 (w : World) : Calls Try.prog 46 #[.int .u16 5] w (Same (.bool true) w) := by
  go_enter Try.func46, Try.ntmps46
  go_wp2
  go_ret
  exact ⟨rfl, rfl⟩
set_option maxRecDepth 100000 in
theorem ends_5 (w : World) : Calls Try.prog 47 #[.int .u16 5] w (Same (.bool false) w) := by
  go_enter Try.func47, Try.ntmps47
  go_wp2
  go_ret
  exact ⟨rfl, rfl⟩
set_option maxRecDepth 100000 in
theorem reckons_5 (w : World) : Calls Try.prog 63 #[.int .u16 5] w (Same (.bool false) w) := by
  go_enter Try.func63, Try.ntmps63
  go_wp2
  go_ret
  exact ⟨rfl, rfl⟩
set_option maxRecDepth 100000 in
theorem jumps_6 (w : World) : Calls Try.prog 46 #[.int .u16 6] w (Same (.bool false) w) := by
  go_enter Try.func46, Try.ntmps46
  go_wp2
  go_ret
  exact ⟨rfl, rfl⟩
set_option maxRecDepth 100000 in
theorem ends_6 (w : World) : Calls Try.prog 47 #[.int .u16 6] w (Same (.bool true) w) := by
  go_enter Try.func47, Try.ntmps47
  go_wp2
  go_ret
  exact ⟨rfl, rfl⟩
set_option maxRecDepth 100000 in
theorem reckons_6 (w : World) : Calls Try.prog 63 #[.int .u16 6] w (Same (.bool false) w) := by
  go_enter Try.func63, Try.ntmps63
  go_wp2
  go_ret
  exact ⟨rfl, rfl⟩
set_option maxRecDepth 100000 in
set_option maxHeartbeats 4000000 in
theorem known_32 (w : World) : Calls Try.prog 45 #[.int .u16 32] w (Ret (.bool true) w) := by
  have x0 : ∀ w, (Instr.index 125 (.agg singles) (.int .i64 0)).run Try.prog w = .ok (.int .u16 32) w := fun w => run_index_one 125 10 singles 0 _ under125 (by decide) rfl
  simp only [singles] at x0
  go_enter Try.func45, Try.ntmps45
  go_wp2
  refine wp_loop_rounds 1 ?_
  rw [rounds_succ]; go_wp2
  go_wp2_with (first | (go_at_call 63; refine (reckons_32 _).mono ?_; rintro e w' ⟨rfl, rfl⟩) | (go_at_call 46; refine (jumps_32 _).mono ?_; rintro e w' ⟨rfl, rfl⟩) | (go_at_call 47; refine (ends_32 _).mono ?_; rintro e w' ⟨rfl, rfl⟩))
  go_ret
  exact ⟨rfl, below_alloc _ _⟩
set_option maxRecDepth 100000 in
set_option maxHeartbeats 4000000 in
theorem known_84 (w : World) : Calls Try.prog 45 #[.int .u16 84] w (Ret (.bool true) w) := by
  have x0 : ∀ w, (Instr.index 125 (.agg singles) (.int .i64 0)).run Try.prog w = .ok (.int .u16 32) w := fun w => run_index_one 125 10 singles 0 _ under125 (by decide) rfl
  have x1 : ∀ w, (Instr.index 125 (.agg singles) (.int .i64 1)).run Try.prog w = .ok (.int .u16 0) w := fun w => run_index_one 125 10 singles 1 _ under125 (by decide) rfl
  have x2 : ∀ w, (Instr.index 125 (.agg singles) (.int .i64 2)).run Try.prog w = .ok (.int .u16 1) w := fun w => run_index_one 125 10 singles 2 _ under125 (by decide) rfl
  have x3 : ∀ w, (Instr.index 125 (.agg singles) (.int .i64 3)).run Try.prog w = .ok (.int .u16 96) w := fun w => run_index_one 125 10 singles 3 _ under125 (by decide) rfl
  have x4 : ∀ w, (Instr.index 125 (.agg singles) (.int .i64 4)).run Try.prog w = .ok (.int .u16 97) w := fun w => run_index_one 125 10 singles 4 _ under125 (by decide) rfl
  have x5 : ∀ w, (Instr.index 125 (.agg singles) (.int .i64 5)).run Try.prog w = .ok (.int .u16 2) w := fun w => run_index_one 125 10 singles 5 _ under125 (by decide) rfl
  have x6 : ∀ w, (Instr.index 125 (.agg singles) (.int .i64 6)).run Try.prog w = .ok (.int .u16 3) w := fun w => run_index_one 125 10 singles 6 _ under125 (by decide) rfl
  have x7 : ∀ w, (Instr.index 125 (.agg singles) (.int .i64 7)).run Try.prog w = .ok (.int .u16 132) w := fun w => run_index_one 125 10 singles 7 _ under125 (by decide) rfl
  have x8 : ∀ w, (Instr.index 125 (.agg singles) (.int .i64 8)).run Try.prog w = .ok (.int .u16 7) w := fun w => run_index_one 125 10 singles 8 _ under125 (by decide) rfl
  have x9 : ∀ w, (Instr.index 125 (.agg singles) (.int .i64 9)).run Try.prog w = .ok (.int .u16 135) w := fun w => run_index_one 125 10 singles 9 _ under125 (by decide) rfl
  simp only [singles] at x0 x1 x2 x3 x4 x5 x6 x7 x8 x9
  go_enter Try.func45, Try.ntmps45
  go_wp2
  refine wp_loop_rounds 11 ?_
  rw [rounds_succ]; go_wp2
  rw [rounds_succ]; go_wp2
  rw [rounds_succ]; go_wp2
  rw [rounds_succ]; go_wp2
  rw [rounds_succ]; go_wp2
  rw [rounds_succ]; go_wp2
  rw [rounds_succ]; go_wp2
  rw [rounds_succ]; go_wp2
  rw [rounds_succ]; go_wp2
  rw [rounds_succ]; go_wp2
  rw [rounds_succ]; go_wp2
  go_wp2_with (first | (go_at_call 63; refine (reckons_84 _).mono ?_; rintro e w' ⟨rfl, rfl⟩) | (go_at_call 46; refine (jumps_84 _).mono ?_; rintro e w' ⟨rfl, rfl⟩) | (go_at_call 47; refine (ends_84 _).mono ?_; rintro e w' ⟨rfl, rfl⟩))
  go_ret
  exact ⟨rfl, below_alloc _ _⟩
set_option maxRecDepth 100000 in
set_option maxHeartbeats 4000000 in
theorem known_21 (w : World) : Calls Try.prog 45 #[.int .u16 21] w (Ret (.bool true) w) := by
  have x0 : ∀ w, (Instr.index 125 (.agg singles) (.int .i64 0)).run Try.prog w = .ok (.int .u16 32) w := fun w => run_index_one 125 10 singles 0 _ under125 (by decide) rfl
  have x1 : ∀ w, (Instr.index 125 (.agg singles) (.int .i64 1)).run Try.prog w = .ok (.int .u16 0) w := fun w => run_index_one 125 10 singles 1 _ under125 (by decide) rfl
  have x2 : ∀ w, (Instr.index 125 (.agg singles) (.int .i64 2)).run Try.prog w = .ok (.int .u16 1) w := fun w => run_index_one 125 10 singles 2 _ under125 (by decide) rfl
  have x3 : ∀ w, (Instr.index 125 (.agg singles) (.int .i64 3)).run Try.prog w = .ok (.int .u16 96) w := fun w => run_index_one 125 10 singles 3 _ under125 (by decide) rfl
  have x4 : ∀ w, (Instr.index 125 (.agg singles) (.int .i64 4)).run Try.prog w = .ok (.int .u16 97) w := fun w => run_index_one 125 10 singles 4 _ under125 (by decide) rfl
  have x5 : ∀ w, (Instr.index 125 (.agg singles) (.int .i64 5)).run Try.prog w = .ok (.int .u16 2) w := fun w => run_index_one 125 10 singles 5 _ under125 (by decide) rfl
  have x6 : ∀ w, (Instr.index 125 (.agg singles) (.int .i64 6)).run Try.prog w = .ok (.int .u16 3) w := fun w => run_index_one 125 10 singles 6 _ under125 (by decide) rfl
  have x7 : ∀ w, (Instr.index 125 (.agg singles) (.int .i64 7)).run Try.prog w = .ok (.int .u16 132) w := fun w => run_index_one 125 10 singles 7 _ under125 (by decide) rfl
  have x8 : ∀ w, (Instr.index 125 (.agg singles) (.int .i64 8)).run Try.prog w = .ok (.int .u16 7) w := fun w => run_index_one 125 10 singles 8 _ under125 (by decide) rfl
  have x9 : ∀ w, (Instr.index 125 (.agg singles) (.int .i64 9)).run Try.prog w = .ok (.int .u16 135) w := fun w => run_index_one 125 10 singles 9 _ under125 (by decide) rfl
  simp only [singles] at x0 x1 x2 x3 x4 x5 x6 x7 x8 x9
  go_enter Try.func45, Try.ntmps45
  go_wp2
  refine wp_loop_rounds 11 ?_
  rw [rounds_succ]; go_wp2
  rw [rounds_succ]; go_wp2
  rw [rounds_succ]; go_wp2
  rw [rounds_succ]; go_wp2
  rw [rounds_succ]; go_wp2
  rw [rounds_succ]; go_wp2
  rw [rounds_succ]; go_wp2
  rw [rounds_succ]; go_wp2
  rw [rounds_succ]; go_wp2
  rw [rounds_succ]; go_wp2
  rw [rounds_succ]; go_wp2
  go_wp2_with (first | (go_at_call 63; refine (reckons_21 _).mono ?_; rintro e w' ⟨rfl, rfl⟩) | (go_at_call 46; refine (jumps_21 _).mono ?_; rintro e w' ⟨rfl, rfl⟩) | (go_at_call 47; refine (ends_21 _).mono ?_; rintro e w' ⟨rfl, rfl⟩))
  go_ret
  exact ⟨rfl, below_alloc _ _⟩
set_option maxRecDepth 100000 in
set_option maxHeartbeats 4000000 in
theorem known_37 (w : World) : Calls Try.prog 45 #[.int .u16 37] w (Ret (.bool true) w) := by
  have x0 : ∀ w, (Instr.index 125 (.agg singles) (.int .i64 0)).run Try.prog w = .ok (.int .u16 32) w := fun w => run_index_one 125 10 singles 0 _ under125 (by decide) rfl
  have x1 : ∀ w, (Instr.index 125 (.agg singles) (.int .i64 1)).run Try.prog w = .ok (.int .u16 0) w := fun w => run_index_one 125 10 singles 1 _ under125 (by decide) rfl
  have x2 : ∀ w, (Instr.index 125 (.agg singles) (.int .i64 2)).run Try.prog w = .ok (.int .u16 1) w := fun w => run_index_one 125 10 singles 2 _ under125 (by decide) rfl
  have x3 : ∀ w, (Instr.index 125 (.agg singles) (.int .i64 3)).run Try.prog w = .ok (.int .u16 96) w := fun w => run_index_one 125 10 singles 3 _ under125 (by decide) rfl
  have x4 : ∀ w, (Instr.index 125 (.agg singles) (.int .i64 4)).run Try.prog w = .ok (.int .u16 97) w := fun w => run_index_one 125 10 singles 4 _ under125 (by decide) rfl
  have x5 : ∀ w, (Instr.index 125 (.agg singles) (.int .i64 5)).run Try.prog w = .ok (.int .u16 2) w := fun w => run_index_one 125 10 singles 5 _ under125 (by decide) rfl
  have x6 : ∀ w, (Instr.index 125 (.agg singles) (.int .i64 6)).run Try.prog w = .ok (.int .u16 3) w := fun w => run_index_one 125 10 singles 6 _ under125 (by decide) rfl
  have x7 : ∀ w, (Instr.index 125 (.agg singles) (.int .i64 7)).run Try.prog w = .ok (.int .u16 132) w := fun w => run_index_one 125 10 singles 7 _ under125 (by decide) rfl
  have x8 : ∀ w, (Instr.index 125 (.agg singles) (.int .i64 8)).run Try.prog w = .ok (.int .u16 7) w := fun w => run_index_one 125 10 singles 8 _ under125 (by decide) rfl
  have x9 : ∀ w, (Instr.index 125 (.agg singles) (.int .i64 9)).run Try.prog w = .ok (.int .u16 135) w := fun w => run_index_one 125 10 singles 9 _ under125 (by decide) rfl
  simp only [singles] at x0 x1 x2 x3 x4 x5 x6 x7 x8 x9
  go_enter Try.func45, Try.ntmps45
  go_wp2
  refine wp_loop_rounds 11 ?_
  rw [rounds_succ]; go_wp2
  rw [rounds_succ]; go_wp2
  rw [rounds_succ]; go_wp2
  rw [rounds_succ]; go_wp2
  rw [rounds_succ]; go_wp2
  rw [rounds_succ]; go_wp2
  rw [rounds_succ]; go_wp2
  rw [rounds_succ]; go_wp2
  rw [rounds_succ]; go_wp2
  rw [rounds_succ]; go_wp2
  rw [rounds_succ]; go_wp2
  go_wp2_with (first | (go_at_call 63; refine (reckons_37 _).mono ?_; rintro e w' ⟨rfl, rfl⟩) | (go_at_call 46; refine (jumps_37 _).mono ?_; rintro e w' ⟨rfl, rfl⟩) | (go_at_call 47; refine (ends_37 _).mono ?_; rintro e w' ⟨rfl, rfl⟩))
  go_ret
  exact ⟨rfl, below_alloc _ _⟩
set_option maxRecDepth 100000 in
set_option maxHeartbeats 4000000 in
theorem known_53 (w : World) : Calls Try.prog 45 #[.int .u16 53] w (Ret (.bool true) w) := by
  have x0 : ∀ w, (Instr.index 125 (.agg singles) (.int .i64 0)).run Try.prog w = .ok (.int .u16 32) w := fun w => run_index_one 125 10 singles 0 _ under125 (by decide) rfl
  have x1 : ∀ w, (Instr.index 125 (.agg singles) (.int .i64 1)).run Try.prog w = .ok (.int .u16 0) w := fun w => run_index_one 125 10 singles 1 _ under125 (by decide) rfl
  have x2 : ∀ w, (Instr.index 125 (.agg singles) (.int .i64 2)).run Try.prog w = .ok (.int .u16 1) w := fun w => run_index_one 125 10 singles 2 _ under125 (by decide) rfl
  have x3 : ∀ w, (Instr.index 125 (.agg singles) (.int .i64 3)).run Try.prog w = .ok (.int .u16 96) w := fun w => run_index_one 125 10 singles 3 _ under125 (by decide) rfl
  have x4 : ∀ w, (Instr.index 125 (.agg singles) (.int .i64 4)).run Try.prog w = .ok (.int .u16 97) w := fun w => run_index_one 125 10 singles 4 _ under125 (by decide) rfl
  have x5 : ∀ w, (Instr.index 125 (.agg singles) (.int .i64 5)).run Try.prog w = .ok (.int .u16 2) w := fun w => run_index_one 125 10 singles 5 _ under125 (by decide) rfl
  have x6 : ∀ w, (Instr.index 125 (.agg singles) (.int .i64 6)).run Try.prog w = .ok (.int .u16 3) w := fun w => run_index_one 125 10 singles 6 _ under125 (by decide) rfl
  have x7 : ∀ w, (Instr.index 125 (.agg singles) (.int .i64 7)).run Try.prog w = .ok (.int .u16 132) w := fun w => run_index_one 125 10 singles 7 _ under125 (by decide) rfl
  have x8 : ∀ w, (Instr.index 125 (.agg singles) (.int .i64 8)).run Try.prog w = .ok (.int .u16 7) w := fun w => run_index_one 125 10 singles 8 _ under125 (by decide) rfl
  have x9 : ∀ w, (Instr.index 125 (.agg singles) (.int .i64 9)).run Try.prog w = .ok (.int .u16 135) w := fun w => run_index_one 125 10 singles 9 _ under125 (by decide) rfl
  simp only [singles] at x0 x1 x2 x3 x4 x5 x6 x7 x8 x9
  go_enter Try.func45, Try.ntmps45
  go_wp2
  refine wp_loop_rounds 11 ?_
  rw [rounds_succ]; go_wp2
  rw [rounds_succ]; go_wp2
  rw [rounds_succ]; go_wp2
  rw [rounds_succ]; go_wp2
  rw [rounds_succ]; go_wp2
  rw [rounds_succ]; go_wp2
  rw [rounds_succ]; go_wp2
  rw [rounds_succ]; go_wp2
  rw [rounds_succ]; go_wp2
  rw [rounds_succ]; go_wp2
  rw [rounds_succ]; go_wp2
  go_wp2_with (first | (go_at_call 63; refine (reckons_53 _).mono ?_; rintro e w' ⟨rfl, rfl⟩) | (go_at_call 46; refine (jumps_53 _).mono ?_; rintro e w' ⟨rfl, rfl⟩) | (go_at_call 47; refine (ends_53 _).mono ?_; rintro e w' ⟨rfl, rfl⟩))
  go_ret
  exact ⟨rfl, below_alloc _ _⟩
set_option maxRecDepth 100000 in
set_option maxHeartbeats 4000000 in
theorem known_5 (w : World) : Calls Try.prog 45 #[.int .u16 5] w (Ret (.bool true) w) := by
  have x0 : ∀ w, (Instr.index 125 (.agg singles) (.int .i64 0)).run Try.prog w = .ok (.int .u16 32) w := fun w => run_index_one 125 10 singles 0 _ under125 (by decide) rfl
  have x1 : ∀ w, (Instr.index 125 (.agg singles) (.int .i64 1)).run Try.prog w = .ok (.int .u16 0) w := fun w => run_index_one 125 10 singles 1 _ under125 (by decide) rfl
  have x2 : ∀ w, (Instr.index 125 (.agg singles) (.int .i64 2)).run Try.prog w = .ok (.int .u16 1) w := fun w => run_index_one 125 10 singles 2 _ under125 (by decide) rfl
  have x3 : ∀ w, (Instr.index 125 (.agg singles) (.int .i64 3)).run Try.prog w = .ok (.int .u16 96) w := fun w => run_index_one 125 10 singles 3 _ under125 (by decide) rfl
  have x4 : ∀ w, (Instr.index 125 (.agg singles) (.int .i64 4)).run Try.prog w = .ok (.int .u16 97) w := fun w => run_index_one 125 10 singles 4 _ under125 (by decide) rfl
  have x5 : ∀ w, (Instr.index 125 (.agg singles) (.int .i64 5)).run Try.prog w = .ok (.int .u16 2) w := fun w => run_index_one 125 10 singles 5 _ under125 (by decide) rfl
  have x6 : ∀ w, (Instr.index 125 (.agg singles) (.int .i64 6)).run Try.prog w = .ok (.int .u16 3) w := fun w => run_index_one 125 10 singles 6 _ under125 (by decide) rfl
  have x7 : ∀ w, (Instr.index 125 (.agg singles) (.int .i64 7)).run Try.prog w = .ok (.int .u16 132) w := fun w => run_index_one 125 10 singles 7 _ under125 (by decide) rfl
  have x8 : ∀ w, (Instr.index 125 (.agg singles) (.int .i64 8)).run Try.prog w = .ok (.int .u16 7) w := fun w => run_index_one 125 10 singles 8 _ under125 (by decide) rfl
  have x9 : ∀ w, (Instr.index 125 (.agg singles) (.int .i64 9)).run Try.prog w = .ok (.int .u16 135) w := fun w => run_index_one 125 10 singles 9 _ under125 (by decide) rfl
  simp only [singles] at x0 x1 x2 x3 x4 x5 x6 x7 x8 x9
  go_enter Try.func45, Try.ntmps45
  go_wp2
  refine wp_loop_rounds 11 ?_
  rw [rounds_succ]; go_wp2
  rw [rounds_succ]; go_wp2
  rw [rounds_succ]; go_wp2
  rw [rounds_succ]; go_wp2
  rw [rounds_succ]; go_wp2
  rw [rounds_succ]; go_wp2
  rw [rounds_succ]; go_wp2
  rw [rounds_succ]; go_wp2
  rw [rounds_succ]; go_wp2
  rw [rounds_succ]; go_wp2
  rw [rounds_succ]; go_wp2
  go_wp2_with (first | (go_at_call 63; refine (reckons_5 _).mono ?_; rintro e w' ⟨rfl, rfl⟩) | (go_at_call 46; refine (jumps_5 _).mono ?_; rintro e w' ⟨rfl, rfl⟩) | (go_at_call 47; refine (ends_5 _).mono ?_; rintro e w' ⟨rfl, rfl⟩))
  go_ret
  exact ⟨rfl, below_alloc _ _⟩
set_option maxRecDepth 100000 in
set_option maxHeartbeats 4000000 in
theorem known_6 (w : World) : Calls Try.prog 45 #[.int .u16 6] w (Ret (.bool true) w) := by
  have x0 : ∀ w, (Instr.index 125 (.agg singles) (.int .i64 0)).run Try.prog w = .ok (.int .u16 32) w := fun w => run_index_one 125 10 singles 0 _ under125 (by decide) rfl
  have x1 : ∀ w, (Instr.index 125 (.agg singles) (.int .i64 1)).run Try.prog w = .ok (.int .u16 0) w := fun w => run_index_one 125 10 singles 1 _ under125 (by decide) rfl
  have x2 : ∀ w, (Instr.index 125 (.agg singles) (.int .i64 2)).run Try.prog w = .ok (.int .u16 1) w := fun w => run_index_one 125 10 singles 2 _ under125 (by decide) rfl
  have x3 : ∀ w, (Instr.index 125 (.agg singles) (.int .i64 3)).run Try.prog w = .ok (.int .u16 96) w := fun w => run_index_one 125 10 singles 3 _ under125 (by decide) rfl
  have x4 : ∀ w, (Instr.index 125 (.agg singles) (.int .i64 4)).run Try.prog w = .ok (.int .u16 97) w := fun w => run_index_one 125 10 singles 4 _ under125 (by decide) rfl
  have x5 : ∀ w, (Instr.index 125 (.agg singles) (.int .i64 5)).run Try.prog w = .ok (.int .u16 2) w := fun w => run_index_one 125 10 singles 5 _ under125 (by decide) rfl
  have x6 : ∀ w, (Instr.index 125 (.agg singles) (.int .i64 6)).run Try.prog w = .ok (.int .u16 3) w := fun w => run_index_one 125 10 singles 6 _ under125 (by decide) rfl
  have x7 : ∀ w, (Instr.index 125 (.agg singles) (.int .i64 7)).run Try.prog w = .ok (.int .u16 132) w := fun w => run_index_one 125 10 singles 7 _ under125 (by decide) rfl
  have x8 : ∀ w, (Instr.index 125 (.agg singles) (.int .i64 8)).run Try.prog w = .ok (.int .u16 7) w := fun w => run_index_one 125 10 singles 8 _ under125 (by decide) rfl
  have x9 : ∀ w, (Instr.index 125 (.agg singles) (.int .i64 9)).run Try.prog w = .ok (.int .u16 135) w := fun w => run_index_one 125 10 singles 9 _ under125 (by decide) rfl
  simp only [singles] at x0 x1 x2 x3 x4 x5 x6 x7 x8 x9
  go_enter Try.func45, Try.ntmps45
  go_wp2
  refine wp_loop_rounds 11 ?_
  rw [rounds_succ]; go_wp2
  rw [rounds_succ]; go_wp2
  rw [rounds_succ]; go_wp2
  rw [rounds_succ]; go_wp2
  rw [rounds_succ]; go_wp2
  rw [rounds_succ]; go_wp2
  rw [rounds_succ]; go_wp2
  rw [rounds_succ]; go_wp2
  rw [rounds_succ]; go_wp2
  rw [rounds_succ]; go_wp2
  rw [rounds_succ]; go_wp2
  go_wp2_with (first | (go_at_call 63; refine (reckons_6 _).mono ?_; rintro e w' ⟨rfl, rfl⟩) | (go_at_call 46; refine (jumps_6 _).mono ?_; rintro e w' ⟨rfl, rfl⟩) | (go_at_call 47; refine (ends_6 _).mono ?_; rintro e w' ⟨rfl, rfl⟩))
  go_ret
  exact ⟨rfl, below_alloc _ _⟩
end Go.Proofs.Ytjmmbadpknlmcaa
end
section
/- What is wrong with a fine instruction: nothing. Conditions: it is fine. -/
namespace Go.Proofs.Ytjmmbadpknlmcaa
open Go.RowKit
set_option linter.unusedVariables false
set_option linter.unusedSimpArgs false

set_option maxRecDepth 100000 in
set_option maxHeartbeats 4000000 in
theorem wrong_32 (jt jf k b : Int) (hk0 : 0 ≤ k) (hk4 : k % 4 = 0) (hk : k < 64) (hb : 0 < b) (w : World) : Calls Try.prog 26 #[.agg #[.int .u16 32, .int .u8 jt, .int .u8 jf, .int .u32 k], .int .i64 b] w (Ret (.int .i64 0) w) := by
  have r0 := new_cell w #[.int .u16 32, .int .u8 jt, .int .u8 jf, .int .u32 k] 70 0 rfl
  have r1 := new_cell w #[.int .u16 32, .int .u8 jt, .int .u8 jf, .int .u32 k] 70 1 rfl
  have r2 := new_cell w #[.int .u16 32, .int .u8 jt, .int .u8 jf, .int .u32 k] 70 2 rfl
  have r3 := new_cell w #[.int .u16 32, .int .u8 jt, .int .u8 jf, .int .u32 k] 70 3 rfl
  have hb0 := below_alloc w (.cells #[.int .u16 32, .int .u8 jt, .int .u8 jf, .int .u32 k] 70)
  have e1 : k.tmod 4 = 0 := by rw [Int.tmod_eq_emod_of_nonneg hk0]; exact hk4
  have e2 : (b = 0) = False := eq_false (by omega)
  have e3 : (64 ≤ k) = False := eq_false (by omega)
  go_enter Try.func26, Try.ntmps26
  go_wp2_with (first | (go_at_call 45; (with_reducible refine (known_32 _).mono ?_); rintro e_ w1 ⟨rfl, hb1⟩; have d0 := keep_cell hb1 r0; have d1 := keep_cell hb1 r1; have d2 := keep_cell hb1 r2; have d3 := keep_cell hb1 r3; clear r0 r1 r2 r3) | (go_at_call 46; (with_reducible refine (jumps_32 _).mono ?_); rintro e_ w2 ⟨rfl, rfl⟩) | (go_at_call 47; (with_reducible refine (ends_32 _).mono ?_); rintro e_ w2 ⟨rfl, rfl⟩))
  all_goals
    go_ret
    exact ⟨rfl, hb0.trans (hb1.mono hb0.size)⟩
set_option maxRecDepth 100000 in
set_option maxHeartbeats 4000000 in
theorem wrong_84 (jt jf k b : Int) (hb : 0 < b) (w : World) : Calls Try.prog 26 #[.agg #[.int .u16 84, .int .u8 jt, .int .u8 jf, .int .u32 k], .int .i64 b] w (Ret (.int .i64 0) w) := by
  have r0 := new_cell w #[.int .u16 84, .int .u8 jt, .int .u8 jf, .int .u32 k] 70 0 rfl
  have r1 := new_cell w #[.int .u16 84, .int .u8 jt, .int .u8 jf, .int .u32 k] 70 1 rfl
  have r2 := new_cell w #[.int .u16 84, .int .u8 jt, .int .u8 jf, .int .u32 k] 70 2 rfl
  have r3 := new_cell w #[.int .u16 84, .int .u8 jt, .int .u8 jf, .int .u32 k] 70 3 rfl
  have hb0 := below_alloc w (.cells #[.int .u16 84, .int .u8 jt, .int .u8 jf, .int .u32 k] 70)
  have e2 : (b = 0) = False := eq_false (by omega)
  go_enter Try.func26, Try.ntmps26
  go_wp2_with (first | (go_at_call 45; (with_reducible refine (known_84 _).mono ?_); rintro e_ w1 ⟨rfl, hb1⟩; have d0 := keep_cell hb1 r0; have d1 := keep_cell hb1 r1; have d2 := keep_cell hb1 r2; have d3 := keep_cell hb1 r3; clear r0 r1 r2 r3) | (go_at_call 46; (with_reducible refine (jumps_84 _).mono ?_); rintro e_ w2 ⟨rfl, rfl⟩) | (go_at_call 47; (with_reducible refine (ends_84 _).mono ?_); rintro e_ w2 ⟨rfl, rfl⟩))
  all_goals
    go_ret
    exact ⟨rfl, hb0.trans (hb1.mono hb0.size)⟩
set_option maxRecDepth 100000 in
set_option maxHeartbeats 4000000 in
theorem wrong_21 (jt jf k b : Int) (hjt0 : 0 ≤ jt) (hjf0 : 0 ≤ jf) (hjt1 : jt < 256) (hjf1 : jf < 256) (hjt : jt < b) (hjf : jf < b) (w : World) : Calls Try.prog 26 #[.agg #[.int .u16 21, .int .u8 jt, .int .u8 jf, .int .u32 k], .int .i64 b] w (Ret (.int .i64 0) w) := by
  have r0 := new_cell w #[.int .u16 21, .int .u8 jt, .int .u8 jf, .int .u32 k] 70 0 rfl
  have r1 := new_cell w #[.int .u16 21, .int .u8 jt, .int .u8 jf, .int .u32 k] 70 1 rfl
  have r2 := new_cell w #[.int .u16 21, .int .u8 jt, .int .u8 jf, .int .u32 k] 70 2 rfl
  have r3 := new_cell w #[.int .u16 21, .int .u8 jt, .int .u8 jf, .int .u32 k] 70 3 rfl
  have hb0 := below_alloc w (.cells #[.int .u16 21, .int .u8 jt, .int .u8 jf, .int .u32 k] 70)
  have e2 : (b = 0) = False := eq_false (by omega)
  have e3 : IntKind.i64.wrap jt = jt := IntWalk.i64_in _ (by omega)
  have e4 : IntKind.i64.wrap jf = jf := IntWalk.i64_in _ (by omega)
  have e5 : ¬ b ≤ max jt jf := by omega
  go_enter Try.func26, Try.ntmps26
  go_wp2_with (first | (go_at_call 45; (with_reducible refine (known_21 _).mono ?_); rintro e_ w1 ⟨rfl, hb1⟩; have d0 := keep_cell hb1 r0; have d1 := keep_cell hb1 r1; have d2 := keep_cell hb1 r2; have d3 := keep_cell hb1 r3; clear r0 r1 r2 r3) | (go_at_call 46; (with_reducible refine (jumps_21 _).mono ?_); rintro e_ w2 ⟨rfl, rfl⟩) | (go_at_call 47; (with_reducible refine (ends_21 _).mono ?_); rintro e_ w2 ⟨rfl, rfl⟩))
  all_goals
    go_ret
    exact ⟨rfl, hb0.trans (hb1.mono hb0.size)⟩
set_option maxRecDepth 100000 in
set_option maxHeartbeats 4000000 in
theorem wrong_37 (jt jf k b : Int) (hjt0 : 0 ≤ jt) (hjf0 : 0 ≤ jf) (hjt1 : jt < 256) (hjf1 : jf < 256) (hjt : jt < b) (hjf : jf < b) (w : World) : Calls Try.prog 26 #[.agg #[.int .u16 37, .int .u8 jt, .int .u8 jf, .int .u32 k], .int .i64 b] w (Ret (.int .i64 0) w) := by
  have r0 := new_cell w #[.int .u16 37, .int .u8 jt, .int .u8 jf, .int .u32 k] 70 0 rfl
  have r1 := new_cell w #[.int .u16 37, .int .u8 jt, .int .u8 jf, .int .u32 k] 70 1 rfl
  have r2 := new_cell w #[.int .u16 37, .int .u8 jt, .int .u8 jf, .int .u32 k] 70 2 rfl
  have r3 := new_cell w #[.int .u16 37, .int .u8 jt, .int .u8 jf, .int .u32 k] 70 3 rfl
  have hb0 := below_alloc w (.cells #[.int .u16 37, .int .u8 jt, .int .u8 jf, .int .u32 k] 70)
  have e2 : (b = 0) = False := eq_false (by omega)
  have e3 : IntKind.i64.wrap jt = jt := IntWalk.i64_in _ (by omega)
  have e4 : IntKind.i64.wrap jf = jf := IntWalk.i64_in _ (by omega)
  have e5 : ¬ b ≤ max jt jf := by omega
  go_enter Try.func26, Try.ntmps26
  go_wp2_with (first | (go_at_call 45; (with_reducible refine (known_37 _).mono ?_); rintro e_ w1 ⟨rfl, hb1⟩; have d0 := keep_cell hb1 r0; have d1 := keep_cell hb1 r1; have d2 := keep_cell hb1 r2; have d3 := keep_cell hb1 r3; clear r0 r1 r2 r3) | (go_at_call 46; (with_reducible refine (jumps_37 _).mono ?_); rintro e_ w2 ⟨rfl, rfl⟩) | (go_at_call 47; (with_reducible refine (ends_37 _).mono ?_); rintro e_ w2 ⟨rfl, rfl⟩))
  all_goals
    go_ret
    exact ⟨rfl, hb0.trans (hb1.mono hb0.size)⟩
set_option maxRecDepth 100000 in
set_option maxHeartbeats 4000000 in
theorem wrong_53 (jt jf k b : Int) (hjt0 : 0 ≤ jt) (hjf0 : 0 ≤ jf) (hjt1 : jt < 256) (hjf1 : jf < 256) (hjt : jt < b) (hjf : jf < b) (w : World) : Calls Try.prog 26 #[.agg #[.int .u16 53, .int .u8 jt, .int .u8 jf, .int .u32 k], .int .i64 b] w (Ret (.int .i64 0) w) := by
  have r0 := new_cell w #[.int .u16 53, .int .u8 jt, .int .u8 jf, .int .u32 k] 70 0 rfl
  have r1 := new_cell w #[.int .u16 53, .int .u8 jt, .int .u8 jf, .int .u32 k] 70 1 rfl
  have r2 := new_cell w #[.int .u16 53, .int .u8 jt, .int .u8 jf, .int .u32 k] 70 2 rfl
  have r3 := new_cell w #[.int .u16 53, .int .u8 jt, .int .u8 jf, .int .u32 k] 70 3 rfl
  have hb0 := below_alloc w (.cells #[.int .u16 53, .int .u8 jt, .int .u8 jf, .int .u32 k] 70)
  have e2 : (b = 0) = False := eq_false (by omega)
  have e3 : IntKind.i64.wrap jt = jt := IntWalk.i64_in _ (by omega)
  have e4 : IntKind.i64.wrap jf = jf := IntWalk.i64_in _ (by omega)
  have e5 : ¬ b ≤ max jt jf := by omega
  go_enter Try.func26, Try.ntmps26
  go_wp2_with (first | (go_at_call 45; (with_reducible refine (known_53 _).mono ?_); rintro e_ w1 ⟨rfl, hb1⟩; have d0 := keep_cell hb1 r0; have d1 := keep_cell hb1 r1; have d2 := keep_cell hb1 r2; have d3 := keep_cell hb1 r3; clear r0 r1 r2 r3) | (go_at_call 46; (with_reducible refine (jumps_53 _).mono ?_); rintro e_ w2 ⟨rfl, rfl⟩) | (go_at_call 47; (with_reducible refine (ends_53 _).mono ?_); rintro e_ w2 ⟨rfl, rfl⟩))
  all_goals
    go_ret
    exact ⟨rfl, hb0.trans (hb1.mono hb0.size)⟩
set_option maxRecDepth 100000 in
set_option maxHeartbeats 4000000 in
theorem wrong_5 (jt jf k b : Int) (hk0 : 0 ≤ k) (hk : k < b) (hb : b < 4294967296) (w : World) : Calls Try.prog 26 #[.agg #[.int .u16 5, .int .u8 jt, .int .u8 jf, .int .u32 k], .int .i64 b] w (Ret (.int .i64 0) w) := by
  have r0 := new_cell w #[.int .u16 5, .int .u8 jt, .int .u8 jf, .int .u32 k] 70 0 rfl
  have r1 := new_cell w #[.int .u16 5, .int .u8 jt, .int .u8 jf, .int .u32 k] 70 1 rfl
  have r2 := new_cell w #[.int .u16 5, .int .u8 jt, .int .u8 jf, .int .u32 k] 70 2 rfl
  have r3 := new_cell w #[.int .u16 5, .int .u8 jt, .int .u8 jf, .int .u32 k] 70 3 rfl
  have hb0 := below_alloc w (.cells #[.int .u16 5, .int .u8 jt, .int .u8 jf, .int .u32 k] 70)
  have e2 : (b = 0) = False := eq_false (by omega)
  have e3 : IntKind.u64.wrap k = k := by rw [IntKind.wrap_u64]; omega
  have e4 : IntKind.u64.wrap b = b := by rw [IntKind.wrap_u64]; omega
  have e5 : ¬ b ≤ k := by omega
  go_enter Try.func26, Try.ntmps26
  go_wp2_with (first | (go_at_call 45; (with_reducible refine (known_5 _).mono ?_); rintro e_ w1 ⟨rfl, hb1⟩; have d0 := keep_cell hb1 r0; have d1 := keep_cell hb1 r1; have d2 := keep_cell hb1 r2; have d3 := keep_cell hb1 r3; clear r0 r1 r2 r3) | (go_at_call 46; (with_reducible refine (jumps_5 _).mono ?_); rintro e_ w2 ⟨rfl, rfl⟩) | (go_at_call 47; (with_reducible refine (ends_5 _).mono ?_); rintro e_ w2 ⟨rfl, rfl⟩))
  all_goals
    go_ret
    exact ⟨rfl, hb0.trans (hb1.mono hb0.size)⟩
set_option maxRecDepth 100000 in
set_option maxHeartbeats 4000000 in
theorem wrong_6 (jt jf k b : Int) (hb : 0 ≤ b) (w : World) : Calls Try.prog 26 #[.agg #[.int .u16 6, .int .u8 jt, .int .u8 jf, .int .u32 k], .int .i64 b] w (Ret (.int .i64 0) w) := by
  have r0 := new_cell w #[.int .u16 6, .int .u8 jt, .int .u8 jf, .int .u32 k] 70 0 rfl
  have r1 := new_cell w #[.int .u16 6, .int .u8 jt, .int .u8 jf, .int .u32 k] 70 1 rfl
  have r2 := new_cell w #[.int .u16 6, .int .u8 jt, .int .u8 jf, .int .u32 k] 70 2 rfl
  have r3 := new_cell w #[.int .u16 6, .int .u8 jt, .int .u8 jf, .int .u32 k] 70 3 rfl
  have hb0 := below_alloc w (.cells #[.int .u16 6, .int .u8 jt, .int .u8 jf, .int .u32 k] 70)
  go_enter Try.func26, Try.ntmps26
  go_wp2_with (first | (go_at_call 45; (with_reducible refine (known_6 _).mono ?_); rintro e_ w1 ⟨rfl, hb1⟩; have d0 := keep_cell hb1 r0; have d1 := keep_cell hb1 r1; have d2 := keep_cell hb1 r2; have d3 := keep_cell hb1 r3; clear r0 r1 r2 r3) | (go_at_call 46; (with_reducible refine (jumps_6 _).mono ?_); rintro e_ w2 ⟨rfl, rfl⟩) | (go_at_call 47; (with_reducible refine (ends_6 _).mono ?_); rintro e_ w2 ⟨rfl, rfl⟩))
  all_goals
    go_ret
    exact ⟨rfl, hb0.trans (hb1.mono hb0.size)⟩
end Go.Proofs.Ytjmmbadpknlmcaa
end
section
/- Check: a program whose instructions are fine may be run. Conditions: they are fine; there are from 1 to 4096 of them. -/
namespace Go.Proofs.Ytjmmbadpknlmcaa
open Go.RowKit
set_option linter.unusedVariables false
set_option linter.unusedSimpArgs false
set_option maxRecDepth 100000

/-- An instruction of a program of rules, of which so many stand behind: nothing is wrong with it. -/
def FineI (i : Ins) (b : Int) : Prop :=
  (i.c = 32 ∧ 0 ≤ i.k ∧ i.k % 4 = 0 ∧ i.k < 64 ∧ 0 < b) ∨ (i.c = 84 ∧ 0 ≤ i.k ∧ i.k < 4294967296 ∧ 0 < b) ∨ ((i.c = 21 ∨ i.c = 37 ∨ i.c = 53) ∧ 0 ≤ i.jt ∧ 0 ≤ i.jf ∧ i.jt < 256 ∧ i.jf < 256 ∧ i.jt < b ∧ i.jf < b) ∨ (i.c = 5 ∧ 0 ≤ i.k ∧ i.k < b) ∨ i.c = 6
def FineP (l : List Ins) : Prop := ∀ (n : Nat) i, l[n]? = some i → FineI i ((l.length : Int) - 1 - n)
theorem wrong_fine {i : Ins} {b : Int} (h : FineI i b) (h0 : 0 ≤ b) (hb : b < 4294967296) (w : World) : Calls Try.prog 26 #[.agg i.cells, .int .i64 b] w (Ret (.int .i64 0) w) := by
  obtain ⟨c, jt, jf, k⟩ := i
  unfold FineI at h
  simp only [Ins.cells] at h ⊢
  rcases h with ⟨rfl, h1, h2, h3, h4⟩ | ⟨rfl, h1, h2, h4⟩ | ⟨rfl | rfl | rfl, h1, h2, h3, h4, h5, h6⟩ | ⟨rfl, h1, h2⟩ | rfl
  · exact wrong_32 jt jf k b h1 h2 h3 h4 w
  · exact wrong_84 jt jf k b h4 w
  · exact wrong_21 jt jf k b h1 h2 h3 h4 h5 h6 w
  · exact wrong_37 jt jf k b h1 h2 h3 h4 h5 h6 w
  · exact wrong_53 jt jf k b h1 h2 h3 h4 h5 h6 w
  · exact wrong_5 jt jf k b h1 h2 hb w
  · exact wrong_6 jt jf k b h0 w
theorem rd_cells {w : World} {A : Option Addr} {n c : Nat} {l : List Ins} (h : InsRd w (.slice A n c) l) {j : Nat} {x : Ins} (hx : l[j]? = some x) : ∃ g o, A = some ⟨g, o, none⟩ ∧ w.cell? ⟨g, o + j * 4, none⟩ = some (.int .u16 x.c) ∧ w.cell? ⟨g, o + j * 4 + 1, none⟩ = some (.int .u8 x.jt) ∧ w.cell? ⟨g, o + j * 4 + 2, none⟩ = some (.int .u8 x.jf) ∧ w.cell? ⟨g, o + j * 4 + 3, none⟩ = some (.int .u32 x.k) := by
  obtain ⟨A', c', e, h1, h2, h3⟩ := h
  injection e with e1 e2 e3
  subst e1
  have hlt := (List.getElem?_eq_some_iff.1 hx).1
  obtain ⟨g, o, e4, hc⟩ := h3 (by omega)
  have q := fun (j' : Nat) (hj : j' < 4) u (hu : x.cells.toList[j']? = some u) => hc (j * 4 + j') u (by rw [rowI_at hx hj]; exact hu)
  exact ⟨g, o, e4, q 0 (by omega) _ rfl, q 1 (by omega) _ rfl, q 2 (by omega) _ rfl, q 3 (by omega) _ rfl⟩
theorem rd_len {w : World} {A : Option Addr} {n c : Nat} {l : List Ins} (h : InsRd w (.slice A n c) l) : n = l.length := by
  obtain ⟨A', c', e, _⟩ := h
  injection e
set_option maxHeartbeats 4000000 in
theorem check_fine (v : Value) (l : List Ins) (w : World) (hrd : InsRd w v l) (hf : FineP l) (h0 : 0 < l.length) (h1 : l.length ≤ 4096) : Calls Try.prog 13 #[v] w (Ret (.tuple #[.int .i64 0, .int .i64 (-1)]) w) := by
  obtain ⟨A, c, rfl⟩ : ∃ A c, v = .slice A l.length c := by obtain ⟨A, c, e, _⟩ := hrd; exact ⟨A, c, e⟩
  obtain ⟨n, hn⟩ : ∃ n, l.length = n := ⟨_, rfl⟩
  have HR : Hid (InsRd w (.slice A n c) l) := Lib.hid (by rw [← hn]; exact hrd)
  have HF := Lib.hid hf
  have Hn := Lib.hid hn
  rw [hn] at h0 h1 ⊢
  clear hrd hf hn
  have e0 : ((n : Int) == 0) = false := by simp; omega
  have e1 : (4096 < (n : Int)) = False := eq_false (by omega)
  have e2 : (n = 0) = False := eq_false (by omega)
  have e3 : IntKind.i64.wrap ((n : Int) - 1) = (n : Int) - 1 := IntWalk.i64_in _ (by omega)
  go_enter Try.func13, Try.ntmps13
  go_wp2
  go_step3
  go_wp2
  go_step3
  go_wp2
  go_loopw [4, 5, 17] (fun f a i wr => ∃ j : Nat, j ≤ n ∧ f = .int .i64 0 ∧ a = .int .i64 (-1) ∧ i = .int .i64 j ∧ Below w.heap.size w wr) (fun _ _ i _ => n - (intOf i).toNat)
  case atStart => exact ⟨0, by omega, rfl, rfl, rfl, Below.refl _ _⟩
  case round =>
    obtain ⟨j, hj, rfl, rfl, rfl, hb⟩ := hrel
    by_cases hlt : j < n
    case neg =>
      obtain rfl : j = n := by omega
      go_wp2
      (try rw [Exit.noGoto_ret])
      go_ret2
      exact ⟨rfl, hb⟩
    obtain ⟨x, hx⟩ : ∃ x, l[j]? = some x := ⟨_, List.getElem?_eq_getElem (by rw [Hn.out]; omega)⟩
    obtain ⟨g, o, rfl, q0, q1, q2, q3⟩ := rd_cells (HR.out.below hb) hx
    have hlt' : (j : Int) < n := by omega
    have hw : IntKind.i64.wrap ((n : Int) - 1 - j) = (n : Int) - 1 - j := IntWalk.i64_in _ (by omega)
    have C := Lib.hid (fun W => wrong_fine (HF.out j x hx) (by rw [Hn.out]; omega) (by rw [Hn.out]; omega) W)
    rw [Hn.out] at C
    obtain ⟨xc, xt, xf, xk⟩ := x
    simp only [Ins.cells] at q0 q1 q2 q3 C
    have hal := below_alloc wr (.cells #[.int .u16 xc, .int .u8 xt, .int .u8 xf, .int .u32 xk] 70)
    clear hx
    go_wp2_with (go_at_call 26; (with_reducible refine (C.out _).mono ?_); rintro e w5 ⟨rfl, hb5⟩)
    go_roundw
    case rel => exact ⟨j + 1, by omega, rfl, rfl, by go_num, (hb.trans (hal.mono hb.size)).trans (hb5.mono (Nat.le_trans hb.size hal.size))⟩
    case measure => (simp [intOf] <;> omega)
end Go.Proofs.Ytjmmbadpknlmcaa
end
section
/- The words of a call, and the one at a place. Conditions: the place is one. -/
namespace Go.Proofs.Ytjmmbadpknlmcaa
open Go.RowKit
set_option linter.unusedVariables false
set_option linter.unusedSimpArgs false
set_option maxRecDepth 100000
attribute [local go_sem ↓] Go.wp_at_zero Go.wp_at_succ

/-- A call. -/
structure Dat where
  nr : Int
  ar : Int
  ip : Int
  x0 : Int
  x1 : Int
  x2 : Int
  x3 : Int
  x4 : Int
  x5 : Int
def Dat.arr (d : Dat) : Array Value := #[.int .u32 d.nr, .int .u32 d.ar, .int .u64 d.ip, .int .u64 d.x0, .int .u64 d.x1, .int .u64 d.x2, .int .u64 d.x3, .int .u64 d.x4, .int .u64 d.x5]
/-- Its words. -/
def Dat.words (d : Dat) : List Int := [d.nr, d.ar, lo d.ip, hi d.ip, lo d.x0, hi d.x0, lo d.x1, hi d.x1, lo d.x2, hi d.x2, lo d.x3, hi d.x3, lo d.x4, hi d.x4, lo d.x5, hi d.x5]
def Dat.wordsA (d : Dat) : Array Value := #[.int .u32 d.nr, .int .u32 d.ar, .int .u32 (lo d.ip), .int .u32 (hi d.ip), .int .u32 (lo d.x0), .int .u32 (hi d.x0), .int .u32 (lo d.x1), .int .u32 (hi d.x1), .int .u32 (lo d.x2), .int .u32 (hi d.x2), .int .u32 (lo d.x3), .int .u32 (hi d.x3), .int .u32 (lo d.x4), .int .u32 (hi d.x4), .int .u32 (lo d.x5), .int .u32 (hi d.x5)]
theorem under46 : Try.prog.underlying 46 = some (.array 6 38) := by kernel_rfl
theorem under154 : Try.prog.underlying 154 = some (.array 16 45) := by kernel_rfl
theorem under38 : Try.prog.underlying 38 = some (.int .u64) := by kernel_rfl
theorem under45 : Try.prog.underlying 45 = some (.int .u32) := by kernel_rfl
theorem info38 : (Try.prog.info? 38).map (fun i => (i.zero, i.size, i.bytes)) = some (some (.int .u64 0), 1, 8) := by kernel_rfl
theorem info45 : (Try.prog.info? 45).map (fun i => (i.zero, i.size, i.bytes)) = some (some (.int .u32 0), 1, 4) := by kernel_rfl
theorem run_index_k {w : World} (t e : TypeId) (k : IntKind) (kk : IntKind) (n : Nat) (cs : Array Value) (i : Nat) (v : Value) {z : Option Value} {b : Nat} (h : Try.prog.underlying t = some (.array n e)) (hu : Try.prog.underlying e = some (.int k)) (hin : (Try.prog.info? e).map (fun i => (i.zero, i.size, i.bytes)) = some (z, 1, b)) (hce : Try.prog.cellsOf e = 1) (hi : i < n) (hv : cs[i]? = some v) :
    (Instr.index t (.agg cs) (.int kk (i : Int))).run Try.prog w = .ok v w := by
  have h0 : (0 : Int) ≤ i ∧ (i : Int) < n := by omega
  cases hi0 : Try.prog.info? e with
  | none => rw [hi0] at hin; simp at hin
  | some i0 => simp [Instr.index, run_underlying h, asIntOf, h0, hi, go_sem, part, isAgg, run_underlying hu, run_sizeOf w hi0, hce, hv]
set_option maxHeartbeats 8000000 in
theorem laid_any (nr ar ip x0 x1 x2 x3 x4 x5 : Int) (w : World) : Calls Try.prog 95 #[.agg #[.int .u32 nr, .int .u32 ar, .int .u64 ip, .int .u64 x0, .int .u64 x1, .int .u64 x2, .int .u64 x3, .int .u64 x4, .int .u64 x5]] w (Ret (.agg (Dat.wordsA ⟨nr, ar, ip, x0, x1, x2, x3, x4, x5⟩)) w) := by
  have y0 : ∀ w, (Instr.index 46 (.agg #[.int .u64 x0, .int .u64 x1, .int .u64 x2, .int .u64 x3, .int .u64 x4, .int .u64 x5]) (.int .i64 0)).run Try.prog w = .ok (.int .u64 x0) w := fun w => run_index_k 46 38 .u64 .i64 6 _ 0 _ under46 under38 info38 cells38 (by decide) rfl
  have y1 : ∀ w, (Instr.index 46 (.agg #[.int .u64 x0, .int .u64 x1, .int .u64 x2, .int .u64 x3, .int .u64 x4, .int .u64 x5]) (.int .i64 1)).run Try.prog w = .ok (.int .u64 x1) w := fun w => run_index_k 46 38 .u64 .i64 6 _ 1 _ under46 under38 info38 cells38 (by decide) rfl
  have y2 : ∀ w, (Instr.index 46 (.agg #[.int .u64 x0, .int .u64 x1, .int .u64 x2, .int .u64 x3, .int .u64 x4, .int .u64 x5]) (.int .i64 2)).run Try.prog w = .ok (.int .u64 x2) w := fun w => run_index_k 46 38 .u64 .i64 6 _ 2 _ under46 under38 info38 cells38 (by decide) rfl
  have y3 : ∀ w, (Instr.index 46 (.agg #[.int .u64 x0, .int .u64 x1, .int .u64 x2, .int .u64 x3, .int .u64 x4, .int .u64 x5]) (.int .i64 3)).run Try.prog w = .ok (.int .u64 x3) w := fun w => run_index_k 46 38 .u64 .i64 6 _ 3 _ under46 under38 info38 cells38 (by decide) rfl
  have y4 : ∀ w, (Instr.index 46 (.agg #[.int .u64 x0, .int .u64 x1, .int .u64 x2, .int .u64 x3, .int .u64 x4, .int .u64 x5]) (.int .i64 4)).run Try.prog w = .ok (.int .u64 x4) w := fun w => run_index_k 46 38 .u64 .i64 6 _ 4 _ under46 under38 info38 cells38 (by decide) rfl
  have y5 : ∀ w, (Instr.index 46 (.agg #[.int .u64 x0, .int .u64 x1, .int .u64 x2, .int .u64 x3, .int .u64 x4, .int .u64 x5]) (.int .i64 5)).run Try.prog w = .ok (.int .u64 x5) w := fun w => run_index_k 46 38 .u64 .i64 6 _ 5 _ under46 under38 info38 cells38 (by decide) rfl
  have hb0 := below_alloc w (.cells #[.int .u32 nr, .int .u32 ar, .int .u64 ip, .int .u64 x0, .int .u64 x1, .int .u64 x2, .int .u64 x3, .int .u64 x4, .int .u64 x5] 48)
  go_enter Try.func95, Try.ntmps95
  go_wp2_with (go_at_call 58; refine (halves_any _ _).mono ?_; rintro e_ w' ⟨rfl, rfl⟩)
  refine wp_loop_rounds 7 ?_
  rw [rounds_succ]; go_wp2_with (go_at_call 58; refine (halves_any _ _).mono ?_; rintro e_ w' ⟨rfl, rfl⟩)
  rw [rounds_succ]; go_wp2_with (go_at_call 58; refine (halves_any _ _).mono ?_; rintro e_ w' ⟨rfl, rfl⟩)
  rw [rounds_succ]; go_wp2_with (go_at_call 58; refine (halves_any _ _).mono ?_; rintro e_ w' ⟨rfl, rfl⟩)
  rw [rounds_succ]; go_wp2_with (go_at_call 58; refine (halves_any _ _).mono ?_; rintro e_ w' ⟨rfl, rfl⟩)
  rw [rounds_succ]; go_wp2_with (go_at_call 58; refine (halves_any _ _).mono ?_; rintro e_ w' ⟨rfl, rfl⟩)
  rw [rounds_succ]; go_wp2_with (go_at_call 58; refine (halves_any _ _).mono ?_; rintro e_ w' ⟨rfl, rfl⟩)
  rw [rounds_succ]; go_wp2_with (go_at_call 58; refine (halves_any _ _).mono ?_; rintro e_ w' ⟨rfl, rfl⟩)
  refine bodyPost_ret (v := .agg (Dat.wordsA ⟨nr, ar, ip, x0, x1, x2, x3, x4, x5⟩)) (by simp [results, Try.results95, go_sem, Dat.wordsA]) rfl (ret_val rfl ?_)
  repeat (first | exact Below.refl _ _ | (refine Below.alloc ?_ (by simp; try omega) _) | (refine Below.setCell ?_ (by simp; try omega) _) | apply Below.drew)
/-- The word at a place. -/
def Dat.word (d : Dat) (k : Int) : Int := d.words.getD (k / 4).toNat 0
theorem words_at (d : Dat) (i : Nat) (h : i < 16) : d.wordsA[i]? = some (.int .u32 (d.words.getD i 0)) := by
  have : i = 0 ∨ i = 1 ∨ i = 2 ∨ i = 3 ∨ i = 4 ∨ i = 5 ∨ i = 6 ∨ i = 7 ∨ i = 8 ∨ i = 9 ∨ i = 10 ∨ i = 11 ∨ i = 12 ∨ i = 13 ∨ i = 14 ∨ i = 15 := by omega
  rcases this with rfl | rfl | rfl | rfl | rfl | rfl | rfl | rfl | rfl | rfl | rfl | rfl | rfl | rfl | rfl | rfl <;> rfl
theorem load_at (d : Dat) (k : Int) (h0 : 0 ≤ k) (h4 : k % 4 = 0) (h64 : k < 64) (w : World) : Calls Try.prog 84 #[.agg d.arr, .int .u32 k] w (Ret (.tuple #[.int .u32 (d.word k), .int .i64 0]) w) := by
  obtain ⟨i, rfl⟩ : ∃ i : Nat, k = 4 * (i : Int) := ⟨(k / 4).toNat, by omega⟩
  have hi : i < 16 := by omega
  have e1 : (4 * (i : Int)).tmod 4 = 0 := by rw [Int.tmod_eq_emod_of_nonneg h0]; exact h4
  have e2 : (64 ≤ 4 * (i : Int)) = False := eq_false (by omega)
  have e3 : (4 * (i : Int)).tdiv 4 = (i : Int) := by rw [Int.tdiv_eq_ediv_of_nonneg h0]; omega
  have hx : ∀ w, (Instr.index 154 (.agg d.wordsA) (.int .u32 (i : Int))).run Try.prog w = .ok (.int .u32 (d.words.getD i 0)) w := fun w => run_index_k 154 45 .u32 .u32 16 _ i _ under154 under45 info45 cells45 hi (words_at d i hi)
  have hw : d.word (4 * (i : Int)) = d.words.getD i 0 := by unfold Dat.word; congr 1; omega
  rw [hw]
  obtain ⟨z, hz⟩ : ∃ z, d.words.getD i 0 = z := ⟨_, rfl⟩
  rw [hz] at hx ⊢
  have L := Lib.hid (fun W => laid_any d.nr d.ar d.ip d.x0 d.x1 d.x2 d.x3 d.x4 d.x5 W)
  have hA : Dat.wordsA ⟨d.nr, d.ar, d.ip, d.x0, d.x1, d.x2, d.x3, d.x4, d.x5⟩ = d.wordsA := rfl
  rw [hA] at L
  obtain ⟨A, hAA⟩ : ∃ A, d.wordsA = A := ⟨_, rfl⟩
  rw [hAA] at L hx
  have hb0 := below_alloc w (.cells d.arr 48)
  unfold Dat.arr at hb0 ⊢
  clear hz hw hA hAA h64
  go_enter Try.func84, Try.ntmps84
  go_wp2_with (go_at_call 95; (with_reducible refine (L.out _).mono ?_); rintro e_ w1 ⟨rfl, hb1⟩)
  go_ret2
  exact ⟨rfl, hb0.trans (hb1.mono hb0.size)⟩
end Go.Proofs.Ytjmmbadpknlmcaa
end
section
/- The machine: what a step does, at the codes of a program of rules. Conditions: the instruction is fine. -/
namespace Go.Proofs.Ytjmmbadpknlmcaa
open Go.RowKit
set_option linter.unusedVariables false
set_option linter.unusedSimpArgs false
set_option maxRecDepth 100000

/-- w' is w, but for the blocks of S, and new ones. -/
structure Upto (S : Nat → Prop) (w w' : World) : Prop where
  os : w'.os = w.os
  tape : w'.tape = w.tape
  output : w'.output = w.output
  size : w.heap.size ≤ w'.heap.size
  block : ∀ k, k < w.heap.size → ¬ S k → w'.heap[k]? = w.heap[k]?
section
variable {S T : Nat → Prop} {w w1 w' : World}
theorem Upto.refl (S : Nat → Prop) (w : World) : Upto S w w := ⟨rfl, rfl, rfl, Nat.le_refl _, fun _ _ _ => rfl⟩
theorem Upto.trans (h : Upto S w w1) (k : Upto T w1 w') (hT : ∀ k, T k → S k ∨ w.heap.size ≤ k) : Upto S w w' :=
  ⟨k.os.trans h.os, k.tape.trans h.tape, k.output.trans h.output, Nat.le_trans h.size k.size, fun i hi hs => (k.block i (Nat.lt_of_lt_of_le hi h.size) (fun ht => by rcases hT i ht with h' | h'; exact hs h'; omega)).trans (h.block i hi hs)⟩
theorem Upto.then (h : Upto S w w1) (k : Upto S w1 w') : Upto S w w' := h.trans k (fun _ h => .inl h)
theorem Upto.drew (h : Upto S w w') : Upto S w w'.drew := ⟨h.os, h.tape, h.output, h.size, h.block⟩
theorem Upto.below (h : Upto S w w1) (k : Below w1.heap.size w1 w') : Upto S w w' :=
  h.trans (T := fun _ => False) ⟨k.os, k.tape, k.output, k.size, fun i hi _ => k.block i hi⟩ (fun _ h => h.elim)
theorem Upto.alloc (h : Upto S w w') (o : Obj) : Upto S w (w'.alloc o) := h.below ((Below.refl _ _).alloc (Nat.le_refl _) o)
theorem Upto.setCell (h : Upto S w w') {p : Addr} (hp : S p.block ∨ w.heap.size ≤ p.block) (u : Value) : Upto S w (w'.setCell p u) :=
  h.trans (T := fun k => k = p.block) ⟨rfl, rfl, rfl, by simp [World.setCell], fun k _ hne => Below.heap_setCell _ _ _ _ hne⟩ (fun _ e => by subst e; exact hp)
theorem Upto.grown (h : Upto S w w1) {row : Option Nat} (hg : w1.grownBy w' row) (hr : ∀ k, row = some k → S k ∨ w.heap.size ≤ k) : Upto S w w' :=
  h.trans (T := fun k => some k = row) ⟨hg.os, hg.tape, hg.output, hg.size, fun k hk hne => hg.block k hk hne⟩ (fun k e => hr k e.symm)
theorem Upto.mono (h : Upto S w w') (hS : ∀ k, S k → T k ∨ w.heap.size ≤ k) : Upto T w w' :=
  (Upto.refl T w).trans h (fun k hk => hS k hk)
theorem Upto.toBelow (h : Upto S w w') {B : Nat} (hB : B ≤ w.heap.size) (hS : ∀ k, S k → B ≤ k) : Below B w w' :=
  ⟨h.os, h.tape, h.output, h.size, fun k hk => h.block k (by omega) (fun hs => by have := hS k hs; omega)⟩
theorem Upto.cell (h : Upto S w w') {p : Addr} {v : Value} (hs : ¬ S p.block) (hc : w.cell? p = some v) : w'.cell? p = some v :=
  (World.cell?_of_block (h.block p.block (World.block_lt_of_cell? w p hc) hs)).trans hc
end
theorem below_upto {S : Nat → Prop} {w w' : World} (h : Below w.heap.size w w') : Upto S w w' := (Upto.refl S w).below h
/-- A block that is a machine. -/
def Mach (w : World) (b : Nat) (a x : Int) (mv : Value) (ov : Bool) (ans : Int) : Prop := w.heap[b]? = some (.cells #[.int .u32 a, .int .u32 x, mv, .bool ov, .int .u32 ans] 100 (0, 0))
section
variable {w w' : World} {b : Nat} {a x ans : Int} {mv : Value} {ov : Bool}
theorem Mach.lt (h : Mach w b a x mv ov ans) : b < w.heap.size := (Array.getElem?_eq_some_iff.1 h).1
theorem Mach.c0 (h : Mach w b a x mv ov ans) : w.cell? ⟨b, 0, none⟩ = some (.int .u32 a) := by unfold World.cell?; rw [h]; rfl
theorem Mach.c3 (h : Mach w b a x mv ov ans) : w.cell? ⟨b, 3, none⟩ = some (.bool ov) := by unfold World.cell?; rw [h]; rfl
theorem Mach.c4 (h : Mach w b a x mv ov ans) : w.cell? ⟨b, 4, none⟩ = some (.int .u32 ans) := by unfold World.cell?; rw [h]; rfl
theorem Mach.fz (h : Mach w b a x mv ov ans) (o : Nat) : w.frozen? ⟨b, o, none⟩ = false := by unfold Mach at h; simp [World.frozen?, h]
theorem Mach.upto {S : Nat → Prop} (h : Mach w b a x mv ov ans) (hu : Upto S w w') (hS : ¬ S b) : Mach w' b a x mv ov ans := (hu.block b h.lt hS).trans h
theorem Mach.below (h : Mach w b a x mv ov ans) (hb : Below w.heap.size w w') : Mach w' b a x mv ov ans := (hb.block b h.lt).trans h
theorem Mach.set0 (h : Mach w b a x mv ov ans) (a' : Int) : Mach (w.setCell ⟨b, 0, none⟩ (.int .u32 a')) b a' x mv ov ans := by
  unfold Mach World.setCell at *
  simp [Array.getElem?_modify, h]
theorem Mach.set3 (h : Mach w b a x mv ov ans) (o' : Bool) : Mach (w.setCell ⟨b, 3, none⟩ (.bool o')) b a x mv o' ans := by
  unfold Mach World.setCell at *
  simp [Array.getElem?_modify, h]
theorem Mach.set4 (h : Mach w b a x mv ov ans) (k : Int) : Mach (w.setCell ⟨b, 4, none⟩ (.int .u32 k)) b a x mv ov k := by
  unfold Mach World.setCell at *
  simp [Array.getElem?_modify, h]
end
theorem end_any (b : Nat) (a x v ans : Int) (mv : Value) (ov : Bool) (w : World) (hm : Mach w b a x mv ov ans) : Calls Try.prog 85 #[.pointer (some ⟨b, 0, none⟩), .int .u32 v] w (fun e w' => e = .returned (.tuple #[]) ∧ Mach w' b a x mv true v ∧ Upto (fun k => k = b) w w') := by
  have c3 := hm.c3
  have c4 := hm.c4
  have z3 := hm.fz 3
  have z4 := hm.fz 4
  have HM := Lib.hid hm
  clear hm
  go_enter Try.func85, Try.ntmps85
  go_wp2
  go_end0
  exact ⟨rfl, (HM.out.set3 true).set4 v, ((Upto.refl (fun k => k = b) w).setCell (p := ⟨b, 3, none⟩) (.inl rfl) _).setCell (p := ⟨b, 4, none⟩) (.inl rfl) _⟩

theorem mholds_21 (b : Nat) (a x n ans : Int) (mv : Value) (ov : Bool) (w : World) (hm : Mach w b a x mv ov ans) : Calls Try.prog 65 #[.pointer (some ⟨b, 0, none⟩), .int .u16 21, .int .u32 n] w (Same (.bool (a == n)) w) := by
  have c0 := hm.c0
  clear hm
  go_enter Try.func65, Try.ntmps65
  go_wp2
  go_ret
  exact ⟨rfl, rfl⟩
theorem mholds_37 (b : Nat) (a x n ans : Int) (mv : Value) (ov : Bool) (w : World) (hm : Mach w b a x mv ov ans) : Calls Try.prog 65 #[.pointer (some ⟨b, 0, none⟩), .int .u16 37, .int .u32 n] w (Same (.bool (decide (n < a))) w) := by
  have c0 := hm.c0
  clear hm
  go_enter Try.func65, Try.ntmps65
  go_wp2
  go_ret
  exact ⟨rfl, rfl⟩
theorem mholds_53 (b : Nat) (a x n ans : Int) (mv : Value) (ov : Bool) (w : World) (hm : Mach w b a x mv ov ans) : Calls Try.prog 65 #[.pointer (some ⟨b, 0, none⟩), .int .u16 53, .int .u32 n] w (Same (.bool (decide (n ≤ a))) w) := by
  have c0 := hm.c0
  clear hm
  go_enter Try.func65, Try.ntmps65
  go_wp2
  go_ret
  exact ⟨rfl, rfl⟩
theorem reckon_84 (b : Nat) (a x n ans : Int) (mv : Value) (ov : Bool) (w : World) (hm : Mach w b a x mv ov ans) : Calls Try.prog 66 #[.pointer (some ⟨b, 0, none⟩), .int .u16 84, .int .u32 n] w (fun e w' => e = .returned (.tuple #[]) ∧ Mach w' b (bits .and .u32 a n) x mv ov ans ∧ Upto (fun k => k = b) w w') := by
  have c0 := hm.c0
  have z0 := hm.fz 0
  have HM := Lib.hid hm
  clear hm
  go_enter Try.func66, Try.ntmps66
  go_wp2
  go_end0
  exact ⟨rfl, HM.out.set0 _, (Upto.refl (fun k => k = b) w).setCell (p := ⟨b, 0, none⟩) (.inl rfl) _⟩
set_option maxHeartbeats 4000000 in
theorem moves_84 (b : Nat) (a x jt jf k ans : Int) (mv : Value) (ov : Bool) (d : Dat) (w : World) : Calls Try.prog 64 #[.pointer (some ⟨b, 0, none⟩), .agg #[.int .u16 84, .int .u8 jt, .int .u8 jf, .int .u32 k], .agg d.arr] w (Ret (.bool false) w) := by
  unfold Dat.arr
  go_enter Try.func64, Try.ntmps64
  go_wp2
  go_ret
  exact ⟨rfl, (below_alloc w _).trans ((below_alloc _ _).mono (by simp))⟩
set_option maxHeartbeats 4000000 in
theorem moves_21 (b : Nat) (a x jt jf k ans : Int) (mv : Value) (ov : Bool) (d : Dat) (w : World) : Calls Try.prog 64 #[.pointer (some ⟨b, 0, none⟩), .agg #[.int .u16 21, .int .u8 jt, .int .u8 jf, .int .u32 k], .agg d.arr] w (Ret (.bool false) w) := by
  unfold Dat.arr
  go_enter Try.func64, Try.ntmps64
  go_wp2
  go_ret
  exact ⟨rfl, (below_alloc w _).trans ((below_alloc _ _).mono (by simp))⟩
set_option maxHeartbeats 4000000 in
theorem moves_37 (b : Nat) (a x jt jf k ans : Int) (mv : Value) (ov : Bool) (d : Dat) (w : World) : Calls Try.prog 64 #[.pointer (some ⟨b, 0, none⟩), .agg #[.int .u16 37, .int .u8 jt, .int .u8 jf, .int .u32 k], .agg d.arr] w (Ret (.bool false) w) := by
  unfold Dat.arr
  go_enter Try.func64, Try.ntmps64
  go_wp2
  go_ret
  exact ⟨rfl, (below_alloc w _).trans ((below_alloc _ _).mono (by simp))⟩
set_option maxHeartbeats 4000000 in
theorem moves_53 (b : Nat) (a x jt jf k ans : Int) (mv : Value) (ov : Bool) (d : Dat) (w : World) : Calls Try.prog 64 #[.pointer (some ⟨b, 0, none⟩), .agg #[.int .u16 53, .int .u8 jt, .int .u8 jf, .int .u32 k], .agg d.arr] w (Ret (.bool false) w) := by
  unfold Dat.arr
  go_enter Try.func64, Try.ntmps64
  go_wp2
  go_ret
  exact ⟨rfl, (below_alloc w _).trans ((below_alloc _ _).mono (by simp))⟩
set_option maxHeartbeats 4000000 in
theorem moves_5 (b : Nat) (a x jt jf k ans : Int) (mv : Value) (ov : Bool) (d : Dat) (w : World) : Calls Try.prog 64 #[.pointer (some ⟨b, 0, none⟩), .agg #[.int .u16 5, .int .u8 jt, .int .u8 jf, .int .u32 k], .agg d.arr] w (Ret (.bool false) w) := by
  unfold Dat.arr
  go_enter Try.func64, Try.ntmps64
  go_wp2
  go_ret
  exact ⟨rfl, (below_alloc w _).trans ((below_alloc _ _).mono (by simp))⟩
set_option maxHeartbeats 4000000 in
theorem moves_32 (b : Nat) (a x jt jf k ans : Int) (mv : Value) (ov : Bool) (d : Dat) (w : World) (hm : Mach w b a x mv ov ans) (h0 : 0 ≤ k) (h4 : k % 4 = 0) (h64 : k < 64) : Calls Try.prog 64 #[.pointer (some ⟨b, 0, none⟩), .agg #[.int .u16 32, .int .u8 jt, .int .u8 jf, .int .u32 k], .agg d.arr] w (fun e w' => e = .returned (.bool true) ∧ Mach w' b (d.word k) x mv ov ans ∧ Upto (fun k => k = b) w w') := by
  have L := Lib.hid (fun W => load_at d k h0 h4 h64 W)
  obtain ⟨z, hz⟩ : ∃ z, d.word k = z := ⟨_, rfl⟩
  rw [hz] at L ⊢
  unfold Dat.arr at L ⊢
  have hb0 := below_alloc w (.cells #[.int .u16 32, .int .u8 jt, .int .u8 jf, .int .u32 k] 70)
  have hb1 := below_alloc (w.alloc (.cells #[.int .u16 32, .int .u8 jt, .int .u8 jf, .int .u32 k] 70)) (.cells #[.int .u32 d.nr, .int .u32 d.ar, .int .u64 d.ip, .int .u64 d.x0, .int .u64 d.x1, .int .u64 d.x2, .int .u64 d.x3, .int .u64 d.x4, .int .u64 d.x5] 48)
  have hsz : (w.alloc (.cells #[.int .u16 32, .int .u8 jt, .int .u8 jf, .int .u32 k] 70)).heap.size = w.heap.size + 1 := by simp
  have r0 := keep_cell hb1 (new_cell w #[.int .u16 32, .int .u8 jt, .int .u8 jf, .int .u32 k] 70 0 rfl)
  have r1 := keep_cell hb1 (new_cell w #[.int .u16 32, .int .u8 jt, .int .u8 jf, .int .u32 k] 70 1 rfl)
  have r2 := keep_cell hb1 (new_cell w #[.int .u16 32, .int .u8 jt, .int .u8 jf, .int .u32 k] 70 2 rfl)
  have r3 := keep_cell hb1 (new_cell w #[.int .u16 32, .int .u8 jt, .int .u8 jf, .int .u32 k] 70 3 rfl)
  have q0 := new_cell (w.alloc (.cells #[.int .u16 32, .int .u8 jt, .int .u8 jf, .int .u32 k] 70)) #[.int .u32 d.nr, .int .u32 d.ar, .int .u64 d.ip, .int .u64 d.x0, .int .u64 d.x1, .int .u64 d.x2, .int .u64 d.x3, .int .u64 d.x4, .int .u64 d.x5] 48 0 rfl
  have q1 := new_cell (w.alloc (.cells #[.int .u16 32, .int .u8 jt, .int .u8 jf, .int .u32 k] 70)) #[.int .u32 d.nr, .int .u32 d.ar, .int .u64 d.ip, .int .u64 d.x0, .int .u64 d.x1, .int .u64 d.x2, .int .u64 d.x3, .int .u64 d.x4, .int .u64 d.x5] 48 1 rfl
  have q2 := new_cell (w.alloc (.cells #[.int .u16 32, .int .u8 jt, .int .u8 jf, .int .u32 k] 70)) #[.int .u32 d.nr, .int .u32 d.ar, .int .u64 d.ip, .int .u64 d.x0, .int .u64 d.x1, .int .u64 d.x2, .int .u64 d.x3, .int .u64 d.x4, .int .u64 d.x5] 48 2 rfl
  have q3 := new_cell (w.alloc (.cells #[.int .u16 32, .int .u8 jt, .int .u8 jf, .int .u32 k] 70)) #[.int .u32 d.nr, .int .u32 d.ar, .int .u64 d.ip, .int .u64 d.x0, .int .u64 d.x1, .int .u64 d.x2, .int .u64 d.x3, .int .u64 d.x4, .int .u64 d.x5] 48 3 rfl
  have q4 := new_cell (w.alloc (.cells #[.int .u16 32, .int .u8 jt, .int .u8 jf, .int .u32 k] 70)) #[.int .u32 d.nr, .int .u32 d.ar, .int .u64 d.ip, .int .u64 d.x0, .int .u64 d.x1, .int .u64 d.x2, .int .u64 d.x3, .int .u64 d.x4, .int .u64 d.x5] 48 4 rfl
  have q5 := new_cell (w.alloc (.cells #[.int .u16 32, .int .u8 jt, .int .u8 jf, .int .u32 k] 70)) #[.int .u32 d.nr, .int .u32 d.ar, .int .u64 d.ip, .int .u64 d.x0, .int .u64 d.x1, .int .u64 d.x2, .int .u64 d.x3, .int .u64 d.x4, .int .u64 d.x5] 48 5 rfl
  have q6 := new_cell (w.alloc (.cells #[.int .u16 32, .int .u8 jt, .int .u8 jf, .int .u32 k] 70)) #[.int .u32 d.nr, .int .u32 d.ar, .int .u64 d.ip, .int .u64 d.x0, .int .u64 d.x1, .int .u64 d.x2, .int .u64 d.x3, .int .u64 d.x4, .int .u64 d.x5] 48 6 rfl
  have q7 := new_cell (w.alloc (.cells #[.int .u16 32, .int .u8 jt, .int .u8 jf, .int .u32 k] 70)) #[.int .u32 d.nr, .int .u32 d.ar, .int .u64 d.ip, .int .u64 d.x0, .int .u64 d.x1, .int .u64 d.x2, .int .u64 d.x3, .int .u64 d.x4, .int .u64 d.x5] 48 7 rfl
  have q8 := new_cell (w.alloc (.cells #[.int .u16 32, .int .u8 jt, .int .u8 jf, .int .u32 k] 70)) #[.int .u32 d.nr, .int .u32 d.ar, .int .u64 d.ip, .int .u64 d.x0, .int .u64 d.x1, .int .u64 d.x2, .int .u64 d.x3, .int .u64 d.x4, .int .u64 d.x5] 48 8 rfl
  rw [hsz] at q0 q1 q2 q3 q4 q5 q6 q7 q8
  obtain ⟨W, hW⟩ : ∃ W, (w.alloc (.cells #[.int .u16 32, .int .u8 jt, .int .u8 jf, .int .u32 k] 70)).alloc (.cells #[.int .u32 d.nr, .int .u32 d.ar, .int .u64 d.ip, .int .u64 d.x0, .int .u64 d.x1, .int .u64 d.x2, .int .u64 d.x3, .int .u64 d.x4, .int .u64 d.x5] 48) = W := ⟨_, rfl⟩
  have hB := hb0.trans (hb1.mono hb0.size)
  rw [hW] at hB hb1 r0 r1 r2 r3 q0 q1 q2 q3 q4 q5 q6 q7 q8
  have hm' := hm.below hB
  have hbl := hm.lt
  have HM := Lib.hid hm'
  have HB := Lib.hid hB
  clear hb0 hb1 hB hm hm'
  clear h0 h4 h64 hz
  go_enter Try.func64, Try.ntmps64
  go_wp2_with (go_at_call 84; (with_reducible refine (L.out _).mono ?_); rintro e_ w1 ⟨rfl, hb1⟩; have m1 := HM.out.below hb1; have c0 := m1.c0; have z0 := m1.fz 0; have HM1 := Lib.hid m1; clear m1)
  go_ret
  exact ⟨rfl, HM1.out.set0 _, ((below_upto (S := fun k => k = b) HB.out).below hb1).setCell (p := ⟨b, 0, none⟩) (.inl rfl) _⟩
set_option maxHeartbeats 4000000 in
theorem moves_6 (b : Nat) (a x jt jf k ans : Int) (mv : Value) (ov : Bool) (d : Dat) (w : World) (hm : Mach w b a x mv ov ans) : Calls Try.prog 64 #[.pointer (some ⟨b, 0, none⟩), .agg #[.int .u16 6, .int .u8 jt, .int .u8 jf, .int .u32 k], .agg d.arr] w (fun e w' => e = .returned (.bool true) ∧ Mach w' b a x mv true k ∧ Upto (fun k => k = b) w w') := by
  unfold Dat.arr
  have hb0 := below_alloc w (.cells #[.int .u16 6, .int .u8 jt, .int .u8 jf, .int .u32 k] 70)
  have hb1 := below_alloc (w.alloc (.cells #[.int .u16 6, .int .u8 jt, .int .u8 jf, .int .u32 k] 70)) (.cells #[.int .u32 d.nr, .int .u32 d.ar, .int .u64 d.ip, .int .u64 d.x0, .int .u64 d.x1, .int .u64 d.x2, .int .u64 d.x3, .int .u64 d.x4, .int .u64 d.x5] 48)
  have hsz : (w.alloc (.cells #[.int .u16 6, .int .u8 jt, .int .u8 jf, .int .u32 k] 70)).heap.size = w.heap.size + 1 := by simp
  have r0 := keep_cell hb1 (new_cell w #[.int .u16 6, .int .u8 jt, .int .u8 jf, .int .u32 k] 70 0 rfl)
  have r1 := keep_cell hb1 (new_cell w #[.int .u16 6, .int .u8 jt, .int .u8 jf, .int .u32 k] 70 1 rfl)
  have r2 := keep_cell hb1 (new_cell w #[.int .u16 6, .int .u8 jt, .int .u8 jf, .int .u32 k] 70 2 rfl)
  have r3 := keep_cell hb1 (new_cell w #[.int .u16 6, .int .u8 jt, .int .u8 jf, .int .u32 k] 70 3 rfl)
  have q0 := new_cell (w.alloc (.cells #[.int .u16 6, .int .u8 jt, .int .u8 jf, .int .u32 k] 70)) #[.int .u32 d.nr, .int .u32 d.ar, .int .u64 d.ip, .int .u64 d.x0, .int .u64 d.x1, .int .u64 d.x2, .int .u64 d.x3, .int .u64 d.x4, .int .u64 d.x5] 48 0 rfl
  have q1 := new_cell (w.alloc (.cells #[.int .u16 6, .int .u8 jt, .int .u8 jf, .int .u32 k] 70)) #[.int .u32 d.nr, .int .u32 d.ar, .int .u64 d.ip, .int .u64 d.x0, .int .u64 d.x1, .int .u64 d.x2, .int .u64 d.x3, .int .u64 d.x4, .int .u64 d.x5] 48 1 rfl
  have q2 := new_cell (w.alloc (.cells #[.int .u16 6, .int .u8 jt, .int .u8 jf, .int .u32 k] 70)) #[.int .u32 d.nr, .int .u32 d.ar, .int .u64 d.ip, .int .u64 d.x0, .int .u64 d.x1, .int .u64 d.x2, .int .u64 d.x3, .int .u64 d.x4, .int .u64 d.x5] 48 2 rfl
  have q3 := new_cell (w.alloc (.cells #[.int .u16 6, .int .u8 jt, .int .u8 jf, .int .u32 k] 70)) #[.int .u32 d.nr, .int .u32 d.ar, .int .u64 d.ip, .int .u64 d.x0, .int .u64 d.x1, .int .u64 d.x2, .int .u64 d.x3, .int .u64 d.x4, .int .u64 d.x5] 48 3 rfl
  have q4 := new_cell (w.alloc (.cells #[.int .u16 6, .int .u8 jt, .int .u8 jf, .int .u32 k] 70)) #[.int .u32 d.nr, .int .u32 d.ar, .int .u64 d.ip, .int .u64 d.x0, .int .u64 d.x1, .int .u64 d.x2, .int .u64 d.x3, .int .u64 d.x4, .int .u64 d.x5] 48 4 rfl
  have q5 := new_cell (w.alloc (.cells #[.int .u16 6, .int .u8 jt, .int .u8 jf, .int .u32 k] 70)) #[.int .u32 d.nr, .int .u32 d.ar, .int .u64 d.ip, .int .u64 d.x0, .int .u64 d.x1, .int .u64 d.x2, .int .u64 d.x3, .int .u64 d.x4, .int .u64 d.x5] 48 5 rfl
  have q6 := new_cell (w.alloc (.cells #[.int .u16 6, .int .u8 jt, .int .u8 jf, .int .u32 k] 70)) #[.int .u32 d.nr, .int .u32 d.ar, .int .u64 d.ip, .int .u64 d.x0, .int .u64 d.x1, .int .u64 d.x2, .int .u64 d.x3, .int .u64 d.x4, .int .u64 d.x5] 48 6 rfl
  have q7 := new_cell (w.alloc (.cells #[.int .u16 6, .int .u8 jt, .int .u8 jf, .int .u32 k] 70)) #[.int .u32 d.nr, .int .u32 d.ar, .int .u64 d.ip, .int .u64 d.x0, .int .u64 d.x1, .int .u64 d.x2, .int .u64 d.x3, .int .u64 d.x4, .int .u64 d.x5] 48 7 rfl
  have q8 := new_cell (w.alloc (.cells #[.int .u16 6, .int .u8 jt, .int .u8 jf, .int .u32 k] 70)) #[.int .u32 d.nr, .int .u32 d.ar, .int .u64 d.ip, .int .u64 d.x0, .int .u64 d.x1, .int .u64 d.x2, .int .u64 d.x3, .int .u64 d.x4, .int .u64 d.x5] 48 8 rfl
  rw [hsz] at q0 q1 q2 q3 q4 q5 q6 q7 q8
  obtain ⟨W, hW⟩ : ∃ W, (w.alloc (.cells #[.int .u16 6, .int .u8 jt, .int .u8 jf, .int .u32 k] 70)).alloc (.cells #[.int .u32 d.nr, .int .u32 d.ar, .int .u64 d.ip, .int .u64 d.x0, .int .u64 d.x1, .int .u64 d.x2, .int .u64 d.x3, .int .u64 d.x4, .int .u64 d.x5] 48) = W := ⟨_, rfl⟩
  have hB := hb0.trans (hb1.mono hb0.size)
  rw [hW] at hB hb1 r0 r1 r2 r3 q0 q1 q2 q3 q4 q5 q6 q7 q8
  have hm' := hm.below hB
  have hbl := hm.lt
  have HM := Lib.hid hm'
  have HB := Lib.hid hB
  clear hb0 hb1 hB hm hm'
  go_enter Try.func64, Try.ntmps64
  go_wp2_with (go_at_call 85; (with_reducible refine (end_any b a x k ans mv ov _ HM.out).mono ?_); rintro e_ w1 ⟨rfl, hm1, hu1⟩)
  go_ret
  exact ⟨rfl, hm1, (below_upto HB.out).then hu1⟩
end Go.Proofs.Ytjmmbadpknlmcaa
end
section
/- A step of the machine, at the codes of a program of rules. Conditions: the instruction is fine. -/
namespace Go.Proofs.Ytjmmbadpknlmcaa
open Go.RowKit
set_option linter.unusedVariables false
set_option linter.unusedSimpArgs false
set_option maxRecDepth 100000

def StepPost (b : Nat) (w : World) (skip a x : Int) (mv : Value) (ov : Bool) (ans : Int) (e : Ending) (w' : World) : Prop := e = .returned (.int .i64 skip) ∧ Mach w' b a x mv ov ans ∧ Upto (fun k => k = b) w w'
set_option maxHeartbeats 4000000 in
theorem step_32 (b : Nat) (a x jt jf k ans : Int) (mv : Value) (ov : Bool) (d : Dat) (w : World) (hm : Mach w b a x mv ov ans) (h0 : 0 ≤ k) (h4 : k % 4 = 0) (h64 : k < 64) : Calls Try.prog 48 #[.pointer (some ⟨b, 0, none⟩), .agg #[.int .u16 32, .int .u8 jt, .int .u8 jf, .int .u32 k], .agg d.arr] w (StepPost b w 0 (d.word k) x mv ov ans) := by
  have M := Lib.hid (fun W (hM : Mach W b a x mv ov ans) => moves_32 b a x jt jf k ans mv ov d W hM h0 h4 h64)
  obtain ⟨zz, hzz⟩ : ∃ z, d.word k = z := ⟨_, rfl⟩
  try rw [hzz] at M ⊢
  unfold Dat.arr at M ⊢
  have hb0 := below_alloc w (.cells #[.int .u16 32, .int .u8 jt, .int .u8 jf, .int .u32 k] 70)
  have hb1 := below_alloc (w.alloc (.cells #[.int .u16 32, .int .u8 jt, .int .u8 jf, .int .u32 k] 70)) (.cells #[.int .u32 d.nr, .int .u32 d.ar, .int .u64 d.ip, .int .u64 d.x0, .int .u64 d.x1, .int .u64 d.x2, .int .u64 d.x3, .int .u64 d.x4, .int .u64 d.x5] 48)
  have hsz : (w.alloc (.cells #[.int .u16 32, .int .u8 jt, .int .u8 jf, .int .u32 k] 70)).heap.size = w.heap.size + 1 := by simp
  have r0 := keep_cell hb1 (new_cell w #[.int .u16 32, .int .u8 jt, .int .u8 jf, .int .u32 k] 70 0 rfl)
  have r1 := keep_cell hb1 (new_cell w #[.int .u16 32, .int .u8 jt, .int .u8 jf, .int .u32 k] 70 1 rfl)
  have r2 := keep_cell hb1 (new_cell w #[.int .u16 32, .int .u8 jt, .int .u8 jf, .int .u32 k] 70 2 rfl)
  have r3 := keep_cell hb1 (new_cell w #[.int .u16 32, .int .u8 jt, .int .u8 jf, .int .u32 k] 70 3 rfl)
  have q0 := new_cell (w.alloc (.cells #[.int .u16 32, .int .u8 jt, .int .u8 jf, .int .u32 k] 70)) #[.int .u32 d.nr, .int .u32 d.ar, .int .u64 d.ip, .int .u64 d.x0, .int .u64 d.x1, .int .u64 d.x2, .int .u64 d.x3, .int .u64 d.x4, .int .u64 d.x5] 48 0 rfl
  have q1 := new_cell (w.alloc (.cells #[.int .u16 32, .int .u8 jt, .int .u8 jf, .int .u32 k] 70)) #[.int .u32 d.nr, .int .u32 d.ar, .int .u64 d.ip, .int .u64 d.x0, .int .u64 d.x1, .int .u64 d.x2, .int .u64 d.x3, .int .u64 d.x4, .int .u64 d.x5] 48 1 rfl
  have q2 := new_cell (w.alloc (.cells #[.int .u16 32, .int .u8 jt, .int .u8 jf, .int .u32 k] 70)) #[.int .u32 d.nr, .int .u32 d.ar, .int .u64 d.ip, .int .u64 d.x0, .int .u64 d.x1, .int .u64 d.x2, .int .u64 d.x3, .int .u64 d.x4, .int .u64 d.x5] 48 2 rfl
  have q3 := new_cell (w.alloc (.cells #[.int .u16 32, .int .u8 jt, .int .u8 jf, .int .u32 k] 70)) #[.int .u32 d.nr, .int .u32 d.ar, .int .u64 d.ip, .int .u64 d.x0, .int .u64 d.x1, .int .u64 d.x2, .int .u64 d.x3, .int .u64 d.x4, .int .u64 d.x5] 48 3 rfl
  have q4 := new_cell (w.alloc (.cells #[.int .u16 32, .int .u8 jt, .int .u8 jf, .int .u32 k] 70)) #[.int .u32 d.nr, .int .u32 d.ar, .int .u64 d.ip, .int .u64 d.x0, .int .u64 d.x1, .int .u64 d.x2, .int .u64 d.x3, .int .u64 d.x4, .int .u64 d.x5] 48 4 rfl
  have q5 := new_cell (w.alloc (.cells #[.int .u16 32, .int .u8 jt, .int .u8 jf, .int .u32 k] 70)) #[.int .u32 d.nr, .int .u32 d.ar, .int .u64 d.ip, .int .u64 d.x0, .int .u64 d.x1, .int .u64 d.x2, .int .u64 d.x3, .int .u64 d.x4, .int .u64 d.x5] 48 5 rfl
  have q6 := new_cell (w.alloc (.cells #[.int .u16 32, .int .u8 jt, .int .u8 jf, .int .u32 k] 70)) #[.int .u32 d.nr, .int .u32 d.ar, .int .u64 d.ip, .int .u64 d.x0, .int .u64 d.x1, .int .u64 d.x2, .int .u64 d.x3, .int .u64 d.x4, .int .u64 d.x5] 48 6 rfl
  have q7 := new_cell (w.alloc (.cells #[.int .u16 32, .int .u8 jt, .int .u8 jf, .int .u32 k] 70)) #[.int .u32 d.nr, .int .u32 d.ar, .int .u64 d.ip, .int .u64 d.x0, .int .u64 d.x1, .int .u64 d.x2, .int .u64 d.x3, .int .u64 d.x4, .int .u64 d.x5] 48 7 rfl
  have q8 := new_cell (w.alloc (.cells #[.int .u16 32, .int .u8 jt, .int .u8 jf, .int .u32 k] 70)) #[.int .u32 d.nr, .int .u32 d.ar, .int .u64 d.ip, .int .u64 d.x0, .int .u64 d.x1, .int .u64 d.x2, .int .u64 d.x3, .int .u64 d.x4, .int .u64 d.x5] 48 8 rfl
  rw [hsz] at q0 q1 q2 q3 q4 q5 q6 q7 q8
  obtain ⟨W, hW⟩ : ∃ W, (w.alloc (.cells #[.int .u16 32, .int .u8 jt, .int .u8 jf, .int .u32 k] 70)).alloc (.cells #[.int .u32 d.nr, .int .u32 d.ar, .int .u64 d.ip, .int .u64 d.x0, .int .u64 d.x1, .int .u64 d.x2, .int .u64 d.x3, .int .u64 d.x4, .int .u64 d.x5] 48) = W := ⟨_, rfl⟩
  have hB := hb0.trans (hb1.mono hb0.size)
  rw [hW] at hB hb1 r0 r1 r2 r3 q0 q1 q2 q3 q4 q5 q6 q7 q8
  have hm' := hm.below hB
  have hbl := hm.lt
  have HM := Lib.hid hm'
  have HB := Lib.hid hB
  clear hb0 hb1 hB hm hm'
  clear h0 h4 h64 hzz
  go_enter Try.func48, Try.ntmps48
  go_wp2_with (go_at_call 64; (with_reducible refine (M.out _ HM.out).mono ?_); rintro e_ w1 ⟨rfl, hm1, hu1⟩)
  go_ret
  exact ⟨rfl, hm1, (below_upto HB.out).then hu1⟩
set_option maxHeartbeats 4000000 in
theorem step_6 (b : Nat) (a x jt jf k ans : Int) (mv : Value) (ov : Bool) (d : Dat) (w : World) (hm : Mach w b a x mv ov ans)  : Calls Try.prog 48 #[.pointer (some ⟨b, 0, none⟩), .agg #[.int .u16 6, .int .u8 jt, .int .u8 jf, .int .u32 k], .agg d.arr] w (StepPost b w 0 a x mv true k) := by
  have M := Lib.hid (fun W (hM : Mach W b a x mv ov ans) => moves_6 b a x jt jf k ans mv ov d W hM)
  obtain ⟨zz, hzz⟩ : ∃ z, d.word k = z := ⟨_, rfl⟩
  try rw [hzz] at M ⊢
  unfold Dat.arr at M ⊢
  have hb0 := below_alloc w (.cells #[.int .u16 6, .int .u8 jt, .int .u8 jf, .int .u32 k] 70)
  have hb1 := below_alloc (w.alloc (.cells #[.int .u16 6, .int .u8 jt, .int .u8 jf, .int .u32 k] 70)) (.cells #[.int .u32 d.nr, .int .u32 d.ar, .int .u64 d.ip, .int .u64 d.x0, .int .u64 d.x1, .int .u64 d.x2, .int .u64 d.x3, .int .u64 d.x4, .int .u64 d.x5] 48)
  have hsz : (w.alloc (.cells #[.int .u16 6, .int .u8 jt, .int .u8 jf, .int .u32 k] 70)).heap.size = w.heap.size + 1 := by simp
  have r0 := keep_cell hb1 (new_cell w #[.int .u16 6, .int .u8 jt, .int .u8 jf, .int .u32 k] 70 0 rfl)
  have r1 := keep_cell hb1 (new_cell w #[.int .u16 6, .int .u8 jt, .int .u8 jf, .int .u32 k] 70 1 rfl)
  have r2 := keep_cell hb1 (new_cell w #[.int .u16 6, .int .u8 jt, .int .u8 jf, .int .u32 k] 70 2 rfl)
  have r3 := keep_cell hb1 (new_cell w #[.int .u16 6, .int .u8 jt, .int .u8 jf, .int .u32 k] 70 3 rfl)
  have q0 := new_cell (w.alloc (.cells #[.int .u16 6, .int .u8 jt, .int .u8 jf, .int .u32 k] 70)) #[.int .u32 d.nr, .int .u32 d.ar, .int .u64 d.ip, .int .u64 d.x0, .int .u64 d.x1, .int .u64 d.x2, .int .u64 d.x3, .int .u64 d.x4, .int .u64 d.x5] 48 0 rfl
  have q1 := new_cell (w.alloc (.cells #[.int .u16 6, .int .u8 jt, .int .u8 jf, .int .u32 k] 70)) #[.int .u32 d.nr, .int .u32 d.ar, .int .u64 d.ip, .int .u64 d.x0, .int .u64 d.x1, .int .u64 d.x2, .int .u64 d.x3, .int .u64 d.x4, .int .u64 d.x5] 48 1 rfl
  have q2 := new_cell (w.alloc (.cells #[.int .u16 6, .int .u8 jt, .int .u8 jf, .int .u32 k] 70)) #[.int .u32 d.nr, .int .u32 d.ar, .int .u64 d.ip, .int .u64 d.x0, .int .u64 d.x1, .int .u64 d.x2, .int .u64 d.x3, .int .u64 d.x4, .int .u64 d.x5] 48 2 rfl
  have q3 := new_cell (w.alloc (.cells #[.int .u16 6, .int .u8 jt, .int .u8 jf, .int .u32 k] 70)) #[.int .u32 d.nr, .int .u32 d.ar, .int .u64 d.ip, .int .u64 d.x0, .int .u64 d.x1, .int .u64 d.x2, .int .u64 d.x3, .int .u64 d.x4, .int .u64 d.x5] 48 3 rfl
  have q4 := new_cell (w.alloc (.cells #[.int .u16 6, .int .u8 jt, .int .u8 jf, .int .u32 k] 70)) #[.int .u32 d.nr, .int .u32 d.ar, .int .u64 d.ip, .int .u64 d.x0, .int .u64 d.x1, .int .u64 d.x2, .int .u64 d.x3, .int .u64 d.x4, .int .u64 d.x5] 48 4 rfl
  have q5 := new_cell (w.alloc (.cells #[.int .u16 6, .int .u8 jt, .int .u8 jf, .int .u32 k] 70)) #[.int .u32 d.nr, .int .u32 d.ar, .int .u64 d.ip, .int .u64 d.x0, .int .u64 d.x1, .int .u64 d.x2, .int .u64 d.x3, .int .u64 d.x4, .int .u64 d.x5] 48 5 rfl
  have q6 := new_cell (w.alloc (.cells #[.int .u16 6, .int .u8 jt, .int .u8 jf, .int .u32 k] 70)) #[.int .u32 d.nr, .int .u32 d.ar, .int .u64 d.ip, .int .u64 d.x0, .int .u64 d.x1, .int .u64 d.x2, .int .u64 d.x3, .int .u64 d.x4, .int .u64 d.x5] 48 6 rfl
  have q7 := new_cell (w.alloc (.cells #[.int .u16 6, .int .u8 jt, .int .u8 jf, .int .u32 k] 70)) #[.int .u32 d.nr, .int .u32 d.ar, .int .u64 d.ip, .int .u64 d.x0, .int .u64 d.x1, .int .u64 d.x2, .int .u64 d.x3, .int .u64 d.x4, .int .u64 d.x5] 48 7 rfl
  have q8 := new_cell (w.alloc (.cells #[.int .u16 6, .int .u8 jt, .int .u8 jf, .int .u32 k] 70)) #[.int .u32 d.nr, .int .u32 d.ar, .int .u64 d.ip, .int .u64 d.x0, .int .u64 d.x1, .int .u64 d.x2, .int .u64 d.x3, .int .u64 d.x4, .int .u64 d.x5] 48 8 rfl
  rw [hsz] at q0 q1 q2 q3 q4 q5 q6 q7 q8
  obtain ⟨W, hW⟩ : ∃ W, (w.alloc (.cells #[.int .u16 6, .int .u8 jt, .int .u8 jf, .int .u32 k] 70)).alloc (.cells #[.int .u32 d.nr, .int .u32 d.ar, .int .u64 d.ip, .int .u64 d.x0, .int .u64 d.x1, .int .u64 d.x2, .int .u64 d.x3, .int .u64 d.x4, .int .u64 d.x5] 48) = W := ⟨_, rfl⟩
  have hB := hb0.trans (hb1.mono hb0.size)
  rw [hW] at hB hb1 r0 r1 r2 r3 q0 q1 q2 q3 q4 q5 q6 q7 q8
  have hm' := hm.below hB
  have hbl := hm.lt
  have HM := Lib.hid hm'
  have HB := Lib.hid hB
  clear hb0 hb1 hB hm hm'
  clear  hzz
  go_enter Try.func48, Try.ntmps48
  go_wp2_with (go_at_call 64; (with_reducible refine (M.out _ HM.out).mono ?_); rintro e_ w1 ⟨rfl, hm1, hu1⟩)
  go_ret
  exact ⟨rfl, hm1, (below_upto HB.out).then hu1⟩
set_option maxHeartbeats 4000000 in
theorem step_84 (b : Nat) (a x jt jf k ans : Int) (mv : Value) (ov : Bool) (d : Dat) (w : World) (hm : Mach w b a x mv ov ans)  : Calls Try.prog 48 #[.pointer (some ⟨b, 0, none⟩), .agg #[.int .u16 84, .int .u8 jt, .int .u8 jf, .int .u32 k], .agg d.arr] w (StepPost b w 0 (bits .and .u32 a k) x mv ov ans) := by
  have M := Lib.hid (fun W (hM : True) => moves_84 b a x jt jf k ans mv ov d W)
  obtain ⟨zz, hzz⟩ : ∃ z, d.word k = z := ⟨_, rfl⟩
  try rw [hzz] at M ⊢
  unfold Dat.arr at M ⊢
  have hb0 := below_alloc w (.cells #[.int .u16 84, .int .u8 jt, .int .u8 jf, .int .u32 k] 70)
  have hb1 := below_alloc (w.alloc (.cells #[.int .u16 84, .int .u8 jt, .int .u8 jf, .int .u32 k] 70)) (.cells #[.int .u32 d.nr, .int .u32 d.ar, .int .u64 d.ip, .int .u64 d.x0, .int .u64 d.x1, .int .u64 d.x2, .int .u64 d.x3, .int .u64 d.x4, .int .u64 d.x5] 48)
  have hsz : (w.alloc (.cells #[.int .u16 84, .int .u8 jt, .int .u8 jf, .int .u32 k] 70)).heap.size = w.heap.size + 1 := by simp
  have r0 := keep_cell hb1 (new_cell w #[.int .u16 84, .int .u8 jt, .int .u8 jf, .int .u32 k] 70 0 rfl)
  have r1 := keep_cell hb1 (new_cell w #[.int .u16 84, .int .u8 jt, .int .u8 jf, .int .u32 k] 70 1 rfl)
  have r2 := keep_cell hb1 (new_cell w #[.int .u16 84, .int .u8 jt, .int .u8 jf, .int .u32 k] 70 2 rfl)
  have r3 := keep_cell hb1 (new_cell w #[.int .u16 84, .int .u8 jt, .int .u8 jf, .int .u32 k] 70 3 rfl)
  have q0 := new_cell (w.alloc (.cells #[.int .u16 84, .int .u8 jt, .int .u8 jf, .int .u32 k] 70)) #[.int .u32 d.nr, .int .u32 d.ar, .int .u64 d.ip, .int .u64 d.x0, .int .u64 d.x1, .int .u64 d.x2, .int .u64 d.x3, .int .u64 d.x4, .int .u64 d.x5] 48 0 rfl
  have q1 := new_cell (w.alloc (.cells #[.int .u16 84, .int .u8 jt, .int .u8 jf, .int .u32 k] 70)) #[.int .u32 d.nr, .int .u32 d.ar, .int .u64 d.ip, .int .u64 d.x0, .int .u64 d.x1, .int .u64 d.x2, .int .u64 d.x3, .int .u64 d.x4, .int .u64 d.x5] 48 1 rfl
  have q2 := new_cell (w.alloc (.cells #[.int .u16 84, .int .u8 jt, .int .u8 jf, .int .u32 k] 70)) #[.int .u32 d.nr, .int .u32 d.ar, .int .u64 d.ip, .int .u64 d.x0, .int .u64 d.x1, .int .u64 d.x2, .int .u64 d.x3, .int .u64 d.x4, .int .u64 d.x5] 48 2 rfl
  have q3 := new_cell (w.alloc (.cells #[.int .u16 84, .int .u8 jt, .int .u8 jf, .int .u32 k] 70)) #[.int .u32 d.nr, .int .u32 d.ar, .int .u64 d.ip, .int .u64 d.x0, .int .u64 d.x1, .int .u64 d.x2, .int .u64 d.x3, .int .u64 d.x4, .int .u64 d.x5] 48 3 rfl
  have q4 := new_cell (w.alloc (.cells #[.int .u16 84, .int .u8 jt, .int .u8 jf, .int .u32 k] 70)) #[.int .u32 d.nr, .int .u32 d.ar, .int .u64 d.ip, .int .u64 d.x0, .int .u64 d.x1, .int .u64 d.x2, .int .u64 d.x3, .int .u64 d.x4, .int .u64 d.x5] 48 4 rfl
  have q5 := new_cell (w.alloc (.cells #[.int .u16 84, .int .u8 jt, .int .u8 jf, .int .u32 k] 70)) #[.int .u32 d.nr, .int .u32 d.ar, .int .u64 d.ip, .int .u64 d.x0, .int .u64 d.x1, .int .u64 d.x2, .int .u64 d.x3, .int .u64 d.x4, .int .u64 d.x5] 48 5 rfl
  have q6 := new_cell (w.alloc (.cells #[.int .u16 84, .int .u8 jt, .int .u8 jf, .int .u32 k] 70)) #[.int .u32 d.nr, .int .u32 d.ar, .int .u64 d.ip, .int .u64 d.x0, .int .u64 d.x1, .int .u64 d.x2, .int .u64 d.x3, .int .u64 d.x4, .int .u64 d.x5] 48 6 rfl
  have q7 := new_cell (w.alloc (.cells #[.int .u16 84, .int .u8 jt, .int .u8 jf, .int .u32 k] 70)) #[.int .u32 d.nr, .int .u32 d.ar, .int .u64 d.ip, .int .u64 d.x0, .int .u64 d.x1, .int .u64 d.x2, .int .u64 d.x3, .int .u64 d.x4, .int .u64 d.x5] 48 7 rfl
  have q8 := new_cell (w.alloc (.cells #[.int .u16 84, .int .u8 jt, .int .u8 jf, .int .u32 k] 70)) #[.int .u32 d.nr, .int .u32 d.ar, .int .u64 d.ip, .int .u64 d.x0, .int .u64 d.x1, .int .u64 d.x2, .int .u64 d.x3, .int .u64 d.x4, .int .u64 d.x5] 48 8 rfl
  rw [hsz] at q0 q1 q2 q3 q4 q5 q6 q7 q8
  obtain ⟨W, hW⟩ : ∃ W, (w.alloc (.cells #[.int .u16 84, .int .u8 jt, .int .u8 jf, .int .u32 k] 70)).alloc (.cells #[.int .u32 d.nr, .int .u32 d.ar, .int .u64 d.ip, .int .u64 d.x0, .int .u64 d.x1, .int .u64 d.x2, .int .u64 d.x3, .int .u64 d.x4, .int .u64 d.x5] 48) = W := ⟨_, rfl⟩
  have hB := hb0.trans (hb1.mono hb0.size)
  rw [hW] at hB hb1 r0 r1 r2 r3 q0 q1 q2 q3 q4 q5 q6 q7 q8
  have hm' := hm.below hB
  have hbl := hm.lt
  have HM := Lib.hid hm'
  have HB := Lib.hid hB
  clear hb0 hb1 hB hm hm'
  go_enter Try.func48, Try.ntmps48
  go_upto_region 3 with (go_at_call 64; (with_reducible refine (M.out _ trivial).mono ?_); rintro e_ w1 ⟨rfl, hb1⟩; have m1 := HM.out.below hb1; have d0 := keep_cell hb1 r0; have d1 := keep_cell hb1 r1; have d2 := keep_cell hb1 r2; have d3 := keep_cell hb1 r3; clear r0 r1 r2 r3 q0 q1 q2 q3 q4 q5 q6 q7 q8)
  have hdm := m1.below (show Below w1.heap.size w1 (w1.drewN 0) from Below.refl _ _)
  have HM1 := Lib.hid m1
  have hbits : bits .and .u16 84 8 = 0 := by decide
  clear m1 hdm
  go_quiet (fail)
  go_wp2_with (go_at_call 66; (with_reducible refine (reckon_84 b a x k ans mv ov _ (HM1.out.below (below_drewR (Below.refl _ _) _))).mono ?_); rintro e_ w2 ⟨rfl, hm2, hu2⟩)
  go_ret
  exact ⟨rfl, hm2, ((below_upto HB.out).below (below_drewR hb1 _)).then hu2⟩
set_option maxHeartbeats 4000000 in
theorem step_21 (b : Nat) (a x jt jf k ans : Int) (mv : Value) (ov : Bool) (d : Dat) (w : World) (hm : Mach w b a x mv ov ans) (t : Bool) (ht : (a == k) = t) (hj : 0 ≤ jt) (hj2 : jt < 256) (hj3 : 0 ≤ jf) (hj4 : jf < 256) : Calls Try.prog 48 #[.pointer (some ⟨b, 0, none⟩), .agg #[.int .u16 21, .int .u8 jt, .int .u8 jf, .int .u32 k], .agg d.arr] w (StepPost b w (if t then jt else jf) a x mv ov ans) := by
  have M := Lib.hid (fun W (hM : True) => moves_21 b a x jt jf k ans mv ov d W)
  obtain ⟨zz, hzz⟩ : ∃ z, d.word k = z := ⟨_, rfl⟩
  try rw [hzz] at M ⊢
  unfold Dat.arr at M ⊢
  have hb0 := below_alloc w (.cells #[.int .u16 21, .int .u8 jt, .int .u8 jf, .int .u32 k] 70)
  have hb1 := below_alloc (w.alloc (.cells #[.int .u16 21, .int .u8 jt, .int .u8 jf, .int .u32 k] 70)) (.cells #[.int .u32 d.nr, .int .u32 d.ar, .int .u64 d.ip, .int .u64 d.x0, .int .u64 d.x1, .int .u64 d.x2, .int .u64 d.x3, .int .u64 d.x4, .int .u64 d.x5] 48)
  have hsz : (w.alloc (.cells #[.int .u16 21, .int .u8 jt, .int .u8 jf, .int .u32 k] 70)).heap.size = w.heap.size + 1 := by simp
  have r0 := keep_cell hb1 (new_cell w #[.int .u16 21, .int .u8 jt, .int .u8 jf, .int .u32 k] 70 0 rfl)
  have r1 := keep_cell hb1 (new_cell w #[.int .u16 21, .int .u8 jt, .int .u8 jf, .int .u32 k] 70 1 rfl)
  have r2 := keep_cell hb1 (new_cell w #[.int .u16 21, .int .u8 jt, .int .u8 jf, .int .u32 k] 70 2 rfl)
  have r3 := keep_cell hb1 (new_cell w #[.int .u16 21, .int .u8 jt, .int .u8 jf, .int .u32 k] 70 3 rfl)
  have q0 := new_cell (w.alloc (.cells #[.int .u16 21, .int .u8 jt, .int .u8 jf, .int .u32 k] 70)) #[.int .u32 d.nr, .int .u32 d.ar, .int .u64 d.ip, .int .u64 d.x0, .int .u64 d.x1, .int .u64 d.x2, .int .u64 d.x3, .int .u64 d.x4, .int .u64 d.x5] 48 0 rfl
  have q1 := new_cell (w.alloc (.cells #[.int .u16 21, .int .u8 jt, .int .u8 jf, .int .u32 k] 70)) #[.int .u32 d.nr, .int .u32 d.ar, .int .u64 d.ip, .int .u64 d.x0, .int .u64 d.x1, .int .u64 d.x2, .int .u64 d.x3, .int .u64 d.x4, .int .u64 d.x5] 48 1 rfl
  have q2 := new_cell (w.alloc (.cells #[.int .u16 21, .int .u8 jt, .int .u8 jf, .int .u32 k] 70)) #[.int .u32 d.nr, .int .u32 d.ar, .int .u64 d.ip, .int .u64 d.x0, .int .u64 d.x1, .int .u64 d.x2, .int .u64 d.x3, .int .u64 d.x4, .int .u64 d.x5] 48 2 rfl
  have q3 := new_cell (w.alloc (.cells #[.int .u16 21, .int .u8 jt, .int .u8 jf, .int .u32 k] 70)) #[.int .u32 d.nr, .int .u32 d.ar, .int .u64 d.ip, .int .u64 d.x0, .int .u64 d.x1, .int .u64 d.x2, .int .u64 d.x3, .int .u64 d.x4, .int .u64 d.x5] 48 3 rfl
  have q4 := new_cell (w.alloc (.cells #[.int .u16 21, .int .u8 jt, .int .u8 jf, .int .u32 k] 70)) #[.int .u32 d.nr, .int .u32 d.ar, .int .u64 d.ip, .int .u64 d.x0, .int .u64 d.x1, .int .u64 d.x2, .int .u64 d.x3, .int .u64 d.x4, .int .u64 d.x5] 48 4 rfl
  have q5 := new_cell (w.alloc (.cells #[.int .u16 21, .int .u8 jt, .int .u8 jf, .int .u32 k] 70)) #[.int .u32 d.nr, .int .u32 d.ar, .int .u64 d.ip, .int .u64 d.x0, .int .u64 d.x1, .int .u64 d.x2, .int .u64 d.x3, .int .u64 d.x4, .int .u64 d.x5] 48 5 rfl
  have q6 := new_cell (w.alloc (.cells #[.int .u16 21, .int .u8 jt, .int .u8 jf, .int .u32 k] 70)) #[.int .u32 d.nr, .int .u32 d.ar, .int .u64 d.ip, .int .u64 d.x0, .int .u64 d.x1, .int .u64 d.x2, .int .u64 d.x3, .int .u64 d.x4, .int .u64 d.x5] 48 6 rfl
  have q7 := new_cell (w.alloc (.cells #[.int .u16 21, .int .u8 jt, .int .u8 jf, .int .u32 k] 70)) #[.int .u32 d.nr, .int .u32 d.ar, .int .u64 d.ip, .int .u64 d.x0, .int .u64 d.x1, .int .u64 d.x2, .int .u64 d.x3, .int .u64 d.x4, .int .u64 d.x5] 48 7 rfl
  have q8 := new_cell (w.alloc (.cells #[.int .u16 21, .int .u8 jt, .int .u8 jf, .int .u32 k] 70)) #[.int .u32 d.nr, .int .u32 d.ar, .int .u64 d.ip, .int .u64 d.x0, .int .u64 d.x1, .int .u64 d.x2, .int .u64 d.x3, .int .u64 d.x4, .int .u64 d.x5] 48 8 rfl
  rw [hsz] at q0 q1 q2 q3 q4 q5 q6 q7 q8
  obtain ⟨W, hW⟩ : ∃ W, (w.alloc (.cells #[.int .u16 21, .int .u8 jt, .int .u8 jf, .int .u32 k] 70)).alloc (.cells #[.int .u32 d.nr, .int .u32 d.ar, .int .u64 d.ip, .int .u64 d.x0, .int .u64 d.x1, .int .u64 d.x2, .int .u64 d.x3, .int .u64 d.x4, .int .u64 d.x5] 48) = W := ⟨_, rfl⟩
  have hB := hb0.trans (hb1.mono hb0.size)
  rw [hW] at hB hb1 r0 r1 r2 r3 q0 q1 q2 q3 q4 q5 q6 q7 q8
  have hm' := hm.below hB
  have hbl := hm.lt
  have HM := Lib.hid hm'
  have HB := Lib.hid hB
  clear hb0 hb1 hB hm hm'
  have MH := Lib.hid (fun W (hM : Mach W b a x mv ov ans) => mholds_21 b a x k ans mv ov W hM)
  rw [ht] at MH
  have w3 : IntKind.i64.wrap jt = jt := IntWalk.i64_in _ (by omega)
  have w4 : IntKind.i64.wrap jf = jf := IntWalk.i64_in _ (by omega)
  clear ht hzz
  go_enter Try.func48, Try.ntmps48
  go_upto_region 3 with (go_at_call 64; (with_reducible refine (M.out _ trivial).mono ?_); rintro e_ w1 ⟨rfl, hb1⟩; have m1 := HM.out.below hb1; have d0 := keep_cell hb1 r0; have d1 := keep_cell hb1 r1; have d2 := keep_cell hb1 r2; have d3 := keep_cell hb1 r3; clear r0 r1 r2 r3 q0 q1 q2 q3 q4 q5 q6 q7 q8)
  have hdm := m1.below (show Below w1.heap.size w1 (w1.drewN 0) from Below.refl _ _)
  have HM1 := Lib.hid m1
  have hbits : bits .and .u16 21 8 = 0 := by decide
  clear m1 hdm
  go_quiet (fail)
  cases t
  all_goals
    simp only [if_true, if_false, Bool.false_eq_true]
    go_wp2_with (go_at_call 65; (with_reducible refine (MH.out _ (HM1.out.below (below_drewR (Below.refl _ _) _))).mono ?_); rintro e_ w2 ⟨rfl, rfl⟩)
    go_ret
    exact ⟨rfl, HM1.out.below (below_drewR (Below.refl _ _) _), ((below_upto HB.out).below (below_drewR hb1 _))⟩
set_option maxHeartbeats 4000000 in
theorem step_37 (b : Nat) (a x jt jf k ans : Int) (mv : Value) (ov : Bool) (d : Dat) (w : World) (hm : Mach w b a x mv ov ans) (t : Bool) (ht : (decide (k < a)) = t) (hj : 0 ≤ jt) (hj2 : jt < 256) (hj3 : 0 ≤ jf) (hj4 : jf < 256) : Calls Try.prog 48 #[.pointer (some ⟨b, 0, none⟩), .agg #[.int .u16 37, .int .u8 jt, .int .u8 jf, .int .u32 k], .agg d.arr] w (StepPost b w (if t then jt else jf) a x mv ov ans) := by
  have M := Lib.hid (fun W (hM : True) => moves_37 b a x jt jf k ans mv ov d W)
  obtain ⟨zz, hzz⟩ : ∃ z, d.word k = z := ⟨_, rfl⟩
  try rw [hzz] at M ⊢
  unfold Dat.arr at M ⊢
  have hb0 := below_alloc w (.cells #[.int .u16 37, .int .u8 jt, .int .u8 jf, .int .u32 k] 70)
  have hb1 := below_alloc (w.alloc (.cells #[.int .u16 37, .int .u8 jt, .int .u8 jf, .int .u32 k] 70)) (.cells #[.int .u32 d.nr, .int .u32 d.ar, .int .u64 d.ip, .int .u64 d.x0, .int .u64 d.x1, .int .u64 d.x2, .int .u64 d.x3, .int .u64 d.x4, .int .u64 d.x5] 48)
  have hsz : (w.alloc (.cells #[.int .u16 37, .int .u8 jt, .int .u8 jf, .int .u32 k] 70)).heap.size = w.heap.size + 1 := by simp
  have r0 := keep_cell hb1 (new_cell w #[.int .u16 37, .int .u8 jt, .int .u8 jf, .int .u32 k] 70 0 rfl)
  have r1 := keep_cell hb1 (new_cell w #[.int .u16 37, .int .u8 jt, .int .u8 jf, .int .u32 k] 70 1 rfl)
  have r2 := keep_cell hb1 (new_cell w #[.int .u16 37, .int .u8 jt, .int .u8 jf, .int .u32 k] 70 2 rfl)
  have r3 := keep_cell hb1 (new_cell w #[.int .u16 37, .int .u8 jt, .int .u8 jf, .int .u32 k] 70 3 rfl)
  have q0 := new_cell (w.alloc (.cells #[.int .u16 37, .int .u8 jt, .int .u8 jf, .int .u32 k] 70)) #[.int .u32 d.nr, .int .u32 d.ar, .int .u64 d.ip, .int .u64 d.x0, .int .u64 d.x1, .int .u64 d.x2, .int .u64 d.x3, .int .u64 d.x4, .int .u64 d.x5] 48 0 rfl
  have q1 := new_cell (w.alloc (.cells #[.int .u16 37, .int .u8 jt, .int .u8 jf, .int .u32 k] 70)) #[.int .u32 d.nr, .int .u32 d.ar, .int .u64 d.ip, .int .u64 d.x0, .int .u64 d.x1, .int .u64 d.x2, .int .u64 d.x3, .int .u64 d.x4, .int .u64 d.x5] 48 1 rfl
  have q2 := new_cell (w.alloc (.cells #[.int .u16 37, .int .u8 jt, .int .u8 jf, .int .u32 k] 70)) #[.int .u32 d.nr, .int .u32 d.ar, .int .u64 d.ip, .int .u64 d.x0, .int .u64 d.x1, .int .u64 d.x2, .int .u64 d.x3, .int .u64 d.x4, .int .u64 d.x5] 48 2 rfl
  have q3 := new_cell (w.alloc (.cells #[.int .u16 37, .int .u8 jt, .int .u8 jf, .int .u32 k] 70)) #[.int .u32 d.nr, .int .u32 d.ar, .int .u64 d.ip, .int .u64 d.x0, .int .u64 d.x1, .int .u64 d.x2, .int .u64 d.x3, .int .u64 d.x4, .int .u64 d.x5] 48 3 rfl
  have q4 := new_cell (w.alloc (.cells #[.int .u16 37, .int .u8 jt, .int .u8 jf, .int .u32 k] 70)) #[.int .u32 d.nr, .int .u32 d.ar, .int .u64 d.ip, .int .u64 d.x0, .int .u64 d.x1, .int .u64 d.x2, .int .u64 d.x3, .int .u64 d.x4, .int .u64 d.x5] 48 4 rfl
  have q5 := new_cell (w.alloc (.cells #[.int .u16 37, .int .u8 jt, .int .u8 jf, .int .u32 k] 70)) #[.int .u32 d.nr, .int .u32 d.ar, .int .u64 d.ip, .int .u64 d.x0, .int .u64 d.x1, .int .u64 d.x2, .int .u64 d.x3, .int .u64 d.x4, .int .u64 d.x5] 48 5 rfl
  have q6 := new_cell (w.alloc (.cells #[.int .u16 37, .int .u8 jt, .int .u8 jf, .int .u32 k] 70)) #[.int .u32 d.nr, .int .u32 d.ar, .int .u64 d.ip, .int .u64 d.x0, .int .u64 d.x1, .int .u64 d.x2, .int .u64 d.x3, .int .u64 d.x4, .int .u64 d.x5] 48 6 rfl
  have q7 := new_cell (w.alloc (.cells #[.int .u16 37, .int .u8 jt, .int .u8 jf, .int .u32 k] 70)) #[.int .u32 d.nr, .int .u32 d.ar, .int .u64 d.ip, .int .u64 d.x0, .int .u64 d.x1, .int .u64 d.x2, .int .u64 d.x3, .int .u64 d.x4, .int .u64 d.x5] 48 7 rfl
  have q8 := new_cell (w.alloc (.cells #[.int .u16 37, .int .u8 jt, .int .u8 jf, .int .u32 k] 70)) #[.int .u32 d.nr, .int .u32 d.ar, .int .u64 d.ip, .int .u64 d.x0, .int .u64 d.x1, .int .u64 d.x2, .int .u64 d.x3, .int .u64 d.x4, .int .u64 d.x5] 48 8 rfl
  rw [hsz] at q0 q1 q2 q3 q4 q5 q6 q7 q8
  obtain ⟨W, hW⟩ : ∃ W, (w.alloc (.cells #[.int .u16 37, .int .u8 jt, .int .u8 jf, .int .u32 k] 70)).alloc (.cells #[.int .u32 d.nr, .int .u32 d.ar, .int .u64 d.ip, .int .u64 d.x0, .int .u64 d.x1, .int .u64 d.x2, .int .u64 d.x3, .int .u64 d.x4, .int .u64 d.x5] 48) = W := ⟨_, rfl⟩
  have hB := hb0.trans (hb1.mono hb0.size)
  rw [hW] at hB hb1 r0 r1 r2 r3 q0 q1 q2 q3 q4 q5 q6 q7 q8
  have hm' := hm.below hB
  have hbl := hm.lt
  have HM := Lib.hid hm'
  have HB := Lib.hid hB
  clear hb0 hb1 hB hm hm'
  have MH := Lib.hid (fun W (hM : Mach W b a x mv ov ans) => mholds_37 b a x k ans mv ov W hM)
  rw [ht] at MH
  have w3 : IntKind.i64.wrap jt = jt := IntWalk.i64_in _ (by omega)
  have w4 : IntKind.i64.wrap jf = jf := IntWalk.i64_in _ (by omega)
  clear ht hzz
  go_enter Try.func48, Try.ntmps48
  go_upto_region 3 with (go_at_call 64; (with_reducible refine (M.out _ trivial).mono ?_); rintro e_ w1 ⟨rfl, hb1⟩; have m1 := HM.out.below hb1; have d0 := keep_cell hb1 r0; have d1 := keep_cell hb1 r1; have d2 := keep_cell hb1 r2; have d3 := keep_cell hb1 r3; clear r0 r1 r2 r3 q0 q1 q2 q3 q4 q5 q6 q7 q8)
  have hdm := m1.below (show Below w1.heap.size w1 (w1.drewN 0) from Below.refl _ _)
  have HM1 := Lib.hid m1
  have hbits : bits .and .u16 37 8 = 0 := by decide
  clear m1 hdm
  go_quiet (fail)
  cases t
  all_goals
    simp only [if_true, if_false, Bool.false_eq_true]
    go_wp2_with (go_at_call 65; (with_reducible refine (MH.out _ (HM1.out.below (below_drewR (Below.refl _ _) _))).mono ?_); rintro e_ w2 ⟨rfl, rfl⟩)
    go_ret
    exact ⟨rfl, HM1.out.below (below_drewR (Below.refl _ _) _), ((below_upto HB.out).below (below_drewR hb1 _))⟩
set_option maxHeartbeats 4000000 in
theorem step_53 (b : Nat) (a x jt jf k ans : Int) (mv : Value) (ov : Bool) (d : Dat) (w : World) (hm : Mach w b a x mv ov ans) (t : Bool) (ht : (decide (k ≤ a)) = t) (hj : 0 ≤ jt) (hj2 : jt < 256) (hj3 : 0 ≤ jf) (hj4 : jf < 256) : Calls Try.prog 48 #[.pointer (some ⟨b, 0, none⟩), .agg #[.int .u16 53, .int .u8 jt, .int .u8 jf, .int .u32 k], .agg d.arr] w (StepPost b w (if t then jt else jf) a x mv ov ans) := by
  have M := Lib.hid (fun W (hM : True) => moves_53 b a x jt jf k ans mv ov d W)
  obtain ⟨zz, hzz⟩ : ∃ z, d.word k = z := ⟨_, rfl⟩
  try rw [hzz] at M ⊢
  unfold Dat.arr at M ⊢
  have hb0 := below_alloc w (.cells #[.int .u16 53, .int .u8 jt, .int .u8 jf, .int .u32 k] 70)
  have hb1 := below_alloc (w.alloc (.cells #[.int .u16 53, .int .u8 jt, .int .u8 jf, .int .u32 k] 70)) (.cells #[.int .u32 d.nr, .int .u32 d.ar, .int .u64 d.ip, .int .u64 d.x0, .int .u64 d.x1, .int .u64 d.x2, .int .u64 d.x3, .int .u64 d.x4, .int .u64 d.x5] 48)
  have hsz : (w.alloc (.cells #[.int .u16 53, .int .u8 jt, .int .u8 jf, .int .u32 k] 70)).heap.size = w.heap.size + 1 := by simp
  have r0 := keep_cell hb1 (new_cell w #[.int .u16 53, .int .u8 jt, .int .u8 jf, .int .u32 k] 70 0 rfl)
  have r1 := keep_cell hb1 (new_cell w #[.int .u16 53, .int .u8 jt, .int .u8 jf, .int .u32 k] 70 1 rfl)
  have r2 := keep_cell hb1 (new_cell w #[.int .u16 53, .int .u8 jt, .int .u8 jf, .int .u32 k] 70 2 rfl)
  have r3 := keep_cell hb1 (new_cell w #[.int .u16 53, .int .u8 jt, .int .u8 jf, .int .u32 k] 70 3 rfl)
  have q0 := new_cell (w.alloc (.cells #[.int .u16 53, .int .u8 jt, .int .u8 jf, .int .u32 k] 70)) #[.int .u32 d.nr, .int .u32 d.ar, .int .u64 d.ip, .int .u64 d.x0, .int .u64 d.x1, .int .u64 d.x2, .int .u64 d.x3, .int .u64 d.x4, .int .u64 d.x5] 48 0 rfl
  have q1 := new_cell (w.alloc (.cells #[.int .u16 53, .int .u8 jt, .int .u8 jf, .int .u32 k] 70)) #[.int .u32 d.nr, .int .u32 d.ar, .int .u64 d.ip, .int .u64 d.x0, .int .u64 d.x1, .int .u64 d.x2, .int .u64 d.x3, .int .u64 d.x4, .int .u64 d.x5] 48 1 rfl
  have q2 := new_cell (w.alloc (.cells #[.int .u16 53, .int .u8 jt, .int .u8 jf, .int .u32 k] 70)) #[.int .u32 d.nr, .int .u32 d.ar, .int .u64 d.ip, .int .u64 d.x0, .int .u64 d.x1, .int .u64 d.x2, .int .u64 d.x3, .int .u64 d.x4, .int .u64 d.x5] 48 2 rfl
  have q3 := new_cell (w.alloc (.cells #[.int .u16 53, .int .u8 jt, .int .u8 jf, .int .u32 k] 70)) #[.int .u32 d.nr, .int .u32 d.ar, .int .u64 d.ip, .int .u64 d.x0, .int .u64 d.x1, .int .u64 d.x2, .int .u64 d.x3, .int .u64 d.x4, .int .u64 d.x5] 48 3 rfl
  have q4 := new_cell (w.alloc (.cells #[.int .u16 53, .int .u8 jt, .int .u8 jf, .int .u32 k] 70)) #[.int .u32 d.nr, .int .u32 d.ar, .int .u64 d.ip, .int .u64 d.x0, .int .u64 d.x1, .int .u64 d.x2, .int .u64 d.x3, .int .u64 d.x4, .int .u64 d.x5] 48 4 rfl
  have q5 := new_cell (w.alloc (.cells #[.int .u16 53, .int .u8 jt, .int .u8 jf, .int .u32 k] 70)) #[.int .u32 d.nr, .int .u32 d.ar, .int .u64 d.ip, .int .u64 d.x0, .int .u64 d.x1, .int .u64 d.x2, .int .u64 d.x3, .int .u64 d.x4, .int .u64 d.x5] 48 5 rfl
  have q6 := new_cell (w.alloc (.cells #[.int .u16 53, .int .u8 jt, .int .u8 jf, .int .u32 k] 70)) #[.int .u32 d.nr, .int .u32 d.ar, .int .u64 d.ip, .int .u64 d.x0, .int .u64 d.x1, .int .u64 d.x2, .int .u64 d.x3, .int .u64 d.x4, .int .u64 d.x5] 48 6 rfl
  have q7 := new_cell (w.alloc (.cells #[.int .u16 53, .int .u8 jt, .int .u8 jf, .int .u32 k] 70)) #[.int .u32 d.nr, .int .u32 d.ar, .int .u64 d.ip, .int .u64 d.x0, .int .u64 d.x1, .int .u64 d.x2, .int .u64 d.x3, .int .u64 d.x4, .int .u64 d.x5] 48 7 rfl
  have q8 := new_cell (w.alloc (.cells #[.int .u16 53, .int .u8 jt, .int .u8 jf, .int .u32 k] 70)) #[.int .u32 d.nr, .int .u32 d.ar, .int .u64 d.ip, .int .u64 d.x0, .int .u64 d.x1, .int .u64 d.x2, .int .u64 d.x3, .int .u64 d.x4, .int .u64 d.x5] 48 8 rfl
  rw [hsz] at q0 q1 q2 q3 q4 q5 q6 q7 q8
  obtain ⟨W, hW⟩ : ∃ W, (w.alloc (.cells #[.int .u16 53, .int .u8 jt, .int .u8 jf, .int .u32 k] 70)).alloc (.cells #[.int .u32 d.nr, .int .u32 d.ar, .int .u64 d.ip, .int .u64 d.x0, .int .u64 d.x1, .int .u64 d.x2, .int .u64 d.x3, .int .u64 d.x4, .int .u64 d.x5] 48) = W := ⟨_, rfl⟩
  have hB := hb0.trans (hb1.mono hb0.size)
  rw [hW] at hB hb1 r0 r1 r2 r3 q0 q1 q2 q3 q4 q5 q6 q7 q8
  have hm' := hm.below hB
  have hbl := hm.lt
  have HM := Lib.hid hm'
  have HB := Lib.hid hB
  clear hb0 hb1 hB hm hm'
  have MH := Lib.hid (fun W (hM : Mach W b a x mv ov ans) => mholds_53 b a x k ans mv ov W hM)
  rw [ht] at MH
  have w3 : IntKind.i64.wrap jt = jt := IntWalk.i64_in _ (by omega)
  have w4 : IntKind.i64.wrap jf = jf := IntWalk.i64_in _ (by omega)
  clear ht hzz
  go_enter Try.func48, Try.ntmps48
  go_upto_region 3 with (go_at_call 64; (with_reducible refine (M.out _ trivial).mono ?_); rintro e_ w1 ⟨rfl, hb1⟩; have m1 := HM.out.below hb1; have d0 := keep_cell hb1 r0; have d1 := keep_cell hb1 r1; have d2 := keep_cell hb1 r2; have d3 := keep_cell hb1 r3; clear r0 r1 r2 r3 q0 q1 q2 q3 q4 q5 q6 q7 q8)
  have hdm := m1.below (show Below w1.heap.size w1 (w1.drewN 0) from Below.refl _ _)
  have HM1 := Lib.hid m1
  have hbits : bits .and .u16 53 8 = 0 := by decide
  clear m1 hdm
  go_quiet (fail)
  cases t
  all_goals
    simp only [if_true, if_false, Bool.false_eq_true]
    go_wp2_with (go_at_call 65; (with_reducible refine (MH.out _ (HM1.out.below (below_drewR (Below.refl _ _) _))).mono ?_); rintro e_ w2 ⟨rfl, rfl⟩)
    go_ret
    exact ⟨rfl, HM1.out.below (below_drewR (Below.refl _ _) _), ((below_upto HB.out).below (below_drewR hb1 _))⟩
set_option maxHeartbeats 4000000 in
theorem step_5 (b : Nat) (a x jt jf k ans : Int) (mv : Value) (ov : Bool) (d : Dat) (w : World) (hm : Mach w b a x mv ov ans) (hj : 0 ≤ k) (hj2 : k < 4294967296) : Calls Try.prog 48 #[.pointer (some ⟨b, 0, none⟩), .agg #[.int .u16 5, .int .u8 jt, .int .u8 jf, .int .u32 k], .agg d.arr] w (StepPost b w k a x mv ov ans) := by
  have M := Lib.hid (fun W (hM : True) => moves_5 b a x jt jf k ans mv ov d W)
  obtain ⟨zz, hzz⟩ : ∃ z, d.word k = z := ⟨_, rfl⟩
  try rw [hzz] at M ⊢
  unfold Dat.arr at M ⊢
  have hb0 := below_alloc w (.cells #[.int .u16 5, .int .u8 jt, .int .u8 jf, .int .u32 k] 70)
  have hb1 := below_alloc (w.alloc (.cells #[.int .u16 5, .int .u8 jt, .int .u8 jf, .int .u32 k] 70)) (.cells #[.int .u32 d.nr, .int .u32 d.ar, .int .u64 d.ip, .int .u64 d.x0, .int .u64 d.x1, .int .u64 d.x2, .int .u64 d.x3, .int .u64 d.x4, .int .u64 d.x5] 48)
  have hsz : (w.alloc (.cells #[.int .u16 5, .int .u8 jt, .int .u8 jf, .int .u32 k] 70)).heap.size = w.heap.size + 1 := by simp
  have r0 := keep_cell hb1 (new_cell w #[.int .u16 5, .int .u8 jt, .int .u8 jf, .int .u32 k] 70 0 rfl)
  have r1 := keep_cell hb1 (new_cell w #[.int .u16 5, .int .u8 jt, .int .u8 jf, .int .u32 k] 70 1 rfl)
  have r2 := keep_cell hb1 (new_cell w #[.int .u16 5, .int .u8 jt, .int .u8 jf, .int .u32 k] 70 2 rfl)
  have r3 := keep_cell hb1 (new_cell w #[.int .u16 5, .int .u8 jt, .int .u8 jf, .int .u32 k] 70 3 rfl)
  have q0 := new_cell (w.alloc (.cells #[.int .u16 5, .int .u8 jt, .int .u8 jf, .int .u32 k] 70)) #[.int .u32 d.nr, .int .u32 d.ar, .int .u64 d.ip, .int .u64 d.x0, .int .u64 d.x1, .int .u64 d.x2, .int .u64 d.x3, .int .u64 d.x4, .int .u64 d.x5] 48 0 rfl
  have q1 := new_cell (w.alloc (.cells #[.int .u16 5, .int .u8 jt, .int .u8 jf, .int .u32 k] 70)) #[.int .u32 d.nr, .int .u32 d.ar, .int .u64 d.ip, .int .u64 d.x0, .int .u64 d.x1, .int .u64 d.x2, .int .u64 d.x3, .int .u64 d.x4, .int .u64 d.x5] 48 1 rfl
  have q2 := new_cell (w.alloc (.cells #[.int .u16 5, .int .u8 jt, .int .u8 jf, .int .u32 k] 70)) #[.int .u32 d.nr, .int .u32 d.ar, .int .u64 d.ip, .int .u64 d.x0, .int .u64 d.x1, .int .u64 d.x2, .int .u64 d.x3, .int .u64 d.x4, .int .u64 d.x5] 48 2 rfl
  have q3 := new_cell (w.alloc (.cells #[.int .u16 5, .int .u8 jt, .int .u8 jf, .int .u32 k] 70)) #[.int .u32 d.nr, .int .u32 d.ar, .int .u64 d.ip, .int .u64 d.x0, .int .u64 d.x1, .int .u64 d.x2, .int .u64 d.x3, .int .u64 d.x4, .int .u64 d.x5] 48 3 rfl
  have q4 := new_cell (w.alloc (.cells #[.int .u16 5, .int .u8 jt, .int .u8 jf, .int .u32 k] 70)) #[.int .u32 d.nr, .int .u32 d.ar, .int .u64 d.ip, .int .u64 d.x0, .int .u64 d.x1, .int .u64 d.x2, .int .u64 d.x3, .int .u64 d.x4, .int .u64 d.x5] 48 4 rfl
  have q5 := new_cell (w.alloc (.cells #[.int .u16 5, .int .u8 jt, .int .u8 jf, .int .u32 k] 70)) #[.int .u32 d.nr, .int .u32 d.ar, .int .u64 d.ip, .int .u64 d.x0, .int .u64 d.x1, .int .u64 d.x2, .int .u64 d.x3, .int .u64 d.x4, .int .u64 d.x5] 48 5 rfl
  have q6 := new_cell (w.alloc (.cells #[.int .u16 5, .int .u8 jt, .int .u8 jf, .int .u32 k] 70)) #[.int .u32 d.nr, .int .u32 d.ar, .int .u64 d.ip, .int .u64 d.x0, .int .u64 d.x1, .int .u64 d.x2, .int .u64 d.x3, .int .u64 d.x4, .int .u64 d.x5] 48 6 rfl
  have q7 := new_cell (w.alloc (.cells #[.int .u16 5, .int .u8 jt, .int .u8 jf, .int .u32 k] 70)) #[.int .u32 d.nr, .int .u32 d.ar, .int .u64 d.ip, .int .u64 d.x0, .int .u64 d.x1, .int .u64 d.x2, .int .u64 d.x3, .int .u64 d.x4, .int .u64 d.x5] 48 7 rfl
  have q8 := new_cell (w.alloc (.cells #[.int .u16 5, .int .u8 jt, .int .u8 jf, .int .u32 k] 70)) #[.int .u32 d.nr, .int .u32 d.ar, .int .u64 d.ip, .int .u64 d.x0, .int .u64 d.x1, .int .u64 d.x2, .int .u64 d.x3, .int .u64 d.x4, .int .u64 d.x5] 48 8 rfl
  rw [hsz] at q0 q1 q2 q3 q4 q5 q6 q7 q8
  obtain ⟨W, hW⟩ : ∃ W, (w.alloc (.cells #[.int .u16 5, .int .u8 jt, .int .u8 jf, .int .u32 k] 70)).alloc (.cells #[.int .u32 d.nr, .int .u32 d.ar, .int .u64 d.ip, .int .u64 d.x0, .int .u64 d.x1, .int .u64 d.x2, .int .u64 d.x3, .int .u64 d.x4, .int .u64 d.x5] 48) = W := ⟨_, rfl⟩
  have hB := hb0.trans (hb1.mono hb0.size)
  rw [hW] at hB hb1 r0 r1 r2 r3 q0 q1 q2 q3 q4 q5 q6 q7 q8
  have hm' := hm.below hB
  have hbl := hm.lt
  have HM := Lib.hid hm'
  have HB := Lib.hid hB
  clear hb0 hb1 hB hm hm'
  have w3 : IntKind.i64.wrap k = k := IntWalk.i64_in _ (by omega)
  clear hzz
  go_enter Try.func48, Try.ntmps48
  go_upto_region 3 with (go_at_call 64; (with_reducible refine (M.out _ trivial).mono ?_); rintro e_ w1 ⟨rfl, hb1⟩; have m1 := HM.out.below hb1; have d0 := keep_cell hb1 r0; have d1 := keep_cell hb1 r1; have d2 := keep_cell hb1 r2; have d3 := keep_cell hb1 r3; clear r0 r1 r2 r3 q0 q1 q2 q3 q4 q5 q6 q7 q8)
  have hdm := m1.below (show Below w1.heap.size w1 (w1.drewN 0) from Below.refl _ _)
  have HM1 := Lib.hid m1
  have hbits : bits .and .u16 5 8 = 0 := by decide
  clear m1 hdm
  go_quiet (fail)
  go_wp2
  go_ret
  exact ⟨rfl, HM1.out.below (below_drewR (Below.refl _ _) _), ((below_upto HB.out).below (below_drewR hb1 _))⟩
end Go.Proofs.Ytjmmbadpknlmcaa
end
section
/- A program is run: play and Run of the machine. Conditions: its instructions are fine; there are from 1 to 4096 of them; how it runs is told. -/
namespace Go.Proofs.Ytjmmbadpknlmcaa
open Go.RowKit
set_option linter.unusedVariables false
set_option linter.unusedSimpArgs false
set_option maxRecDepth 100000

/-- What is left of a program, run of a call from a number on, answers ans in n steps. -/
inductive Steps (d : Dat) : List Ins → Int → Int → Nat → Prop
  | ret (jt jf k a : Int) (r : List Ins) : Steps d (⟨6, jt, jf, k⟩ :: r) a k 1
  | ld {jt jf k a ans : Int} {r : List Ins} {n : Nat} : Steps d r (d.word k) ans n → Steps d (⟨32, jt, jf, k⟩ :: r) a ans (n + 1)
  | and {jt jf k a ans : Int} {r : List Ins} {n : Nat} : Steps d r (bits .and .u32 a k) ans n → Steps d (⟨84, jt, jf, k⟩ :: r) a ans (n + 1)
  | eq {jt jf k a ans : Int} {r : List Ins} {n : Nat} : Steps d (r.drop (if (a == k) then jt else jf).toNat) a ans n → Steps d (⟨21, jt, jf, k⟩ :: r) a ans (n + 1)
  | gt {jt jf k a ans : Int} {r : List Ins} {n : Nat} : Steps d (r.drop (if decide (k < a) then jt else jf).toNat) a ans n → Steps d (⟨37, jt, jf, k⟩ :: r) a ans (n + 1)
  | ge {jt jf k a ans : Int} {r : List Ins} {n : Nat} : Steps d (r.drop (if decide (k ≤ a) then jt else jf).toNat) a ans n → Steps d (⟨53, jt, jf, k⟩ :: r) a ans (n + 1)
  | ja {jt jf k a ans : Int} {r : List Ins} {n : Nat} : Steps d (r.drop k.toNat) a ans n → Steps d (⟨5, jt, jf, k⟩ :: r) a ans (n + 1)
theorem Steps.ne {d : Dat} {l : List Ins} {a ans : Int} {n : Nat} (h : Steps d l a ans n) : l ≠ [] := by
  cases h <;> simp
theorem count_any (c j s : Nat) (w : World) (hc : w.cell? ⟨c, 0, none⟩ = some (.int .i64 s)) (hz : w.frozen? ⟨c, 0, none⟩ = false) (hs : s ≤ 100000) :
    Calls Try.prog 28 #[.int .i64 j, .pointer (some ⟨c, 0, none⟩)] w (fun e w' => e = .returned (.tuple #[]) ∧ w' = w.setCell ⟨c, 0, none⟩ (.int .i64 ((s + 1 : Nat) : Int))) := by
  have e1 : IntKind.i64.wrap ((s : Int) + 1) = (s : Int) + 1 := IntWalk.i64_in _ (by omega)
  go_enter Try.func28, Try.ntmps28
  go_wp2
  go_end0
  exact ⟨rfl, by go_num⟩
/-- A block of one cell, a counter. -/
def Cnt (w : World) (c : Nat) (s : Nat) : Prop := w.heap[c]? = some (.cells #[.int .i64 s] 3 (0, 0))
section
variable {w w' : World} {c s : Nat}
theorem Cnt.lt (h : Cnt w c s) : c < w.heap.size := (Array.getElem?_eq_some_iff.1 h).1
theorem Cnt.c0 (h : Cnt w c s) : w.cell? ⟨c, 0, none⟩ = some (.int .i64 s) := by unfold World.cell?; rw [h]; rfl
theorem Cnt.fz (h : Cnt w c s) : w.frozen? ⟨c, 0, none⟩ = false := by unfold Cnt at h; simp [World.frozen?, h]
theorem Cnt.upto {S : Nat → Prop} (h : Cnt w c s) (hu : Upto S w w') (hS : ¬ S c) : Cnt w' c s := (hu.block c h.lt hS).trans h
theorem Cnt.set (h : Cnt w c s) (s' : Nat) : Cnt (w.setCell ⟨c, 0, none⟩ (.int .i64 s')) c s' := by
  unfold Cnt World.setCell at *
  simp [Array.getElem?_modify, h]
theorem Cnt.new (w : World) : Cnt (w.alloc (.cells #[.int .i64 0] 3)) w.heap.size 0 := World.alloc_heap_new w _
end
theorem count_cnt (c j s : Nat) (w : World) (hc : Cnt w c s) (hs : s ≤ 100000) : Calls Try.prog 28 #[.int .i64 j, .pointer (some ⟨c, 0, none⟩)] w (fun e w' => e = .returned (.tuple #[]) ∧ Cnt w' c (s + 1) ∧ Upto (fun k => k = c) w w') :=
  (count_any c j s w hc.c0 hc.fz hs).mono fun e w' ⟨h1, h2⟩ => ⟨h1, by rw [h2]; exact hc.set _, by rw [h2]; exact (Upto.refl (fun k => k = c) w).setCell (p := ⟨c, 0, none⟩) (.inl rfl) _⟩
/-- One step, as the machine does it. -/
theorem step_fine {d : Dat} {i : Ins} {r : List Ins} {a ans : Int} {n : Nat} {bh : Int} (h : Steps d (i :: r) a ans n) (hf : FineI i bh) (hb : bh ≤ 4096) :
    (i.c = 6 ∧ n = 1 ∧ ans = i.k ∧ ∀ (b : Nat) (x : Int) (mv : Value) (w : World), Mach w b a x mv false 0 → Calls Try.prog 48 #[.pointer (some ⟨b, 0, none⟩), .agg i.cells, .agg d.arr] w (StepPost b w 0 a x mv true ans)) ∨
    (∃ (sk : Nat) (a' : Int) (n' : Nat), n = n' + 1 ∧ Steps d (r.drop sk) a' ans n' ∧ (sk : Int) < bh ∧ ∀ (b : Nat) (x : Int) (mv : Value) (w : World), Mach w b a x mv false 0 → Calls Try.prog 48 #[.pointer (some ⟨b, 0, none⟩), .agg i.cells, .agg d.arr] w (StepPost b w sk a' x mv false 0)) := by
  unfold FineI at hf
  cases h with
  | ret jt jf k => exact .inl ⟨rfl, rfl, rfl, fun b x mv w hm => step_6 b a x jt jf ans 0 mv false d w hm⟩
  | @ld jt jf k _ _ _ n' h =>
    simp at hf
    exact .inr ⟨0, _, n', rfl, h, by omega, fun b x mv w hm => step_32 b a x jt jf k 0 mv false d w hm (by omega) (by omega) (by omega)⟩
  | @and jt jf k _ _ _ n' h =>
    simp at hf
    exact .inr ⟨0, _, n', rfl, h, by omega, fun b x mv w hm => step_84 b a x jt jf k 0 mv false d w hm⟩
  | @eq jt jf k _ _ _ n' h =>
    simp at hf
    obtain ⟨t, ht⟩ : ∃ t, (a == k) = t := ⟨_, rfl⟩
    rw [ht] at h
    have e : ((if t then jt else jf).toNat : Int) = if t then jt else jf := by split <;> omega
    exact .inr ⟨_, _, n', rfl, h, by rw [e]; split <;> omega, fun b x mv w hm => by rw [e]; exact step_21 b a x jt jf k 0 mv false d w hm t ht (by omega) (by omega) (by omega) (by omega)⟩
  | @gt jt jf k _ _ _ n' h =>
    simp at hf
    obtain ⟨t, ht⟩ : ∃ t, decide (k < a) = t := ⟨_, rfl⟩
    rw [ht] at h
    have e : ((if t then jt else jf).toNat : Int) = if t then jt else jf := by split <;> omega
    exact .inr ⟨_, _, n', rfl, h, by rw [e]; split <;> omega, fun b x mv w hm => by rw [e]; exact step_37 b a x jt jf k 0 mv false d w hm t ht (by omega) (by omega) (by omega) (by omega)⟩
  | @ge jt jf k _ _ _ n' h =>
    simp at hf
    obtain ⟨t, ht⟩ : ∃ t, decide (k ≤ a) = t := ⟨_, rfl⟩
    rw [ht] at h
    have e : ((if t then jt else jf).toNat : Int) = if t then jt else jf := by split <;> omega
    exact .inr ⟨_, _, n', rfl, h, by rw [e]; split <;> omega, fun b x mv w hm => by rw [e]; exact step_53 b a x jt jf k 0 mv false d w hm t ht (by omega) (by omega) (by omega) (by omega)⟩
  | @ja jt jf k _ _ _ n' h =>
    simp at hf
    have e : (k.toNat : Int) = k := by omega
    exact .inr ⟨_, _, n', rfl, h, by rw [e]; omega, fun b x mv w hm => by rw [e]; exact step_5 b a x jt jf k 0 mv false d w hm (by omega) (by omega)⟩
end Go.Proofs.Ytjmmbadpknlmcaa
end
section
/- play and Run. Conditions: the program is fine and can be read; how it runs is told. -/
namespace Go.Proofs.Ytjmmbadpknlmcaa
open Go.RowKit
set_option linter.unusedVariables false
set_option linter.unusedSimpArgs false
set_option maxRecDepth 100000

/-- A block that is a call. -/
def Box (w : World) (b : Nat) (d : Dat) : Prop := w.heap[b]? = some (.cells d.arr 48 (0, 0))
section
variable {w w' : World} {b : Nat} {d : Dat}
theorem Box.lt (h : Box w b d) : b < w.heap.size := (Array.getElem?_eq_some_iff.1 h).1
theorem Box.cell (h : Box w b d) (j : Nat) : w.cell? ⟨b, j, none⟩ = d.arr[j]? := by unfold World.cell?; rw [h]; rfl
theorem Box.upto {S : Nat → Prop} (h : Box w b d) (hu : Upto S w w') (hS : ¬ S b) : Box w' b d := (hu.block b h.lt hS).trans h
theorem Box.new (w : World) (d : Dat) : Box (w.alloc (.cells d.arr 48)) w.heap.size d := World.alloc_heap_new w _
end
def PlayInv (d : Dat) (l : List Ins) (w0 : World) (b c bx : Nat) (ans : Int) (tot : Nat) (iv : Value) (wr : World) : Prop :=
  ∃ (a a0 x : Int) (mv : Value) (ov : Bool) (j n' s' : Nat), iv = .int .i64 j ∧ Mach wr b a x mv ov a0 ∧ Cnt wr c s' ∧ Below w0.heap.size w0 wr ∧ Box wr bx d ∧ ((ov = true ∧ a0 = ans ∧ s' = tot) ∨ (ov = false ∧ a0 = 0 ∧ Steps d (l.drop j) a ans n' ∧ s' + n' = tot ∧ j < l.length))
set_option maxHeartbeats 8000000 in
theorem play_fine (v : Value) (l : List Ins) (d : Dat) (w0 w : World) (c s n : Nat) (ans : Int) (hrd : InsRd w0 v l) (hb : Below w0.heap.size w0 w) (hc : w0.heap.size ≤ c) (hcn : Cnt w c s) (hf : FineP l) (h0 : 0 < l.length) (h1 : l.length ≤ 4096) (hs : Steps d l 0 ans n) (hsn : s + n ≤ 100000) :
    Calls Try.prog 27 #[v, .agg d.arr, .func (.func 28) #[] #[.pointer (some ⟨c, 0, none⟩)]] w (fun e w' => e = .returned (.tuple #[.int .u32 ans, .int .i64 0]) ∧ Cnt w' c (s + n) ∧ Below w0.heap.size w0 w') := by
  obtain ⟨A, cp, rfl⟩ : ∃ A c, v = .slice A l.length c := by obtain ⟨A, c, e, _⟩ := hrd; exact ⟨A, c, e⟩
  obtain ⟨L, hL⟩ : ∃ n, l.length = n := ⟨_, rfl⟩
  have HR : Hid (InsRd w0 (.slice A L cp) l) := Lib.hid (by rw [← hL]; exact hrd)
  have CK : Hid (∀ W, Below w0.heap.size w0 W → Calls Try.prog 13 #[.slice A L cp] W (Ret (.tuple #[.int .i64 0, .int .i64 (-1)]) W)) := Lib.hid (fun W hW => check_fine _ l W (HR.out.below hW) hf h0 h1)
  have HF := Lib.hid hf
  have HL := Lib.hid hL
  have HS := Lib.hid hs
  have HB := Lib.hid hb
  have HC := Lib.hid hcn
  rw [hL] at h0 h1 ⊢
  have hcl := hcn.lt
  obtain ⟨tot, htot⟩ : ∃ t, s + n = t := ⟨_, rfl⟩
  have Htot := Lib.hid htot
  rw [htot] at hsn ⊢
  have hmk : ∀ W, (Instr.makeMap 98 none).run Try.prog W = .ok (.map (some W.heap.size)) (W.alloc (.map #[] 0)) := fun W => rfl
  have hbx := below_alloc w (.cells d.arr 48)
  have q0 := new_cell w d.arr 48 0 rfl
  have q1 := new_cell w d.arr 48 1 rfl
  have q2 := new_cell w d.arr 48 2 rfl
  have q3 := new_cell w d.arr 48 3 rfl
  have q4 := new_cell w d.arr 48 4 rfl
  have q5 := new_cell w d.arr 48 5 rfl
  have q6 := new_cell w d.arr 48 6 rfl
  have q7 := new_cell w d.arr 48 7 rfl
  have q8 := new_cell w d.arr 48 8 rfl
  have hB0 := hb.trans (hbx.mono hb.size)
  have hC0 := hcn.upto (S := fun _ => False) (below_upto hbx) (fun h => h)
  have hbox := Box.new w d
  obtain ⟨W0, hW0⟩ : ∃ W, w.alloc (.cells d.arr 48) = W := ⟨_, rfl⟩
  rw [hW0] at q0 q1 q2 q3 q4 q5 q6 q7 q8 hB0 hC0 hbx hbox
  have HBox := Lib.hid hbox
  have HB0 := Lib.hid hB0
  have HC0 := Lib.hid hC0
  have hszw := hb.size
  unfold Dat.arr at hW0 q0 q1 q2 q3 q4 q5 q6 q7 q8 ⊢
  have hszW := hbx.size
  have hblt := hbox.lt
  clear hrd hf hL hs hb hcn htot hB0 hC0 hbx hbox
  go_enter Try.func27, Try.ntmps27
  go_wp2_with (go_at_call 13; (with_reducible refine (CK.out W0 HB0.out).mono ?_); rintro e_ w1 ⟨rfl, hb1⟩)
  have n1 := World.alloc_heap_new (w1.alloc (.map #[] 0)) (.cells #[.int .u32 0, .int .u32 0, .map (some w1.heap.size), .bool false, .int .u32 0] 100)
  have ha1 := below_alloc w1 (.map #[] 0)
  have ha2 := below_alloc (w1.alloc (.map #[] 0)) (.cells #[.int .u32 0, .int .u32 0, .map (some w1.heap.size), .bool false, .int .u32 0] 100)
  have hs1 : (w1.alloc (.map #[] 0)).heap.size = w1.heap.size + 1 := by simp
  rw [hs1] at n1
  obtain ⟨X, hX⟩ : ∃ X, (w1.alloc (.map #[] 0)).alloc (.cells #[.int .u32 0, .int .u32 0, .map (some w1.heap.size), .bool false, .int .u32 0] 100) = X := ⟨_, rfl⟩
  rw [hX] at n1 ha2
  have hX1 : Below w1.heap.size w1 X := ha1.trans (ha2.mono ha1.size)
  have hWX : Below W0.heap.size W0 X := hb1.trans (hX1.mono hb1.size)
  have hst : PlayInv d l w0 (w1.heap.size + 1) c w.heap.size ans tot (.int .i64 0) X := by
    refine ⟨0, 0, 0, .map (some w1.heap.size), false, 0, n, s, rfl, n1, HC0.out.upto (below_upto (S := fun _ => False) hWX) (fun h => h), HB0.out.trans (hWX.mono HB0.out.size), HBox.out.upto (below_upto (S := fun _ => False) hWX) (fun h => h), .inr ⟨rfl, rfl, ?_, Htot.out, by rw [HL.out]; omega⟩⟩
    rw [List.drop_zero]; exact HS.out
  have HST := Lib.hid hst
  have hbc : c < w1.heap.size + 1 := by have := hb1.size; omega
  have hbb : w.heap.size < w1.heap.size + 1 := by have := hb1.size; omega
  obtain ⟨bm, hbm⟩ : ∃ bm, w1.heap.size + 1 = bm := ⟨_, rfl⟩
  rw [hbm] at HST hbc hbb
  have hbm0 : w0.heap.size ≤ bm := by omega
  rw [hbm, hX]
  clear n1 ha1 ha2 hX1 hWX hst hb1 hs1 hX hbm q0 q1 q2 q3 q4 q5 q6 q7 q8 hmk hW0
  go_loopw [11] (fun iv wr => PlayInv d l w0 bm c w.heap.size ans tot iv wr) (fun iv _ => L + 1 - (intOf iv).toNat)
  case atStart => exact HST.out
  case round =>
    obtain ⟨a, a0, x, mv, ov, j, n', s', rfl, hm, hcnt, hB, hbx, hor⟩ := hrel
    have z3 := hm.c3
    rcases hor with ⟨rfl, rfl, rfl⟩ | ⟨rfl, rfl, hstp, hsn', hjl⟩
    · have z4 := hm.c4
      have HE := Lib.hid hcnt
      have HB1 := Lib.hid hB
      clear hm hcnt hB hbx
      go_wp2
      go_ret2
      exact ⟨rfl, HE.out, HB1.out⟩
    · rw [HL.out] at hjl
      obtain ⟨i, hi⟩ : ∃ i, l[j]? = some i := ⟨_, List.getElem?_eq_getElem (by rw [HL.out]; omega)⟩
      have hdr : l.drop j = i :: l.drop (j + 1) := by
        obtain ⟨h1, h2⟩ := List.getElem?_eq_some_iff.1 hi
        rw [List.drop_eq_getElem_cons h1, h2]
      rw [hdr] at hstp
      have hfi := HF.out j i hi
      rw [HL.out] at hfi
      have SF := step_fine hstp hfi (by omega)
      have CC := count_cnt c j s' wr hcnt (by omega)
      have HM := Lib.hid hm
      have HB1 := Lib.hid hB
      have HBx := Lib.hid hbx
      have hjl' : (j : Int) < L := by omega
      obtain ⟨g, o, rfl, q0, q1, q2, q3⟩ := rd_cells (HR.out.below hB) hi
      have hgl : g < w0.heap.size := by
        obtain ⟨g', o', e', q0', _⟩ := rd_cells HR.out hi
        injection e' with e'; injection e' with e1 _ _
        rw [e1]; exact World.block_lt_of_cell? w0 _ q0'
      have HS1 := Lib.hid hstp
      clear hm hcnt hB hbx hdr hstp hfi hi
      obtain ⟨ic, ijt, ijf, ik⟩ := i
      simp only [Ins.cells] at SF q0 q1 q2 q3
      go_upto_region 9 with (go_at_call 28; (with_reducible refine CC.mono ?_); rintro e_ W ⟨rfl, hcn1, hu1⟩)
      have m1 : Mach W bm a x mv false 0 := HM.out.upto hu1 (by omega)
      have b1 : Box W w.heap.size d := HBx.out.upto hu1 (by omega)
      have B1 : Below w0.heap.size w0 W := HB1.out.trans (hu1.toBelow HB1.out.size (fun k hk => by omega))
      have p0 := hu1.cell (p := ⟨g, o + j * 4, none⟩) (by show ¬ g = c; omega) q0
      have p1 := hu1.cell (p := ⟨g, o + j * 4 + 1, none⟩) (by show ¬ g = c; omega) q1
      have p2 := hu1.cell (p := ⟨g, o + j * 4 + 2, none⟩) (by show ¬ g = c; omega) q2
      have p3 := hu1.cell (p := ⟨g, o + j * 4 + 3, none⟩) (by show ¬ g = c; omega) q3
      have x0 : W.cell? ⟨g, o + j * 4, none⟩ = some (.int .u16 ic) := p0
      have y0 : W.drew.cell? ⟨g, o + j * 4, none⟩ = some (.int .u16 ic) := x0
      have x1 : W.cell? ⟨g, o + j * 4 + 1, none⟩ = some (.int .u8 ijt) := p1
      have y1 : W.drew.cell? ⟨g, o + j * 4 + 1, none⟩ = some (.int .u8 ijt) := x1
      have x2 : W.cell? ⟨g, o + j * 4 + 2, none⟩ = some (.int .u8 ijf) := p2
      have y2 : W.drew.cell? ⟨g, o + j * 4 + 2, none⟩ = some (.int .u8 ijf) := x2
      have x3 : W.cell? ⟨g, o + j * 4 + 3, none⟩ = some (.int .u32 ik) := p3
      have y3 : W.drew.cell? ⟨g, o + j * 4 + 3, none⟩ = some (.int .u32 ik) := x3
      have x4 : W.cell? ⟨w.heap.size, 0, none⟩ = some (.int .u32 d.nr) := b1.cell 0
      have y4 : W.drew.cell? ⟨w.heap.size, 0, none⟩ = some (.int .u32 d.nr) := x4
      have x5 : W.cell? ⟨w.heap.size, 1, none⟩ = some (.int .u32 d.ar) := b1.cell 1
      have y5 : W.drew.cell? ⟨w.heap.size, 1, none⟩ = some (.int .u32 d.ar) := x5
      have x6 : W.cell? ⟨w.heap.size, 2, none⟩ = some (.int .u64 d.ip) := b1.cell 2
      have y6 : W.drew.cell? ⟨w.heap.size, 2, none⟩ = some (.int .u64 d.ip) := x6
      have x7 : W.cell? ⟨w.heap.size, 3, none⟩ = some (.int .u64 d.x0) := b1.cell 3
      have y7 : W.drew.cell? ⟨w.heap.size, 3, none⟩ = some (.int .u64 d.x0) := x7
      have x8 : W.cell? ⟨w.heap.size, 4, none⟩ = some (.int .u64 d.x1) := b1.cell 4
      have y8 : W.drew.cell? ⟨w.heap.size, 4, none⟩ = some (.int .u64 d.x1) := x8
      have x9 : W.cell? ⟨w.heap.size, 5, none⟩ = some (.int .u64 d.x2) := b1.cell 5
      have y9 : W.drew.cell? ⟨w.heap.size, 5, none⟩ = some (.int .u64 d.x2) := x9
      have x10 : W.cell? ⟨w.heap.size, 6, none⟩ = some (.int .u64 d.x3) := b1.cell 6
      have y10 : W.drew.cell? ⟨w.heap.size, 6, none⟩ = some (.int .u64 d.x3) := x10
      have x11 : W.cell? ⟨w.heap.size, 7, none⟩ = some (.int .u64 d.x4) := b1.cell 7
      have y11 : W.drew.cell? ⟨w.heap.size, 7, none⟩ = some (.int .u64 d.x4) := x11
      have x12 : W.cell? ⟨w.heap.size, 8, none⟩ = some (.int .u64 d.x5) := b1.cell 8
      have y12 : W.drew.cell? ⟨w.heap.size, 8, none⟩ = some (.int .u64 d.x5) := x12
      have md : Mach W.drew bm a x mv false 0 := m1
      have HMd := Lib.hid md
      have HCn := Lib.hid hcn1
      have HB2 := Lib.hid B1
      have HBb := Lib.hid b1
      clear m1 b1 B1 md hcn1 hu1 p0 p1 p2 p3 q0 q1 q2 q3 CC
      rcases SF with ⟨rfl, rfl, rfl, C⟩ | ⟨sk, a', n'', rfl, hst2, hsk, C⟩
      · have HCc := Lib.hid (C bm x mv W.drew HMd.out)
        unfold Dat.arr at HCc
        have hw : IntKind.i64.wrap ((j : Int) + 1) = (j : Int) + 1 := IntWalk.i64_in _ (by omega)
        clear C
        go_region_held3 (fun w' => w'.cell? ⟨g, o + j * 4, none⟩ = some (.int .u16 6) ∧ w'.cell? ⟨g, o + j * 4 + 1, none⟩ = some (.int .u8 ijt) ∧ w'.cell? ⟨g, o + j * 4 + 2, none⟩ = some (.int .u8 ijf) ∧ w'.cell? ⟨g, o + j * 4 + 3, none⟩ = some (.int .u32 ans) ∧ w'.cell? ⟨w.heap.size, 0, none⟩ = some (.int .u32 d.nr) ∧ w'.cell? ⟨w.heap.size, 1, none⟩ = some (.int .u32 d.ar) ∧ w'.cell? ⟨w.heap.size, 2, none⟩ = some (.int .u64 d.ip) ∧ w'.cell? ⟨w.heap.size, 3, none⟩ = some (.int .u64 d.x0) ∧ w'.cell? ⟨w.heap.size, 4, none⟩ = some (.int .u64 d.x1) ∧ w'.cell? ⟨w.heap.size, 5, none⟩ = some (.int .u64 d.x2) ∧ w'.cell? ⟨w.heap.size, 6, none⟩ = some (.int .u64 d.x3) ∧ w'.cell? ⟨w.heap.size, 7, none⟩ = some (.int .u64 d.x4) ∧ w'.cell? ⟨w.heap.size, 8, none⟩ = some (.int .u64 d.x5)) ((refine ⟨?_, ?_, ?_, ?_, ?_, ?_, ?_, ?_, ?_, ?_, ?_, ?_, ?_⟩ <;> assumption)) (first | (go_at_call 48; (with_reducible refine HCc.out.mono ?_); rintro e_ w6 ⟨rfl, hm6, hu6⟩; have t0 : w6.cell? ⟨g, o + j * 4, none⟩ = some (.int .u16 6) := hu6.cell (p := ⟨g, o + j * 4, none⟩) (by show ¬ g = bm; omega) y0; have t1 : w6.cell? ⟨g, o + j * 4 + 1, none⟩ = some (.int .u8 ijt) := hu6.cell (p := ⟨g, o + j * 4 + 1, none⟩) (by show ¬ g = bm; omega) y1; have t2 : w6.cell? ⟨g, o + j * 4 + 2, none⟩ = some (.int .u8 ijf) := hu6.cell (p := ⟨g, o + j * 4 + 2, none⟩) (by show ¬ g = bm; omega) y2; have t3 : w6.cell? ⟨g, o + j * 4 + 3, none⟩ = some (.int .u32 ans) := hu6.cell (p := ⟨g, o + j * 4 + 3, none⟩) (by show ¬ g = bm; omega) y3; have t4 : w6.cell? ⟨w.heap.size, 0, none⟩ = some (.int .u32 d.nr) := hu6.cell (p := ⟨w.heap.size, 0, none⟩) (by show ¬ w.heap.size = bm; omega) y4; have t5 : w6.cell? ⟨w.heap.size, 1, none⟩ = some (.int .u32 d.ar) := hu6.cell (p := ⟨w.heap.size, 1, none⟩) (by show ¬ w.heap.size = bm; omega) y5; have t6 : w6.cell? ⟨w.heap.size, 2, none⟩ = some (.int .u64 d.ip) := hu6.cell (p := ⟨w.heap.size, 2, none⟩) (by show ¬ w.heap.size = bm; omega) y6; have t7 : w6.cell? ⟨w.heap.size, 3, none⟩ = some (.int .u64 d.x0) := hu6.cell (p := ⟨w.heap.size, 3, none⟩) (by show ¬ w.heap.size = bm; omega) y7; have t8 : w6.cell? ⟨w.heap.size, 4, none⟩ = some (.int .u64 d.x1) := hu6.cell (p := ⟨w.heap.size, 4, none⟩) (by show ¬ w.heap.size = bm; omega) y8; have t9 : w6.cell? ⟨w.heap.size, 5, none⟩ = some (.int .u64 d.x2) := hu6.cell (p := ⟨w.heap.size, 5, none⟩) (by show ¬ w.heap.size = bm; omega) y9; have t10 : w6.cell? ⟨w.heap.size, 6, none⟩ = some (.int .u64 d.x3) := hu6.cell (p := ⟨w.heap.size, 6, none⟩) (by show ¬ w.heap.size = bm; omega) y10; have t11 : w6.cell? ⟨w.heap.size, 7, none⟩ = some (.int .u64 d.x4) := hu6.cell (p := ⟨w.heap.size, 7, none⟩) (by show ¬ w.heap.size = bm; omega) y11; have t12 : w6.cell? ⟨w.heap.size, 8, none⟩ = some (.int .u64 d.x5) := hu6.cell (p := ⟨w.heap.size, 8, none⟩) (by show ¬ w.heap.size = bm; omega) y12; have HM6 := Lib.hid hm6; have HU6 : Hid (Upto (fun k => k = bm) W w6) := Lib.hid ⟨hu6.os, hu6.tape, hu6.output, hu6.size, hu6.block⟩; clear hm6 hu6) | fail)
        go_wp2
        go_roundw
        case rel => exact ⟨a, ans, x, mv, true, j + 1, 0, s' + 1, by go_num, HM6.out, HCn.out.upto HU6.out (by omega), HB2.out.trans (HU6.out.toBelow HB2.out.size (fun k hk => by omega)), HBb.out.upto HU6.out (by omega), .inl ⟨rfl, rfl, by omega⟩⟩
        case measure => (simp [intOf] <;> omega)
      · have HCc := Lib.hid (C bm x mv W.drew HMd.out)
        unfold Dat.arr at HCc
        have hw0 : IntKind.i64.wrap ((j : Int) + sk) = (j : Int) + sk := IntWalk.i64_in _ (by omega)
        have hw : IntKind.i64.wrap ((j : Int) + sk + 1) = (j : Int) + sk + 1 := IntWalk.i64_in _ (by omega)
        have HSt2 := Lib.hid hst2
        clear C hst2
        go_region_held3 (fun w' => w'.cell? ⟨g, o + j * 4, none⟩ = some (.int .u16 ic) ∧ w'.cell? ⟨g, o + j * 4 + 1, none⟩ = some (.int .u8 ijt) ∧ w'.cell? ⟨g, o + j * 4 + 2, none⟩ = some (.int .u8 ijf) ∧ w'.cell? ⟨g, o + j * 4 + 3, none⟩ = some (.int .u32 ik) ∧ w'.cell? ⟨w.heap.size, 0, none⟩ = some (.int .u32 d.nr) ∧ w'.cell? ⟨w.heap.size, 1, none⟩ = some (.int .u32 d.ar) ∧ w'.cell? ⟨w.heap.size, 2, none⟩ = some (.int .u64 d.ip) ∧ w'.cell? ⟨w.heap.size, 3, none⟩ = some (.int .u64 d.x0) ∧ w'.cell? ⟨w.heap.size, 4, none⟩ = some (.int .u64 d.x1) ∧ w'.cell? ⟨w.heap.size, 5, none⟩ = some (.int .u64 d.x2) ∧ w'.cell? ⟨w.heap.size, 6, none⟩ = some (.int .u64 d.x3) ∧ w'.cell? ⟨w.heap.size, 7, none⟩ = some (.int .u64 d.x4) ∧ w'.cell? ⟨w.heap.size, 8, none⟩ = some (.int .u64 d.x5)) ((refine ⟨?_, ?_, ?_, ?_, ?_, ?_, ?_, ?_, ?_, ?_, ?_, ?_, ?_⟩ <;> assumption)) (first | (go_at_call 48; (with_reducible refine HCc.out.mono ?_); rintro e_ w6 ⟨rfl, hm6, hu6⟩; have t0 : w6.cell? ⟨g, o + j * 4, none⟩ = some (.int .u16 ic) := hu6.cell (p := ⟨g, o + j * 4, none⟩) (by show ¬ g = bm; omega) y0; have t1 : w6.cell? ⟨g, o + j * 4 + 1, none⟩ = some (.int .u8 ijt) := hu6.cell (p := ⟨g, o + j * 4 + 1, none⟩) (by show ¬ g = bm; omega) y1; have t2 : w6.cell? ⟨g, o + j * 4 + 2, none⟩ = some (.int .u8 ijf) := hu6.cell (p := ⟨g, o + j * 4 + 2, none⟩) (by show ¬ g = bm; omega) y2; have t3 : w6.cell? ⟨g, o + j * 4 + 3, none⟩ = some (.int .u32 ik) := hu6.cell (p := ⟨g, o + j * 4 + 3, none⟩) (by show ¬ g = bm; omega) y3; have t4 : w6.cell? ⟨w.heap.size, 0, none⟩ = some (.int .u32 d.nr) := hu6.cell (p := ⟨w.heap.size, 0, none⟩) (by show ¬ w.heap.size = bm; omega) y4; have t5 : w6.cell? ⟨w.heap.size, 1, none⟩ = some (.int .u32 d.ar) := hu6.cell (p := ⟨w.heap.size, 1, none⟩) (by show ¬ w.heap.size = bm; omega) y5; have t6 : w6.cell? ⟨w.heap.size, 2, none⟩ = some (.int .u64 d.ip) := hu6.cell (p := ⟨w.heap.size, 2, none⟩) (by show ¬ w.heap.size = bm; omega) y6; have t7 : w6.cell? ⟨w.heap.size, 3, none⟩ = some (.int .u64 d.x0) := hu6.cell (p := ⟨w.heap.size, 3, none⟩) (by show ¬ w.heap.size = bm; omega) y7; have t8 : w6.cell? ⟨w.heap.size, 4, none⟩ = some (.int .u64 d.x1) := hu6.cell (p := ⟨w.heap.size, 4, none⟩) (by show ¬ w.heap.size = bm; omega) y8; have t9 : w6.cell? ⟨w.heap.size, 5, none⟩ = some (.int .u64 d.x2) := hu6.cell (p := ⟨w.heap.size, 5, none⟩) (by show ¬ w.heap.size = bm; omega) y9; have t10 : w6.cell? ⟨w.heap.size, 6, none⟩ = some (.int .u64 d.x3) := hu6.cell (p := ⟨w.heap.size, 6, none⟩) (by show ¬ w.heap.size = bm; omega) y10; have t11 : w6.cell? ⟨w.heap.size, 7, none⟩ = some (.int .u64 d.x4) := hu6.cell (p := ⟨w.heap.size, 7, none⟩) (by show ¬ w.heap.size = bm; omega) y11; have t12 : w6.cell? ⟨w.heap.size, 8, none⟩ = some (.int .u64 d.x5) := hu6.cell (p := ⟨w.heap.size, 8, none⟩) (by show ¬ w.heap.size = bm; omega) y12; have HM6 := Lib.hid hm6; have HU6 : Hid (Upto (fun k => k = bm) W w6) := Lib.hid ⟨hu6.os, hu6.tape, hu6.output, hu6.size, hu6.block⟩; clear hm6 hu6) | fail)
        go_wp2
        go_roundw
        case rel => exact ⟨a', 0, x, mv, false, j + sk + 1, n'', s' + 1, by go_num, HM6.out, HCn.out.upto HU6.out (by omega), HB2.out.trans (HU6.out.toBelow HB2.out.size (fun k hk => by omega)), HBb.out.upto HU6.out (by omega), .inr ⟨rfl, rfl, (by have := HSt2.out; rw [List.drop_drop] at this; rwa [show j + sk + 1 = j + 1 + sk by omega]), by omega, by rw [HL.out]; omega⟩⟩
        case measure => (simp [intOf] <;> omega)
theorem Steps.len {d : Dat} {l : List Ins} {a ans : Int} {n : Nat} (h : Steps d l a ans n) : n ≤ l.length := by
  induction h with
  | ret => simp
  | ld _ ih => simp; omega
  | and _ ih => simp; omega
  | eq _ ih => simp at ih ⊢; omega
  | gt _ ih => simp at ih ⊢; omega
  | ge _ ih => simp at ih ⊢; omega
  | ja _ ih => simp at ih ⊢; omega
set_option maxHeartbeats 4000000 in
theorem run_fine (v : Value) (l : List Ins) (d : Dat) (w : World) (n : Nat) (ans : Int) (hrd : InsRd w v l) (hf : FineP l) (h0 : 0 < l.length) (h1 : l.length ≤ 4096) (hs : Steps d l 0 ans n) :
    Calls Try.prog 15 #[v, .agg d.arr] w (Ret (.tuple #[.int .u32 ans, .int .i64 n, .int .i64 0]) w) := by
  have hn := hs.len
  have P := Lib.hid (fun W hb c hc hcn => play_fine v l d w W c 0 n ans hrd hb hc hcn hf h0 h1 hs (by omega))
  simp only [Nat.zero_add] at P
  have q0 := new_cell w d.arr 48 0 rfl
  have q1 := new_cell w d.arr 48 1 rfl
  have q2 := new_cell w d.arr 48 2 rfl
  have q3 := new_cell w d.arr 48 3 rfl
  have q4 := new_cell w d.arr 48 4 rfl
  have q5 := new_cell w d.arr 48 5 rfl
  have q6 := new_cell w d.arr 48 6 rfl
  have q7 := new_cell w d.arr 48 7 rfl
  have q8 := new_cell w d.arr 48 8 rfl
  have hb0 := below_alloc w (.cells d.arr 48)
  have hb1 := below_alloc (w.alloc (.cells d.arr 48)) (.cells #[.int .i64 0] 3)
  have hc := Cnt.new (w.alloc (.cells d.arr 48))
  have hs1 : (w.alloc (.cells d.arr 48)).heap.size = w.heap.size + 1 := by simp
  rw [hs1] at hc
  have hB := Lib.hid (hb0.trans (hb1.mono hb0.size))
  have HC := Lib.hid hc
  unfold Dat.arr at P q0 q1 q2 q3 q4 q5 q6 q7 q8 hB HC ⊢
  clear hrd hf h0 h1 hs hn hb0 hb1 hc hs1
  go_enter Try.func15, Try.ntmps15
  go_wp2_with (go_at_call 27; (refine (P.out _ hB.out (w.heap.size + 1) (by omega) HC.out).mono ?_); rintro e_ w1 ⟨rfl, hc1, hb1⟩; have cc := hc1.c0)
  have cN : ∀ m, (w1.drewN m).cell? ⟨w.heap.size + 1, 0, none⟩ = some (.int .i64 n) := fun m => cc
  go_quiet (fail)
  go_wp2
  go_ret3
  exact ⟨rfl, below_drewR hb1 _⟩
end Go.Proofs.Ytjmmbadpknlmcaa
end
