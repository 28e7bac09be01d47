/- Value of act: what each computes. No conditions. -/
import Derived.Test.YtjmmbadpknlmcaaCode
import Derived.Deep.RegionHeld3
namespace Go.Proofs.Ytjmmbadpknlmcaa
open Go.RowKit
set_option linter.unusedVariables false
set_option linter.unusedSimpArgs false

def numV (k : Int) : Int := if k = 1 then 2147483648 else if k = 2 then 0 else if k = 3 then 196608 else if k = 4 then 327680 else if k = 5 then 2143289344 else if k = 6 then 2146435072 else if k = 7 then 2147221504 else 2147418112
set_option maxRecDepth 100000 in
set_option maxHeartbeats 4000000 in
theorem number_any (k : Int) (h1 : 1 ≤ k) (h8 : k ≤ 8) (w : World) : Calls Try.prog 33 #[.int .i64 k] w (Ret (.int .u32 (numV k)) w) := by
  have hk : k = 1 ∨ k = 2 ∨ k = 3 ∨ k = 4 ∨ k = 5 ∨ k = 6 ∨ k = 7 ∨ k = 8 := by omega
  clear h1 h8
  rcases hk with rfl | rfl | rfl | rfl | rfl | rfl | rfl | rfl
  all_goals
    go_enter Try.func33, Try.ntmps33
    go_wp2
    go_ret
    exact ⟨rfl, below_alloc _ _⟩
def valV (k a : Int) : Int := if actB k a then bits .or .u32 (numV k) a else 0
set_option maxRecDepth 100000 in
set_option maxHeartbeats 4000000 in
theorem value_any (k a : Int) (w : World) : Calls Try.prog 19 #[.agg #[.int .i64 k, .int .i64 a]] w (Ret (.tuple #[.int .u32 (valV k a), .int .i64 (if actB k a then 0 else 1)]) w) := by
  have A := act_any k a (w.alloc (.cells #[.int .i64 k, .int .i64 a] 23))
  have r0 := new_cell w #[.int .i64 k, .int .i64 a] 23 0 rfl
  have r1 := new_cell w #[.int .i64 k, .int .i64 a] 23 1 rfl
  have hb0 := below_alloc w (.cells #[.int .i64 k, .int .i64 a] 23)
  unfold valV
  cases hact : actB k a with
  | false =>
    rw [hact] at A
    clear hact
    go_enter Try.func19, Try.ntmps19
    go_wp2_with (go_at_call 32; (with_reducible refine A.mono ?_); rintro e_ w1 ⟨rfl, hb1⟩)
    go_ret2
    exact ⟨rfl, hb0.trans (hb1.mono hb0.size)⟩
  | true =>
    have hk : 1 ≤ k ∧ k ≤ 8 ∧ 0 ≤ a ∧ a ≤ 65535 := by
      unfold actB at hact
      simp only [Bool.and_eq_true, decide_eq_true_eq] at hact
      exact hact.1
    obtain ⟨k1, k8, a1, a2⟩ := hk
    rw [hact] at A
    have NM := Lib.hid (fun W => number_any k k1 k8 W)
    clear hact
    go_enter Try.func19, Try.ntmps19
    go_upto_region 3 with (go_at_call 32; (with_reducible refine A.mono ?_); rintro e_ w1 ⟨rfl, hb1⟩)
    have d0 := keep_cell hb1 r0
    have d1 := keep_cell hb1 r1
    have f0 : w1.drew.cell? ⟨w.heap.size, 0, none⟩ = some (.int .i64 k) := d0
    have f1 : w1.drew.cell? ⟨w.heap.size, 1, none⟩ = some (.int .i64 a) := d1
    have NM2 := NM.out w1.drew
    clear r0 r1 A
    go_region_held3 (fun w' => w'.cell? ⟨w.heap.size, 0, none⟩ = some (.int .i64 k) ∧ w'.cell? ⟨w.heap.size, 1, none⟩ = some (.int .i64 a)) ((refine ⟨?_, ?_⟩ <;> assumption)) (first | (go_at_call 33; refine NM2.mono ?_; rintro e_ w2 ⟨rfl, hb2⟩; have p0 : w2.cell? ⟨w.heap.size, 0, none⟩ = some (.int .i64 k) := keep_cell hb2 f0; have p1 : w2.cell? ⟨w.heap.size, 1, none⟩ = some (.int .i64 a) := keep_cell hb2 f1) | fail)
    go_wp2
    go_ret2
    have hwa : IntKind.u32.wrap a = a := by rw [IntKind.wrap_u32]; omega
    refine ⟨by show Ending.returned (.tuple #[.int .u32 (bits .or .u32 (numV k) (IntKind.u32.wrap a)), .int .i64 0]) = _; rw [hwa], ?_⟩
    exact (hb0.trans (hb1.mono hb0.size)).trans ((show Below w1.heap.size w1 w2 from ⟨hb2.os, hb2.tape, hb2.output, hb2.size, hb2.block⟩).mono (Nat.le_trans hb0.size hb1.size))
end Go.Proofs.Ytjmmbadpknlmcaa
