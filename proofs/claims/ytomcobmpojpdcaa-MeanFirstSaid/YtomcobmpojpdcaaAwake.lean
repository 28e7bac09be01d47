/- A law's first call: it answers true. No conditions. -/
import Derived.Test.YtomcobmpojpdcaaRefDecide
import Derived.Laws.StructEq
namespace Go.Proofs.Ytomcobmpojpdcaa
open Go.RowKit
attribute [local go_sem ↓] Go.wp_at_zero Go.wp_at_succ
set_option linter.unusedVariables false
set_option linter.unusedSimpArgs false

theorem act_eq (w : World) (a b c d : Int) : (binOp .eql 30 (.agg #[.int .i64 a, .int .i64 b]) (.agg #[.int .i64 c, .int .i64 d])).run Try.prog w = .ok (.bool (a == c && b == d)) w := by
  have u3 := Try.underlying3
  have a3 := Try.isAgg3
  have z3 := Try.sizeOf3
  have hS : Try.prog.underlying 30 = some (.struct (Try.prog.fieldsOf 30)) := by kernel_rfl
  have hp : Try.prog.stoodInHeld 30 = false := by kernel_rfl
  rw [run_eql_struct, show (10000 : Nat) = 9999 + 1 from rfl, run_equalIn_agg w 9999 30 _ _ hS hp]
  simp only [Program.fieldsOf, Try.underlying30]
  go_simp
  by_cases h1 : a = c <;> by_cases h2 : b = d <;> simp [h1, h2]
theorem act_guard : Try.prog.eqGuardType Try.prog.depth 30 = false := by kernel_rfl

def writeS : ByteArray := ⟨#[119, 114, 105, 116, 101]⟩
def awakeL : List Rul := [⟨8, 0, [writeS], []⟩]
theorem awake1 : decV 1 3221225534 0 0 0 0 0 0 1 0 awakeL = ((8, 0), 0) := by decide +kernel
theorem awake2 : decV 1 0 0 0 0 0 0 0 1 0 awakeL = ((1, 0), 0) := by decide +kernel
theorem awake_rules {W : World} {g0 g1 : Nat} (h0 : W.cell? ⟨g0, 0, none⟩ = some (.string writeS)) (h1 : W.cell? ⟨g1, 0, none⟩ = some (.int .i64 8)) (h2 : W.cell? ⟨g1, 1, none⟩ = some (.int .i64 0))
    (h3 : W.cell? ⟨g1, 2, none⟩ = some (.slice (some ⟨g0, 0, none⟩) 1 1)) (h4 : W.cell? ⟨g1, 3, none⟩ = some (.slice none 0 0)) : RulsAt W (.slice (some ⟨g1, 0, none⟩) 1 1) awakeL := by
  refine ⟨some ⟨g1, 0, none⟩, 1, rfl, by decide, fun _ => ⟨g1, 0, rfl, fun i x hx => ?_⟩⟩
  match i, hx with
  | 0, hx =>
    cases hx
    refine ⟨_, _, h1, h2, h3, h4, ⟨some ⟨g0, 0, none⟩, 1, rfl, by decide, fun _ => ⟨g0, 0, rfl, fun i x hx => ?_⟩⟩, ⟨none, 0, rfl, by decide, fun h => absurd h (by decide)⟩⟩
    match i, hx with
    | 0, hx => cases hx; exact ⟨h0, by decide⟩

theorem aw_cells (w : World) : (∀ v, #[Value.string writeS][0]? = some v → World.cell? (((w.alloc (.cells #[.string writeS] 9)).alloc (.cells #[.int .i64 8, .int .i64 0, .slice (some ⟨w.heap.size, 0, none⟩) 1 1, .slice none 0 0] 48)).alloc (.cells #[.int .i64 1, .int .i64 0, .slice (some ⟨w.heap.size + 1, 0, none⟩) 1 1] 33)) ⟨w.heap.size, 0, none⟩ = some v) ∧
    (∀ i v, #[Value.int .i64 8, .int .i64 0, .slice (some ⟨w.heap.size, 0, none⟩) 1 1, .slice none 0 0][i]? = some v → World.cell? (((w.alloc (.cells #[.string writeS] 9)).alloc (.cells #[.int .i64 8, .int .i64 0, .slice (some ⟨w.heap.size, 0, none⟩) 1 1, .slice none 0 0] 48)).alloc (.cells #[.int .i64 1, .int .i64 0, .slice (some ⟨w.heap.size + 1, 0, none⟩) 1 1] 33)) ⟨w.heap.size + 1, i, none⟩ = some v) ∧
    (∀ i v, #[Value.int .i64 1, .int .i64 0, .slice (some ⟨w.heap.size + 1, 0, none⟩) 1 1][i]? = some v → World.cell? (((w.alloc (.cells #[.string writeS] 9)).alloc (.cells #[.int .i64 8, .int .i64 0, .slice (some ⟨w.heap.size, 0, none⟩) 1 1, .slice none 0 0] 48)).alloc (.cells #[.int .i64 1, .int .i64 0, .slice (some ⟨w.heap.size + 1, 0, none⟩) 1 1] 33)) ⟨w.heap.size + 1 + 1, i, none⟩ = some v) := by
  have k1 := below_alloc (w.alloc (.cells #[.string writeS] 9)) (.cells #[.int .i64 8, .int .i64 0, .slice (some ⟨w.heap.size, 0, none⟩) 1 1, .slice none 0 0] 48)
  have k2 := below_alloc ((w.alloc (.cells #[.string writeS] 9)).alloc (.cells #[.int .i64 8, .int .i64 0, .slice (some ⟨w.heap.size, 0, none⟩) 1 1, .slice none 0 0] 48)) (.cells #[.int .i64 1, .int .i64 0, .slice (some ⟨w.heap.size + 1, 0, none⟩) 1 1] 33)
  refine ⟨fun v h => keep_cell k2 (keep_cell k1 (new_cell w _ 9 0 h)), fun i v h => keep_cell k2 ?_, fun i v h => ?_⟩
  · have := new_cell (w.alloc (.cells #[.string writeS] 9)) _ 48 i h
    simpa using this
  · have := new_cell ((w.alloc (.cells #[.string writeS] 9)).alloc (.cells #[.int .i64 8, .int .i64 0, .slice (some ⟨w.heap.size, 0, none⟩) 1 1, .slice none 0 0] 48)) _ 33 i h
    simpa using this
theorem aw_below (w : World) : Below w.heap.size w (((w.alloc (.cells #[.string writeS] 9)).alloc (.cells #[.int .i64 8, .int .i64 0, .slice (some ⟨w.heap.size, 0, none⟩) 1 1, .slice none 0 0] 48)).alloc (.cells #[.int .i64 1, .int .i64 0, .slice (some ⟨w.heap.size + 1, 0, none⟩) 1 1] 33)) := by
  have h0 := below_alloc w (.cells #[.string writeS] 9)
  have h1 := bchain h0 h0.size (below_alloc _ (.cells #[.int .i64 8, .int .i64 0, .slice (some ⟨w.heap.size, 0, none⟩) 1 1, .slice none 0 0] 48))
  exact bchain h1 h1.size (below_alloc _ _)

set_option maxRecDepth 100000 in
set_option maxHeartbeats 2000000 in
theorem awake_any (w : World) : Calls Try.prog 10 #[] w (Ret (.bool true) w) := by
  have ae := fun (W : World) => act_eq W
  have ag := act_guard
  obtain ⟨A0, A1, A2⟩ := aw_cells w
  have hB := aw_below w
  have D1 : Calls Try.prog 18 #[.agg #[.int .i64 1, .int .i64 0, .slice (some ⟨w.heap.size + 1, 0, none⟩) 1 1], .agg #[.int .u32 1, .int .u32 3221225534, .int .u64 0, .int .u64 0, .int .u64 0, .int .u64 0, .int .u64 0, .int .u64 0, .int .u64 0]] (((w.alloc (.cells #[.string writeS] 9)).alloc (.cells #[.int .i64 8, .int .i64 0, .slice (some ⟨w.heap.size, 0, none⟩) 1 1, .slice none 0 0] 48)).alloc (.cells #[.int .i64 1, .int .i64 0, .slice (some ⟨w.heap.size + 1, 0, none⟩) 1 1] 33)) (Ret (.tuple #[.agg #[.int .i64 8, .int .i64 0], .int .i64 0]) (((w.alloc (.cells #[.string writeS] 9)).alloc (.cells #[.int .i64 8, .int .i64 0, .slice (some ⟨w.heap.size, 0, none⟩) 1 1, .slice none 0 0] 48)).alloc (.cells #[.int .i64 1, .int .i64 0, .slice (some ⟨w.heap.size + 1, 0, none⟩) 1 1] 33))) := by
    have := decide_any 1 0 1 3221225534 0 0 0 0 0 0 0 _ awakeL (((w.alloc (.cells #[.string writeS] 9)).alloc (.cells #[.int .i64 8, .int .i64 0, .slice (some ⟨w.heap.size, 0, none⟩) 1 1, .slice none 0 0] 48)).alloc (.cells #[.int .i64 1, .int .i64 0, .slice (some ⟨w.heap.size + 1, 0, none⟩) 1 1] 33)) (awake_rules (A0 _ rfl) (A1 0 _ rfl) (A1 1 _ rfl) (A1 2 _ rfl) (A1 3 _ rfl))
    rw [awake1] at this
    exact this
  have D2 : ∀ W2, Below (World.heap (((w.alloc (.cells #[.string writeS] 9)).alloc (.cells #[.int .i64 8, .int .i64 0, .slice (some ⟨w.heap.size, 0, none⟩) 1 1, .slice none 0 0] 48)).alloc (.cells #[.int .i64 1, .int .i64 0, .slice (some ⟨w.heap.size + 1, 0, none⟩) 1 1] 33))).size (((w.alloc (.cells #[.string writeS] 9)).alloc (.cells #[.int .i64 8, .int .i64 0, .slice (some ⟨w.heap.size, 0, none⟩) 1 1, .slice none 0 0] 48)).alloc (.cells #[.int .i64 1, .int .i64 0, .slice (some ⟨w.heap.size + 1, 0, none⟩) 1 1] 33)) W2 → Calls Try.prog 18 #[.agg #[.int .i64 1, .int .i64 0, .slice (some ⟨w.heap.size + 1, 0, none⟩) 1 1], .agg #[.int .u32 1, .int .u32 0, .int .u64 0, .int .u64 0, .int .u64 0, .int .u64 0, .int .u64 0, .int .u64 0, .int .u64 0]] W2 (Ret (.tuple #[.agg #[.int .i64 1, .int .i64 0], .int .i64 0]) W2) := fun W2 hb => by
    have := decide_any 1 0 1 0 0 0 0 0 0 0 0 _ awakeL W2 (awake_rules (keep_cell hb (A0 _ rfl)) (keep_cell hb (A1 0 _ rfl)) (keep_cell hb (A1 1 _ rfl)) (keep_cell hb (A1 2 _ rfl)) (keep_cell hb (A1 3 _ rfl)))
    rw [awake2] at this
    exact this
  have t0 := A2 0 (.int .i64 1) rfl
  have t1 := A2 1 (.int .i64 0) rfl
  have t2 := A2 2 (.slice (some ⟨w.heap.size + 1, 0, none⟩) 1 1) rfl
  clear A0 A1 A2
  go_enter Try.func10, Try.ntmps10
  go_wp2_with fail
  refine D1.mono ?_
  rintro e w1 ⟨rfl, hb1⟩
  have c0 := keep_cell hb1 t0
  have c1 := keep_cell hb1 t1
  have c2 := keep_cell hb1 t2
  have hl1 : w.heap.size + 1 + 1 < w1.heap.size := World.block_lt_of_cell? w1 _ c0
  clear t0 t1 t2 D1
  go_wp2_with fail
  refine (D2 _ (bchain hb1 hb1.size (below_alloc w1 _))).mono ?_
  rintro e w2 ⟨rfl, hb2⟩
  have q0 : w2.cell? ⟨w1.heap.size, 0, none⟩ = some (.int .i64 8) := keep_cell hb2 (new_cell w1 _ 30 0 rfl)
  have q1 : w2.cell? ⟨w1.heap.size, 1, none⟩ = some (.int .i64 0) := keep_cell hb2 (new_cell w1 _ 30 1 rfl)
  have hb3 := bchain hb1 hb1.size (bchain (below_alloc w1 _) (by simp) hb2)
  have hw2 := bchain hB hB.size hb3
  have hlt : w1.heap.size < w2.heap.size := World.block_lt_of_cell? w2 _ q0
  clear D2 c0 c1 c2 hb1 hb2 hb3
  go_wp2_with fail
  go_ret
  exact ⟨rfl, bchain hw2 hw2.size (below_alloc _ _)⟩
end Go.Proofs.Ytomcobmpojpdcaa
