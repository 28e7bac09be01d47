/- The calls that are known. No conditions. -/
import Derived.Test.YtjmmbadpknlmcaaProg
import Derived.WalkKit
import Derived.Below
import Derived.Laws.Tables
import Derived.Deep.WholeRow
import Derived.RangeFuncBox
import Derived.Lib.Hide
import Derived.Great.Walk
namespace Go.Proofs.Ytjmmbadpknlmcaa
open Go.RowKit Go.Great
set_option linter.unusedVariables false
set_option linter.unusedSimpArgs false

/-- All that are known, and their numbers. -/
def known : List (ByteArray × Int) := [(⟨#[114, 101, 97, 100]⟩, 0), (⟨#[119, 114, 105, 116, 101]⟩, 1), (⟨#[111, 112, 101, 110]⟩, 2), (⟨#[99, 108, 111, 115, 101]⟩, 3), (⟨#[115, 116, 97, 116]⟩, 4), (⟨#[102, 115, 116, 97, 116]⟩, 5), (⟨#[108, 115, 116, 97, 116]⟩, 6), (⟨#[112, 111, 108, 108]⟩, 7), (⟨#[108, 115, 101, 101, 107]⟩, 8), (⟨#[109, 109, 97, 112]⟩, 9), (⟨#[109, 112, 114, 111, 116, 101, 99, 116]⟩, 10), (⟨#[109, 117, 110, 109, 97, 112]⟩, 11), (⟨#[98, 114, 107]⟩, 12), (⟨#[105, 111, 99, 116, 108]⟩, 16), (⟨#[97, 99, 99, 101, 115, 115]⟩, 21), (⟨#[112, 105, 112, 101]⟩, 22), (⟨#[100, 117, 112]⟩, 32), (⟨#[103, 101, 116, 112, 105, 100]⟩, 39), (⟨#[115, 111, 99, 107, 101, 116]⟩, 41), (⟨#[99, 111, 110, 110, 101, 99, 116]⟩, 42), (⟨#[102, 111, 114, 107]⟩, 57), (⟨#[101, 120, 101, 99, 118, 101]⟩, 59), (⟨#[101, 120, 105, 116]⟩, 60), (⟨#[119, 97, 105, 116, 52]⟩, 61), (⟨#[107, 105, 108, 108]⟩, 62), (⟨#[117, 110, 97, 109, 101]⟩, 63), (⟨#[109, 107, 100, 105, 114]⟩, 83), (⟨#[117, 110, 108, 105, 110, 107]⟩, 87), (⟨#[111, 112, 101, 110, 97, 116]⟩, 257), (⟨#[115, 101, 99, 99, 111, 109, 112]⟩, 317)]
def callCells : Array Value := #[.string ⟨#[114, 101, 97, 100]⟩, .int .u32 0, .string ⟨#[119, 114, 105, 116, 101]⟩, .int .u32 1, .string ⟨#[111, 112, 101, 110]⟩, .int .u32 2, .string ⟨#[99, 108, 111, 115, 101]⟩, .int .u32 3, .string ⟨#[115, 116, 97, 116]⟩, .int .u32 4, .string ⟨#[102, 115, 116, 97, 116]⟩, .int .u32 5, .string ⟨#[108, 115, 116, 97, 116]⟩, .int .u32 6, .string ⟨#[112, 111, 108, 108]⟩, .int .u32 7, .string ⟨#[108, 115, 101, 101, 107]⟩, .int .u32 8, .string ⟨#[109, 109, 97, 112]⟩, .int .u32 9, .string ⟨#[109, 112, 114, 111, 116, 101, 99, 116]⟩, .int .u32 10, .string ⟨#[109, 117, 110, 109, 97, 112]⟩, .int .u32 11, .string ⟨#[98, 114, 107]⟩, .int .u32 12, .string ⟨#[105, 111, 99, 116, 108]⟩, .int .u32 16, .string ⟨#[97, 99, 99, 101, 115, 115]⟩, .int .u32 21, .string ⟨#[112, 105, 112, 101]⟩, .int .u32 22, .string ⟨#[100, 117, 112]⟩, .int .u32 32, .string ⟨#[103, 101, 116, 112, 105, 100]⟩, .int .u32 39, .string ⟨#[115, 111, 99, 107, 101, 116]⟩, .int .u32 41, .string ⟨#[99, 111, 110, 110, 101, 99, 116]⟩, .int .u32 42, .string ⟨#[102, 111, 114, 107]⟩, .int .u32 57, .string ⟨#[101, 120, 101, 99, 118, 101]⟩, .int .u32 59, .string ⟨#[101, 120, 105, 116]⟩, .int .u32 60, .string ⟨#[119, 97, 105, 116, 52]⟩, .int .u32 61, .string ⟨#[107, 105, 108, 108]⟩, .int .u32 62, .string ⟨#[117, 110, 97, 109, 101]⟩, .int .u32 63, .string ⟨#[109, 107, 100, 105, 114]⟩, .int .u32 83, .string ⟨#[117, 110, 108, 105, 110, 107]⟩, .int .u32 87, .string ⟨#[111, 112, 101, 110, 97, 116]⟩, .int .u32 257, .string ⟨#[115, 101, 99, 99, 111, 109, 112]⟩, .int .u32 317]
def zeroCells : Array Value := #[.string ⟨#[]⟩, .int .u32 0, .string ⟨#[]⟩, .int .u32 0, .string ⟨#[]⟩, .int .u32 0, .string ⟨#[]⟩, .int .u32 0, .string ⟨#[]⟩, .int .u32 0, .string ⟨#[]⟩, .int .u32 0, .string ⟨#[]⟩, .int .u32 0, .string ⟨#[]⟩, .int .u32 0, .string ⟨#[]⟩, .int .u32 0, .string ⟨#[]⟩, .int .u32 0, .string ⟨#[]⟩, .int .u32 0, .string ⟨#[]⟩, .int .u32 0, .string ⟨#[]⟩, .int .u32 0, .string ⟨#[]⟩, .int .u32 0, .string ⟨#[]⟩, .int .u32 0, .string ⟨#[]⟩, .int .u32 0, .string ⟨#[]⟩, .int .u32 0, .string ⟨#[]⟩, .int .u32 0, .string ⟨#[]⟩, .int .u32 0, .string ⟨#[]⟩, .int .u32 0, .string ⟨#[]⟩, .int .u32 0, .string ⟨#[]⟩, .int .u32 0, .string ⟨#[]⟩, .int .u32 0, .string ⟨#[]⟩, .int .u32 0, .string ⟨#[]⟩, .int .u32 0, .string ⟨#[]⟩, .int .u32 0, .string ⟨#[]⟩, .int .u32 0, .string ⟨#[]⟩, .int .u32 0, .string ⟨#[]⟩, .int .u32 0, .string ⟨#[]⟩, .int .u32 0]
theorem built76 : Try.prog.built 111 [(0, .agg #[.string ⟨#[114, 101, 97, 100]⟩, .int .u32 0]), (1, .agg #[.string ⟨#[119, 114, 105, 116, 101]⟩, .int .u32 1]), (2, .agg #[.string ⟨#[111, 112, 101, 110]⟩, .int .u32 2]), (3, .agg #[.string ⟨#[99, 108, 111, 115, 101]⟩, .int .u32 3]), (4, .agg #[.string ⟨#[115, 116, 97, 116]⟩, .int .u32 4]), (5, .agg #[.string ⟨#[102, 115, 116, 97, 116]⟩, .int .u32 5]), (6, .agg #[.string ⟨#[108, 115, 116, 97, 116]⟩, .int .u32 6]), (7, .agg #[.string ⟨#[112, 111, 108, 108]⟩, .int .u32 7]), (8, .agg #[.string ⟨#[108, 115, 101, 101, 107]⟩, .int .u32 8]), (9, .agg #[.string ⟨#[109, 109, 97, 112]⟩, .int .u32 9]), (10, .agg #[.string ⟨#[109, 112, 114, 111, 116, 101, 99, 116]⟩, .int .u32 10]), (11, .agg #[.string ⟨#[109, 117, 110, 109, 97, 112]⟩, .int .u32 11]), (12, .agg #[.string ⟨#[98, 114, 107]⟩, .int .u32 12]), (13, .agg #[.string ⟨#[105, 111, 99, 116, 108]⟩, .int .u32 16]), (14, .agg #[.string ⟨#[97, 99, 99, 101, 115, 115]⟩, .int .u32 21]), (15, .agg #[.string ⟨#[112, 105, 112, 101]⟩, .int .u32 22]), (16, .agg #[.string ⟨#[100, 117, 112]⟩, .int .u32 32]), (17, .agg #[.string ⟨#[103, 101, 116, 112, 105, 100]⟩, .int .u32 39]), (18, .agg #[.string ⟨#[115, 111, 99, 107, 101, 116]⟩, .int .u32 41]), (19, .agg #[.string ⟨#[99, 111, 110, 110, 101, 99, 116]⟩, .int .u32 42]), (20, .agg #[.string ⟨#[102, 111, 114, 107]⟩, .int .u32 57]), (21, .agg #[.string ⟨#[101, 120, 101, 99, 118, 101]⟩, .int .u32 59]), (22, .agg #[.string ⟨#[101, 120, 105, 116]⟩, .int .u32 60]), (23, .agg #[.string ⟨#[119, 97, 105, 116, 52]⟩, .int .u32 61]), (24, .agg #[.string ⟨#[107, 105, 108, 108]⟩, .int .u32 62]), (25, .agg #[.string ⟨#[117, 110, 97, 109, 101]⟩, .int .u32 63]), (26, .agg #[.string ⟨#[109, 107, 100, 105, 114]⟩, .int .u32 83]), (27, .agg #[.string ⟨#[117, 110, 108, 105, 110, 107]⟩, .int .u32 87]), (28, .agg #[.string ⟨#[111, 112, 101, 110, 97, 116]⟩, .int .u32 257]), (29, .agg #[.string ⟨#[115, 101, 99, 99, 111, 109, 112]⟩, .int .u32 317])] = some callCells := by kernel_rfl

theorem zero76 (ρ : Operand → Value) (o : Oper) (w : World) (h : o.op = .alloc 111) : (execOp ρ o).run Try.prog w = .ok (.value (.pointer (some ⟨w.heap.size, 0, none⟩))) (w.alloc (.cells zeroCells 111)) := by
  have hz := (zero_of_info (P := Try.prog) (t := 111) (v := .agg zeroCells) (n := 60) (by kernel_rfl)).1
  unfold execOp
  simp only [h, Sem.run_bind, Instr.alloc, hz, Result.andThen_ok]
  rfl

theorem new76 (w : World) : (w.alloc (.cells zeroCells 111)).heap[w.heap.size]? = some (.cells zeroCells 111 (0, 0)) := Array.getElem?_push_size
theorem laid76 (w : World) (Q : World → Prop) (h : Q (w.alloc (.cells callCells 111))) : Q ((w.alloc (.cells zeroCells 111)).setRow w.heap.size callCells) := by
  rw [World.setRow_alloc_new]; exact h

set_option maxRecDepth 100000 in
set_option maxHeartbeats 1000000 in
theorem calls_is (w : World) : Calls Try.prog 36 #[] w (fun e w' => e = .returned (.slice (some ⟨w.heap.size, 0, none⟩) 30 30) ∧ w' = w.alloc (.cells callCells 111)) := by
  go_enter Try.func36, Try.ntmps36
  go_step
  go_step
  go_step
  go_step
  go_step
  go_step
  go_step
  go_step
  go_step
  go_step
  go_step
  refine wpList_build rfl 86 _ rfl (by kernel_rfl) ?_
  refine wpList_build rfl 86 _ rfl (by kernel_rfl) ?_
  refine wpList_build rfl 86 _ rfl (by kernel_rfl) ?_
  refine wpList_build rfl 86 _ rfl (by kernel_rfl) ?_
  refine wpList_build rfl 86 _ rfl (by kernel_rfl) ?_
  refine wpList_build rfl 86 _ rfl (by kernel_rfl) ?_
  refine wpList_build rfl 86 _ rfl (by kernel_rfl) ?_
  refine wpList_build rfl 86 _ rfl (by kernel_rfl) ?_
  refine wpList_build rfl 86 _ rfl (by kernel_rfl) ?_
  refine wpList_build rfl 86 _ rfl (by kernel_rfl) ?_
  refine wpList_build rfl 86 _ rfl (by kernel_rfl) ?_
  refine wpList_build rfl 86 _ rfl (by kernel_rfl) ?_
  refine wpList_build rfl 86 _ rfl (by kernel_rfl) ?_
  refine wpList_build rfl 86 _ rfl (by kernel_rfl) ?_
  refine wpList_build rfl 86 _ rfl (by kernel_rfl) ?_
  refine wpList_build rfl 86 _ rfl (by kernel_rfl) ?_
  refine wpList_build rfl 86 _ rfl (by kernel_rfl) ?_
  refine wpList_build rfl 86 _ rfl (by kernel_rfl) ?_
  refine wpList_build rfl 86 _ rfl (by kernel_rfl) ?_
  refine wpList_build rfl 86 _ rfl (by kernel_rfl) ?_
  refine wpList_build rfl 86 _ rfl (by kernel_rfl) ?_
  refine wpList_build rfl 86 _ rfl (by kernel_rfl) ?_
  refine wpList_build rfl 86 _ rfl (by kernel_rfl) ?_
  refine wpList_build rfl 86 _ rfl (by kernel_rfl) ?_
  refine wpList_build rfl 86 _ rfl (by kernel_rfl) ?_
  refine wpList_build rfl 86 _ rfl (by kernel_rfl) ?_
  refine wpList_build rfl 86 _ rfl (by kernel_rfl) ?_
  refine wpList_build rfl 86 _ rfl (by kernel_rfl) ?_
  refine wpList_build rfl 86 _ rfl (by kernel_rfl) ?_
  refine wpList_build rfl 86 _ rfl (by kernel_rfl) ?_
  refine wpList_build rfl 111 _ rfl (by kernel_rfl) ?_
  refine wpList_runTo rfl (some 1) rfl (.pointer (some ⟨w.heap.size, 0, none⟩)) (w.alloc (.cells zeroCells 111)) (zero76 _ _ _ rfl) ?_
  refine wpList_store_rowTo rfl 111 (.tmp 1) (.tmp 32) rfl rfl w.heap.size callCells (by kernel_rfl) (by kernel_rfl) 111 zeroCells ?_ (by kernel_rfl) (by kernel_rfl) (by kernel_rfl) ?_
  · exact new76 w
  refine laid76 w _ ?_
  refine wpList_nil ?_
  rename_i hK
  refine hK _ _ ?_
  clear hK
  apply wp_seq_k; intro K2 hK2
  apply wp_region_lit
  refine wpList_runTo rfl (some 33) rfl (.slice (some ⟨w.heap.size, 0, none⟩) 30 30) (w.alloc (.cells callCells 111)) (by kernel_rfl) ?_
  refine wpList_runTo rfl (some 0) rfl (.slice (some ⟨w.heap.size, 0, none⟩) 30 30) (w.alloc (.cells callCells 111)) (by kernel_rfl) ?_
  refine wpList_nil ?_
  refine hK2 _ _ ?_
  apply wp_ret
  refine bodyPost_ret (fn := Try.f36) (v := .slice (some ⟨w.heap.size, 0, none⟩) 30 30) ?_ (by kernel_rfl) ⟨rfl, rfl⟩
  kernel_rfl
end Go.Proofs.Ytjmmbadpknlmcaa
