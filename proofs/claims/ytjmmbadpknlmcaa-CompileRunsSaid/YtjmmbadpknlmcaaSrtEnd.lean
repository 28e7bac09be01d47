/- The walk of the library's sort at []uint32: turned by program (gensort.py) from the kit's worked walk WalkANil. -/
import Derived.Sort.WalkA14
import Derived.Test.YtjmmbadpknlmcaaSrtLen
import Derived.Sort.AssemblyPlain
import Derived.Test.YtjmmbadpknlmcaaSrtA
import Derived.Test.YtjmmbadpknlmcaaSrtA6
import Derived.Test.YtjmmbadpknlmcaaSrtC
import Derived.Test.YtjmmbadpknlmcaaSrtC4
import Derived.Test.YtjmmbadpknlmcaaSrt7
import Derived.Test.YtjmmbadpknlmcaaSrt11
import Derived.Test.YtjmmbadpknlmcaaSrt13
import Derived.Test.YtjmmbadpknlmcaaSrtTop
section
namespace Go.Proofs.Ytjmmbadpknlmcaa
open Go.RowKit Go.Sort
set_option linter.unusedVariables false
set_option linter.unusedSimpArgs false

theorem insertionSort_int_nil_u (p : Option Addr) (cap : Nat) (w : World) :
    Calls Try.prog 69 #[.slice p 0 cap, .int .i64 0, .int .i64 0] w fun e w' => e = .returned (.tuple #[]) ∧ w' = w := by
  go_enter Try.func69, Try.ntmps69
  go_wp2
  refine wp_loop_rounds 1 ?_
  rw [rounds_succ]
  go_wp2
  go_end0
  exact ⟨rfl, rfl⟩

set_option maxRecDepth 100000 in
theorem pdqsort_int_nil_u (p : Option Addr) (cap : Nat) (w : World) :
    Calls Try.prog 53 #[.slice p 0 cap, .int .i64 0, .int .i64 0, .int .i64 0] w fun e w' => e = .returned (.tuple #[]) ∧ w' = w := by
  go_enter Try.func53, Try.ntmps53
  go_wp2
  refine wp_loop_rounds 1 ?_
  rw [rounds_succ]
  go_wp2_with (first | (go_at_call 69; refine (insertionSort_int_nil_u p cap _).mono ?_; rintro e w' ⟨rfl, rfl⟩))
  refine bodyPost_ret (results_none rfl _ _ _) rfl ?_      -- an explicit 'return' in a function without results
  exact ⟨rfl, rfl⟩

set_option maxRecDepth 100000 in
theorem Sort_int_nil_u (p : Option Addr) (cap : Nat) (w : World) :
    Calls Try.prog 35 #[.slice p 0 cap] w fun e w' => e = .returned (.tuple #[]) ∧ w' = w := by
  have hLen : ∀ w, Calls Try.prog 54 #[.int .u64 0] w fun e w' => e = .returned (.int .i64 0) ∧ w' = w := fun w => bits_Len_u 0 w (by omega) (by omega)
  go_enter Try.func35, Try.ntmps35
  go_wp2_with (first
    | (go_at_call 54; refine (hLen _).mono ?_; rintro e w' ⟨rfl, rfl⟩)
    | (go_at_call 53; refine (pdqsort_int_nil_u p cap _).mono ?_; rintro e w' ⟨rfl, rfl⟩))
  go_end0
  exact ⟨rfl, rfl⟩
end Go.Proofs.Ytjmmbadpknlmcaa
end
section
/- The library's sort at []uint32: it sorts. Turned by program (gensort.py) from the kit's assembly. Condition: the row is held. -/
namespace Go.Proofs.Ytjmmbadpknlmcaa
open Go.RowKit Go.Sort

theorem callees13_u : Callees13u where
  ins := insertionSort_int_u
  brk := breakPatterns_int_u
  piv := choosePivot_int_u
  par := partialInsertionSort_int_u
  peq := partitionEqualOrdered_int_u
  prt := partitionOrdered_int_u

theorem plain13_u : Plain13 where
  swo := swo_ltInt
  ins := insertionSort_holds
  par := partialInsertionSort_holds
  prt := partition_holds _
  peq := partitionEqual_holds _
  pdq := pdq_sorts _

theorem pdqWalkInt_u : pdqWalk_u := fun blk off cap a b limit d w hH hb hab hbd hsz hl hB =>
  pdqsort_int_u callees13_u plain13_u (b - a + 1) blk off cap a b limit d w (by omega) hH hb hab hbd hsz hl hB

theorem sort_int_eq_u (zs : List Int) : Sort.sort ltInt zs.toArray = (zs.mergeSort fun x y => decide (x ≤ y)).toArray := by
  rw [← sortInt zs]

theorem slices_Sort_u (blk off cap : Nat) (zs : List Int) (w : World) (hH : Holds (Value.int .u32) w blk off zs.toArray) (hblk : blk < w.heap.size) (hsz : zs.length < 4611686018427387904) :
    Calls Try.prog 35 #[.slice (some ⟨blk, off, none⟩) zs.length cap] w fun e w' =>
      e = .returned (.tuple #[]) ∧ ∃ n os, w' = grow (putRow (Value.int .u32) (Sort.ahead w n) blk off (zs.mergeSort fun x y => decide (x ≤ y)).toArray) os := by
  have h := Sort_int_u pdqWalkInt_u blk off cap zs.toArray w hH hblk (by simpa using hsz)
  rw [sort_int_eq_u] at h
  simpa using h
end Go.Proofs.Ytjmmbadpknlmcaa
end
