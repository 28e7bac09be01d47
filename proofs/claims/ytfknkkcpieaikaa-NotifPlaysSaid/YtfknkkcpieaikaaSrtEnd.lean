/- The library's sort at []uint64: it sorts. Turned by program (gensort.py) from the kit's assembly. Condition: the row is held. -/
import Derived.Sort.AssemblyPlain
import Derived.Test.YtfknkkcpieaikaaSrtA
import Derived.Test.YtfknkkcpieaikaaSrtA6
import Derived.Test.YtfknkkcpieaikaaSrtC
import Derived.Test.YtfknkkcpieaikaaSrtC4
import Derived.Test.YtfknkkcpieaikaaSrt7
import Derived.Test.YtfknkkcpieaikaaSrt11
import Derived.Test.YtfknkkcpieaikaaSrt13
import Derived.Test.YtfknkkcpieaikaaSrtTop
import Derived.Test.YtfknkkcpieaikaaSrtNil
namespace Go.Proofs.Ytfknkkcpieaikaa
open Go.RowKit Go.Sort

theorem callees13_u : Callees13u where
  ins := insertionSort_int_u
  brk := breakPatterns_int_u
  piv := choosePivot_int_u
  par := partialInsertionSort_int_u
  peq := partitionEqualOrdered_int_u
  prt := partitionOrdered_int_u

theorem plain13_u : Plain13 where
  swo := swo_ltInt
  ins := insertionSort_holds
  par := partialInsertionSort_holds
  prt := partition_holds _
  peq := partitionEqual_holds _
  pdq := pdq_sorts _

theorem pdqWalkInt_u : pdqWalk_u := fun blk off cap a b limit d w hH hb hab hbd hsz hl hB =>
  pdqsort_int_u callees13_u plain13_u (b - a + 1) blk off cap a b limit d w (by omega) hH hb hab hbd hsz hl hB

theorem sort_int_eq_u (zs : List Int) : Sort.sort ltInt zs.toArray = (zs.mergeSort fun x y => decide (x ≤ y)).toArray := by
  rw [← sortInt zs]

theorem slices_Sort_u (blk off cap : Nat) (zs : List Int) (w : World) (hH : Holds (Value.int .u64) w blk off zs.toArray) (hblk : blk < w.heap.size) (hsz : zs.length < 4611686018427387904) :
    Calls Try.prog 40 #[.slice (some ⟨blk, off, none⟩) zs.length cap] w fun e w' =>
      e = .returned (.tuple #[]) ∧ ∃ n os, w' = grow (putRow (Value.int .u64) (Sort.ahead w n) blk off (zs.mergeSort fun x y => decide (x ≤ y)).toArray) os := by
  have h := Sort_int_u pdqWalkInt_u blk off cap zs.toArray w hH hblk (by simpa using hsz)
  rw [sort_int_eq_u] at h
  simpa using h
end Go.Proofs.Ytfknkkcpieaikaa
