/- What the arguments of this chapter's laws are: conditions, calls, forms, numbers, by value. No conditions. -/
import Derived.Test.YtipapejgemkoaaaChecked
import Derived.Test.YtipapejgemkoaaaTop
namespace Go.Proofs.Ytipapejgemkoaaa
open Go.ChangeShapes Go.WideShapes Go.RowKit

theorem own : ownKnob Try.prog.godebug = none := by kernel_rfl
theorem laidOut : laidOutB Try.prog = true := by kernel_rfl
theorem cells22 : Try.prog.cellsOf 22 = 1 := by kernel_rfl
theorem cells25 : Try.prog.cellsOf 25 = 1 := by kernel_rfl
theorem cells3 : Try.prog.cellsOf 3 = 1 := by kernel_rfl
theorem cells4 : Try.prog.cellsOf 4 = 1 := by kernel_rfl
theorem cells24 : Try.prog.cellsOf 24 = 4 := by kernel_rfl
theorem cells26 : Try.prog.cellsOf 26 = 6 := by kernel_rfl
theorem cells28 : Try.prog.cellsOf 28 = 9 := by kernel_rfl
theorem cells32 : Try.prog.cellsOf 32 = 2 := by kernel_rfl
theorem cells35 : Try.prog.cellsOf 35 = 6 := by kernel_rfl

def W64 (x : Int) : Prop := 0 ≤ x ∧ x < 18446744073709551616
theorem w64_of {x : Int} (h : (Lit.int .u64 x).wf = true) : W64 x := by
  simp [Lit.wf, IntKind.min, IntKind.max, IntKind.signed, IntKind.bits] at h
  exact ⟨by omega, by omega⟩

section
variable {H : Type} {enc : TypeId × Value → H} {w : World} {base : Nat} {spare : Nat → Bool} {held : Bool} {r : Reach} {b0 : Nat}
theorem open_cond {v : Value} {d : DataW H} {p : List MemPlace} (hv : Value.okWide Try.prog w r b0 24 v) (h : DataW.Trod enc Try.prog w base spare held 24 v d p) :
    ∃ a o m x : Int, v = .agg #[.int .i64 a, .int .i64 o, .int .u64 m, .int .u64 x] ∧ W64 m ∧ W64 x := by
  obtain ⟨cs, rfl, hl, hf⟩ := open_struct Try.underlying24 hv h
  rw [cells24] at hl
  obtain ⟨c0, c1, c2, c3, rfl⟩ := list4 hl
  have f0 := hf 0 3 0 1 rfl cells3
  have f1 := hf 1 3 1 1 rfl cells3
  have f2 := hf 2 22 2 1 rfl cells22
  have f3 := hf 3 22 3 1 rfl cells22
  obtain ⟨a, rfl, _⟩ := int_of Try.underlying3 f0
  obtain ⟨o, rfl, _⟩ := int_of Try.underlying3 f1
  obtain ⟨m, rfl, hm⟩ := int_of Try.underlying22 f2
  obtain ⟨x, rfl, hx⟩ := int_of Try.underlying22 f3
  exact ⟨a, o, m, x, rfl, w64_of hm, w64_of hx⟩

theorem open_data {v : Value} {d : DataW H} {p : List MemPlace} (hv : Value.okWide Try.prog w r b0 28 v) (h : DataW.Trod enc Try.prog w base spare held 28 v d p) :
    ∃ nr ar ip x0 x1 x2 x3 x4 x5 : Int, v = .agg #[.int .u32 nr, .int .u32 ar, .int .u64 ip, .int .u64 x0, .int .u64 x1, .int .u64 x2, .int .u64 x3, .int .u64 x4, .int .u64 x5] ∧
      W64 x0 ∧ W64 x1 ∧ W64 x2 ∧ W64 x3 ∧ W64 x4 ∧ W64 x5 := by
  obtain ⟨cs, rfl, hl, hf⟩ := open_struct Try.underlying28 hv h
  rw [cells28] at hl
  obtain ⟨c0, c1, c2, c3, c4, c5, c6, c7, c8, rfl⟩ := list9 hl
  have f0 := hf 0 25 0 1 rfl cells25
  have f1 := hf 1 25 1 1 rfl cells25
  have f2 := hf 2 22 2 1 rfl cells22
  have f3 := hf 3 26 3 6 rfl cells26
  obtain ⟨nr, rfl, _⟩ := int_of Try.underlying25 f0
  obtain ⟨ar, rfl, _⟩ := int_of Try.underlying25 f1
  obtain ⟨ip, rfl, _⟩ := int_of Try.underlying22 f2
  obtain ⟨n, y, f3⟩ := f3
  have hg := open_array Try.underlying26 f3
  simp only [cells22] at hg
  obtain ⟨x0, rfl, h0⟩ := int_of Try.underlying22 (hg 0 (by decide))
  obtain ⟨x1, rfl, h1⟩ := int_of Try.underlying22 (hg 1 (by decide))
  obtain ⟨x2, rfl, h2⟩ := int_of Try.underlying22 (hg 2 (by decide))
  obtain ⟨x3, rfl, h3⟩ := int_of Try.underlying22 (hg 3 (by decide))
  obtain ⟨x4, rfl, h4⟩ := int_of Try.underlying22 (hg 4 (by decide))
  obtain ⟨x5, rfl, h5⟩ := int_of Try.underlying22 (hg 5 (by decide))
  exact ⟨nr, ar, ip, x0, x1, x2, x3, x4, x5, rfl, w64_of h0, w64_of h1, w64_of h2, w64_of h3, w64_of h4, w64_of h5⟩

theorem open_pair {v : Value} {d : DataW H} {p : List MemPlace} (hv : Value.okWide Try.prog w r b0 32 v) (h : DataW.Trod enc Try.prog w base spare held 32 v d p) :
    ∃ x y : Int, v = .agg #[.int .u64 x, .int .u64 y] ∧ W64 x ∧ W64 y := by
  obtain ⟨⟨l⟩, rfl, hl⟩ := okWide_arr_val Try.underlying32 hv
  rw [cells32] at hl
  obtain ⟨c0, c1, rfl⟩ := list2 (by simpa using hl : l.length = 2)
  obtain ⟨fuel, hf⟩ := h
  simp only [Value.cells] at hf
  have hg := open_array Try.underlying32 hf
  simp only [cells22] at hg
  obtain ⟨x, rfl, h0⟩ := int_of Try.underlying22 (hg 0 (by decide))
  obtain ⟨y, rfl, h1⟩ := int_of Try.underlying22 (hg 1 (by decide))
  exact ⟨x, y, rfl, w64_of h0, w64_of h1⟩

theorem open_norm {v : Value} {d : DataW H} {p : List MemPlace} (hv : Value.okWide Try.prog w r b0 35 v) (h : DataW.Trod enc Try.prog w base spare held 35 v d p) :
    ∃ (al ne no : Bool) (o m x : Int), v = .agg #[.bool al, .bool ne, .bool no, .int .i64 o, .int .u64 m, .int .u64 x] := by
  obtain ⟨cs, rfl, hl, hf⟩ := open_struct Try.underlying35 hv h
  rw [cells35] at hl
  obtain ⟨c0, c1, c2, c3, c4, c5, rfl⟩ := list6 hl
  have f0 := hf 0 4 0 1 rfl cells4
  have f1 := hf 1 4 1 1 rfl cells4
  have f2 := hf 2 4 2 1 rfl cells4
  have f3 := hf 3 3 3 1 rfl cells3
  have f4 := hf 4 22 4 1 rfl cells22
  have f5 := hf 5 22 5 1 rfl cells22
  obtain ⟨al, rfl⟩ := bool_of Try.underlying4 f0
  obtain ⟨ne, rfl⟩ := bool_of Try.underlying4 f1
  obtain ⟨no, rfl⟩ := bool_of Try.underlying4 f2
  obtain ⟨o, rfl, _⟩ := int_of Try.underlying3 f3
  obtain ⟨m, rfl, _⟩ := int_of Try.underlying22 f4
  obtain ⟨x, rfl, _⟩ := int_of Try.underlying22 f5
  exact ⟨al, ne, no, o, m, x, rfl⟩
end
end Go.Proofs.Ytipapejgemkoaaa
