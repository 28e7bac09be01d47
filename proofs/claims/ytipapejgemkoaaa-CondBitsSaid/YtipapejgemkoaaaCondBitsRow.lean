/- CondBits, whole: for every condition, every call and every two numbers the law returns true, and the arguments read as they did. No conditions. -/
import Derived.Test.YtipapejgemkoaaaRows
import Derived.Test.YtipapejgemkoaaaBits2
import Derived.Test.YtipapejgemkoaaaOpen
namespace Go.Proofs.Ytipapejgemkoaaa
open Go.ChangeShapes Go.WideShapes Go.ChangeAt Go.RowKit

set_option maxRecDepth 100000 in
theorem CondBits_lifted (os : Os) (started : os.Started) (H : Type) (enc : TypeId × Value → H) :
    ReturnsInHanded {} Try.checked os 4 .any (Rows.condBitsSpec.pre6 enc Try.prog Try.f4 Rows.condBitsRow.domain false) (Rows.condBitsSpec.post enc Try.prog Try.f4 false true false false) := by
  refine returnsInHanded_of_change (C := Try.checked) own started (by kernel_rfl) Try.func4
    (ChangeSpec.witness6 (enc := enc) (C := Try.checked) false ⟨#[], #[.agg #[.int .i64 0, .int .i64 0, .int .u64 0, .int .u64 0], .agg #[.int .u32 0, .int .u32 0, .int .u64 0, .int .u64 0, .int .u64 0, .int .u64 0, .int .u64 0, .int .u64 0, .int .u64 0], .agg #[.int .u64 0, .int .u64 0]], []⟩ 8 (by kernel_rfl) (by kernel_rfl) (by kernel_rfl) (by kernel_rfl)) ?_
  intro W base args ds gs before hval0 hW hcnd _
  have hval : ∀ (j : Nat) t v, Try.f4.params[j]? = some t → args[j]? = some v → Value.okWide Try.prog W .any base t v := hval0
  have hW' := hW
  obtain ⟨p, q, hA0, hV, rfl, hfz, hnd⟩ := hW
  have hA : DataW.TrodAll enc Try.prog W 0 (fun _ => true) true Try.f4.params.toList args.toList ds p := hA0
  rw [Try.params4] at hA hval
  obtain ⟨v0, v1, v2, d0, d1, d2, p0, p1, p2, rfl, rfl, rfl, h0, h1, h2⟩ := trodAll_three hA
  obtain ⟨rfl, rfl⟩ := trodVars_none hV
  obtain ⟨a, o, m, v, rfl, ⟨hm, hm'⟩, _⟩ := open_cond (hval 0 24 v0 rfl rfl) h0
  obtain ⟨nr, ar, ip, x0, x1, x2, x3, x4, x5, rfl, k0, k1, k2, k3, k4, k5⟩ := open_data (hval 1 28 v1 rfl rfl) h1
  obtain ⟨y0, y1, rfl, _, ky⟩ := open_pair (hval 2 32 v2 rfl rfl) h2
  refine (condBits_walk a o m v nr ar ip x0 x1 x2 x3 x4 x5 y0 y1 hm hm' k0.1 k1.1 k2.1 k3.1 k4.1 k5.1 k0.2 k1.2 k2.2 k3.2 k4.2 k5.2 ky.1 ky.2 W).mono fun e W' ⟨he, hb⟩ => ?_
  subst he
  exact ⟨_, rfl, law_post hW' rfl rfl Try.underlying4 rfl laidOut (by rw [Try.params4]; intro t ht; simp only [List.mem_cons, List.not_mem_nil, or_false] at ht; rcases ht with rfl | rfl | rfl <;> exact ⟨by kernel_rfl, of_decide_eq_true (by kernel_rfl)⟩) hb⟩

theorem CondBits_holds : Rows.CondBitsSaid :=
  OpenClaim.holds_of_wide 4 Try.f4 rfl rfl rfl rfl rfl rfl rfl ⟨rfl, rfl, rfl, rfl, rfl⟩ rfl rfl rfl rfl rfl (by kernel_rfl) Try.func4 (by kernel_rfl)
    (of_decide_eq_true (by kernel_rfl)) (by unfold Func.isWrapper; first | (rw [if_pos (by decide +kernel)]; kernel_rfl) | (rw [if_neg (by decide +kernel)]; exact ⟨rfl, rfl⟩))
    (fun os started H enc _ => CondBits_lifted os started H enc)
#print axioms CondBits_holds
end Go.Proofs.Ytipapejgemkoaaa
