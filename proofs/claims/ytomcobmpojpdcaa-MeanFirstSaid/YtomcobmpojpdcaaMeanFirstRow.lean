/- MeanFirst, whole: it returns true, and the arguments read as they did. No conditions. -/
import Derived.Test.YtomcobmpojpdcaaRows
import Derived.Test.YtomcobmpojpdcaaLaw3
import Derived.Test.YtomcobmpojpdcaaTop
import Derived.Test.YtomcobmpojpdcaaBase
import Derived.ChangeMaps5
namespace Go.Proofs.Ytomcobmpojpdcaa
open Go.ChangeShapes Go.WideShapes Go.ChangeAt Go.RowKit Go.ChangeMaps

set_option maxRecDepth 100000 in
theorem MeanFirst_lifted (os : Os) (started : os.Started) (H : Type) (enc : TypeId × Value → H) :
    ReturnsInHanded {} Try.checked os 6 .any (Rows.meanFirstSpec.pre6 enc Try.prog Try.f6 Rows.meanFirstRow.domain false) (Rows.meanFirstSpec.post enc Try.prog Try.f6 false true false false) := by
  refine returnsInHanded_of_change (C := Try.checked) own started (by kernel_rfl) Try.func6
    (ChangeSpec.witness6 (enc := enc) (C := Try.checked) false ⟨#[], #[.agg #[.int .i64 0, .int .i64 0, .slice none 0 0], .agg #[.int .i64 0, .int .i64 0, .slice none 0 0, .slice none 0 0], .agg #[.int .u32 0, .int .u32 0, .int .u64 0, .int .u64 0, .int .u64 0, .int .u64 0, .int .u64 0, .int .u64 0, .int .u64 0]], []⟩ 8 (by kernel_rfl) (by kernel_rfl) (by kernel_rfl) (by kernel_rfl)) ?_
  intro W base args ds gs before hval0 hW hcnd _
  have hval : ∀ (j : Nat) t v, Try.f6.params[j]? = some t → args[j]? = some v → Value.okWide Try.prog W .any base t v := hval0
  have hW' := hW
  obtain ⟨p, q, hA0, hV, rfl, hfz, hnd⟩ := hW
  have hA : DataW.TrodAll enc Try.prog W 0 (fun _ => true) true Try.f6.params.toList args.toList ds p := hA0
  rw [Try.params6] at hA hval
  obtain ⟨v0, v1, v2, d0, d1, d2, p0, p1, p2, rfl, rfl, rfl, h0, h1, h2⟩ := trodAll_three hA
  obtain ⟨rfl, rfl⟩ := trodVars_none hV
  obtain ⟨k, a, lv, L, rfl, hL⟩ := open_rules (hval 0 33 v0 rfl rfl) h0
  obtain ⟨rk, ra, nv, cv, ns, cn, rfl, hns, hcn⟩ := open_rule (hval 1 48 v1 rfl rfl) h1
  obtain ⟨nr, ar, ip, x0, x1, x2, x3, x4, x5, rfl⟩ := open_data (hval 2 41 v2 rfl rfl) h2
  refine (law_first k a rk ra nr ar ip x0 x1 x2 x3 x4 x5 lv nv cv L ns cn W hL hns hcn).mono fun e W' ⟨he, hb⟩ => ?_
  subst he
  exact ⟨_, rfl, law_post hW' rfl rfl Try.underlying4 rfl laidOut (by rw [Try.params6]; intro t ht; simp only [List.mem_cons, List.not_mem_nil, or_false] at ht; rcases ht with rfl | rfl | rfl <;> exact ⟨by kernel_rfl, of_decide_eq_true (by kernel_rfl)⟩) hb⟩

theorem MeanFirst_holds : Rows.MeanFirstSaid :=
  OpenClaim.holds_of_wide 6 Try.f6 rfl rfl rfl rfl rfl rfl rfl ⟨rfl, rfl, rfl, rfl, rfl⟩ rfl rfl rfl rfl rfl (by kernel_rfl) Try.func6 (by kernel_rfl)
    (of_decide_eq_true (by kernel_rfl)) (by unfold Func.isWrapper; first | (rw [if_pos (by decide +kernel)]; kernel_rfl) | (rw [if_neg (by decide +kernel)]; exact ⟨rfl, rfl⟩))
    (fun os started H enc _ => MeanFirst_lifted os started H enc)
#print axioms MeanFirst_holds
end Go.Proofs.Ytomcobmpojpdcaa
