/- CompileRuns, whole: it returns true, and the arguments read as they did. No conditions. -/
import Derived.Test.YtjmmbadpknlmcaaRows
import Derived.Test.YtjmmbadpknlmcaaLaw3
import Derived.Test.YtjmmbadpknlmcaaDatas
import Derived.Test.YtjmmbadpknlmcaaTop
import Derived.Test.YtjmmbadpknlmcaaOpen
import Derived.Test.YtjmmbadpknlmcaaBase
import Derived.ChangeMaps5
namespace Go.Proofs.Ytjmmbadpknlmcaa
open Go.ChangeShapes Go.WideShapes Go.ChangeAt Go.RowKit Go.ChangeMaps

set_option maxRecDepth 100000 in
theorem CompileRuns_lifted (os : Os) (started : os.Started) (H : Type) (enc : TypeId × Value → H) :
    ReturnsInHanded {} Try.checked os 7 .any (Rows.compileRunsSpec.pre6 enc Try.prog Try.f7 Rows.compileRunsRow.domain false) (Rows.compileRunsSpec.post enc Try.prog Try.f7 false true false false) := by
  refine returnsInHanded_of_change (C := Try.checked) own started (by kernel_rfl) Try.func7
    (ChangeSpec.witness6 (enc := enc) (C := Try.checked) false ⟨#[], #[.agg #[.int .i64 0, .int .i64 0, .slice none 0 0], .slice none 0 0], []⟩ 8 (by kernel_rfl) (by kernel_rfl) (by kernel_rfl) (by kernel_rfl)) ?_
  intro W base args ds gs before hval0 hW hcnd _
  have hval : ∀ (j : Nat) t v, Try.f7.params[j]? = some t → args[j]? = some v → Value.okWide Try.prog W .any base t v := hval0
  have hW' := hW
  obtain ⟨p, q, hA0, hV, rfl, hfz, hnd⟩ := hW
  have hA : DataW.TrodAll enc Try.prog W 0 (fun _ => true) true Try.f7.params.toList args.toList ds p := hA0
  rw [Try.params7] at hA hval
  obtain ⟨v0, v1, d0, d1, p0, p1, rfl, rfl, rfl, h0, h1⟩ := trodAll_two hA
  obtain ⟨rfl, rfl⟩ := trodVars_none hV
  obtain ⟨k, a, lv, L, rfl, hL, hwf⟩ := open_rulesW (hval 0 26 v0 rfl rfl) h0
  obtain ⟨DL, hDL, hdw⟩ := open_dataL (hval 1 53 v1 rfl rfl) h1
  refine (law_runs k a lv v1 L DL W hL hwf hDL hdw).mono fun e W' ⟨he, hb⟩ => ?_
  subst he
  exact ⟨_, rfl, law_post hW' rfl rfl Try.underlying4 rfl laidOut (by rw [Try.params7]; intro t ht; simp only [List.mem_cons, List.not_mem_nil, or_false] at ht; rcases ht with rfl | rfl <;> exact ⟨by kernel_rfl, of_decide_eq_true (by kernel_rfl)⟩) hb⟩

theorem CompileRuns_holds : Rows.CompileRunsSaid :=
  OpenClaim.holds_of_wide 7 Try.f7 rfl rfl rfl rfl rfl rfl rfl ⟨rfl, rfl, rfl, rfl, rfl⟩ rfl rfl rfl rfl rfl (by kernel_rfl) Try.func7 (by kernel_rfl)
    (of_decide_eq_true (by kernel_rfl)) (by unfold Func.isWrapper; first | (rw [if_pos (by decide +kernel)]; kernel_rfl) | (rw [if_neg (by decide +kernel)]; exact ⟨rfl, rfl⟩))
    (fun os started H enc _ => CompileRuns_lifted os started H enc)
#print axioms CompileRuns_holds
end Go.Proofs.Ytjmmbadpknlmcaa
