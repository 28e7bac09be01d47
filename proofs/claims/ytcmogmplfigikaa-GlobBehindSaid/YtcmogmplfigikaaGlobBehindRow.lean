/- GlobBehind, whole: it returns true, and the arguments read as they did. No conditions. -/
import Derived.Test.YtcmogmplfigikaaRows
import Derived.Test.YtcmogmplfigikaaLaw7
import Derived.Test.YtcmogmplfigikaaTop
import Derived.Test.YtcmogmplfigikaaBase
import Derived.ChangeMaps5
namespace Go.Proofs.Ytcmogmplfigikaa
open Go.ChangeShapes Go.WideShapes Go.ChangeAt Go.RowKit Go.ChangeMaps

set_option maxRecDepth 100000 in
theorem GlobBehind_lifted (os : Os) (started : os.Started) (H : Type) (enc : TypeId × Value → H) :
    ReturnsInHanded {} Try.checked os 9 .any (Rows.globBehindSpec.pre6 enc Try.prog Try.f9 Rows.globBehindRow.domain false) (Rows.globBehindSpec.post enc Try.prog Try.f9 false true false false) := by
  refine returnsInHanded_of_change (C := Try.checked) own started (by kernel_rfl) Try.func9
    (ChangeSpec.witness6 (enc := enc) (C := Try.checked) false ⟨#[], #[.slice none 0 0, .slice none 0 0, .string ⟨#[]⟩], []⟩ 8 (by kernel_rfl) (by kernel_rfl) (by kernel_rfl) (by kernel_rfl)) ?_
  intro W base args ds gs before hval0 hW hcnd _
  have hval : ∀ (j : Nat) t v, Try.f9.params[j]? = some t → args[j]? = some v → Value.okWide Try.prog W .any base t v := hval0
  have hW' := hW
  obtain ⟨p, q, hA0, hV, rfl, hfz, hnd⟩ := hW
  have hA : DataW.TrodAll enc Try.prog W 0 (fun _ => true) true Try.f9.params.toList args.toList ds p := hA0
  rw [Try.params9] at hA hval
  obtain ⟨v0, v1, v2, d0, d1, d2, p0, p1, p2, rfl, rfl, rfl, h0, h1, h2⟩ := trodAll_three hA
  obtain ⟨rfl, rfl⟩ := trodVars_none hV
  obtain ⟨ls, hls, nls⟩ := open_lines2 (hval 0 30 v0 rfl rfl) h0
  obtain ⟨ms, hms, nms⟩ := open_lines2 (hval 1 30 v1 rfl rfl) h1
  obtain ⟨s, rfl, rfl, rfl, zs⟩ := open_string Try.underlying9 (hval 2 9 v2 rfl rfl) h2
  refine ((fun (_ : World) => law_behind v0 v1 ls ms s W hls hms nls nms) W).mono fun e W' ⟨he, hb⟩ => ?_
  subst he
  exact ⟨_, rfl, law_post hW' rfl rfl Try.underlying4 rfl laidOut (by rw [Try.params9]; intro t ht; simp only [List.mem_cons, List.not_mem_nil, or_false] at ht; rcases ht with rfl | rfl | rfl <;> exact ⟨by kernel_rfl, of_decide_eq_true (by kernel_rfl)⟩) hb⟩

theorem GlobBehind_holds : Rows.GlobBehindSaid :=
  OpenClaim.holds_of_wide 9 Try.f9 rfl rfl rfl rfl rfl rfl rfl ⟨rfl, rfl, rfl, rfl, rfl⟩ rfl rfl rfl rfl rfl (by kernel_rfl) Try.func9 (by kernel_rfl)
    (of_decide_eq_true (by kernel_rfl)) (by unfold Func.isWrapper; first | (rw [if_pos (by decide +kernel)]; kernel_rfl) | (rw [if_neg (by decide +kernel)]; exact ⟨rfl, rfl⟩))
    (fun os started H enc _ => GlobBehind_lifted os started H enc)
#print axioms GlobBehind_holds
end Go.Proofs.Ytcmogmplfigikaa
