/- ArqOrder, whole: it returns true, and the arguments read as they did. No conditions. -/
import Derived.Test.YtocfklnoklmocaaRows
import Derived.Test.YtocfklnoklmocaaLaw2
import Derived.Test.YtocfklnoklmocaaOpen
import Derived.Test.YtocfklnoklmocaaTop
import Derived.Test.YtocfklnoklmocaaBase
namespace Go.Proofs.Ytocfklnoklmocaa
open Go.ChangeShapes Go.WideShapes Go.ChangeAt Go.RowKit

set_option maxRecDepth 100000 in
theorem ArqOrder_lifted (os : Os) (started : os.Started) (H : Type) (enc : TypeId × Value → H) :
    ReturnsInHanded {} Try.checked os 4 .any (Rows.arqOrderSpec.pre6 enc Try.prog Try.f4 Rows.arqOrderRow.domain false) (Rows.arqOrderSpec.post enc Try.prog Try.f4 false true false false) := by
  refine returnsInHanded_of_change (C := Try.checked) own started (by kernel_rfl) Try.func4
    (ChangeSpec.witness6 (enc := enc) (C := Try.checked) false ⟨#[], #[.slice none 0 0, .int .i64 0], []⟩ 8 (by kernel_rfl) (by kernel_rfl) (by kernel_rfl) (by kernel_rfl)) ?_
  intro W base args ds gs before hval0 hW hcnd _
  have hval : ∀ (j : Nat) t v, Try.f4.params[j]? = some t → args[j]? = some v → Value.okWide Try.prog W .any base t v := hval0
  have hW' := hW
  obtain ⟨p, q, hA0, hV, rfl, hfz, hnd⟩ := hW
  have hA : DataW.TrodAll enc Try.prog W 0 (fun _ => true) true Try.f4.params.toList args.toList ds p := hA0
  rw [Try.params4] at hA hval
  obtain ⟨v0, v1, d0, d1, p0, p1, rfl, rfl, rfl, h0, h1⟩ := trodAll_two hA
  obtain ⟨rfl, rfl⟩ := trodVars_none hV
  obtain ⟨L, hN, hU⟩ := open_nums (hval 0 22 v0 rfl rfl) h0
  obtain ⟨tn, rfl, rfl, rfl, wtn⟩ := open_int Try.underlying3 (hval 1 3 v1 rfl rfl) h1
  refine ((fun (_ : World) => law_order v0 L tn W hN hU (bounds_i64 wtn).2) W).mono fun e W' ⟨he, hb⟩ => ?_
  subst he
  exact ⟨_, rfl, law_post hW' rfl rfl Try.underlying4 rfl laidOut (by rw [Try.params4]; intro t ht; simp only [List.mem_cons, List.not_mem_nil, or_false] at ht; rcases ht with rfl | rfl <;> exact ⟨by kernel_rfl, of_decide_eq_true (by kernel_rfl)⟩) hb⟩

theorem ArqOrder_holds : Rows.ArqOrderSaid :=
  OpenClaim.holds_of_wide 4 Try.f4 rfl rfl rfl rfl rfl rfl rfl ⟨rfl, rfl, rfl, rfl, rfl⟩ rfl rfl rfl rfl rfl (by kernel_rfl) Try.func4 (by kernel_rfl)
    (of_decide_eq_true (by kernel_rfl)) (by unfold Func.isWrapper; first | (rw [if_pos (by decide +kernel)]; kernel_rfl) | (rw [if_neg (by decide +kernel)]; exact ⟨rfl, rfl⟩))
    (fun os started H enc _ => ArqOrder_lifted os started H enc)
#print axioms ArqOrder_holds
end Go.Proofs.Ytocfklnoklmocaa
