/- A row of the call's own, one cell of which is written; what a tick makes of the lists, step by step. No conditions. -/
import Derived.Test.YtocfklnoklmocaaRPlain
namespace Go.Proofs.Ytocfklnoklmocaa
open Go.RowKit
set_option linter.unusedVariables false
set_option linter.unusedSimpArgs false

theorem own_set {w : World} {b g n cap i : Nat} {e : TypeId} {xs : List Value} (h : w.ownsRow b e 1 (.slice (some ⟨g, 0, none⟩) n cap) n xs) (hi : i < n) (u : Value) : (w.setCell ⟨g, i, none⟩ u).ownsRow b e 1 (.slice (some ⟨g, 0, none⟩) n cap) n (xs.set i u) := by
  obtain ⟨h1, h2⟩ := h
  refine ⟨by rw [List.length_set]; exact h1, ?_⟩
  rcases h2 with ⟨h2, _⟩ | ⟨g', cap', cur, h2, h3, h4, h5, h6, h7, h8⟩
  · cases h2
  · injection h2 with e1 e2 e3
    injection e1 with e1
    injection e1 with e1
    subst e1 e3
    refine .inr ⟨g, cap, cur.setIfInBounds i u, rfl, h3, ?_, h5, h6, by simpa using h7, ?_⟩
    · unfold World.setCell
      simp [Array.getElem?_modify, h4]
    · rw [← h8, Array.toList_setIfInBounds, List.take_set]
def mixL (e : Int) (l : List Int) (i : Nat) : List Int := (l.take i).map (tk e) ++ l.drop i
theorem mix_len (e : Int) (l : List Int) (i : Nat) : (mixL e l i).length = l.length := by
  unfold mixL
  simp
  omega
theorem mix_zero (e : Int) (l : List Int) : mixL e l 0 = l := by simp [mixL]
theorem mix_all (e : Int) (l : List Int) : mixL e l l.length = l.map (tk e) := by simp [mixL]
theorem mix_at {e : Int} {l : List Int} {i : Nat} {c : Int} (h : l[i]? = some c) : (mixL e l i)[i]? = some c := by
  have hl := (List.getElem?_eq_some_iff.1 h).1
  unfold mixL
  rw [List.getElem?_append_right (by simp; omega)]
  simp
  rw [show i - min i l.length = 0 by omega, Nat.add_zero]
  exact h
theorem mix_succ {e : Int} {l : List Int} {i : Nat} {c : Int} (h : l[i]? = some c) : mixL e l (i + 1) = (mixL e l i).set i (tk e c) := by
  have hl := (List.getElem?_eq_some_iff.1 h).1
  unfold mixL
  rw [List.set_append_right _ _ (by simp; omega)]
  rw [show i - ((l.take i).map (tk e)).length = 0 by simp; omega]
  have e1 : (l.drop i).set 0 (tk e c) = tk e c :: l.drop (i + 1) := by rw [List.drop_eq_getElem_cons hl]; rfl
  rw [e1, List.take_add_one, h]
  simp
theorem offs_take {ids lefts : List Int} {i : Nat} {x c : Int} (hx : ids[i]? = some x) (hc : lefts[i]? = some c) : offs (ids.take (i + 1)) (lefts.take (i + 1)) = offs (ids.take i) (lefts.take i) ++ (if c = 1 then [x] else []) := by
  have hxl := (List.getElem?_eq_some_iff.1 hx).1
  have hcl := (List.getElem?_eq_some_iff.1 hc).1
  unfold offs
  rw [List.take_add_one, List.take_add_one, hx, hc]
  rw [List.zip_append (by simp; omega)]
  by_cases h : c = 1 <;> simp [h]
theorem offs_take_len (ids lefts : List Int) (i : Nat) : (offs (ids.take i) (lefts.take i)).length ≤ i := by
  unfold offs
  rw [List.length_map]
  refine Nat.le_trans (List.length_filter_le _ _) ?_
  simp
  omega
theorem I_set (l : List Int) (i : Nat) (c : Int) : I (l.set i c) = (I l).set i (.int .i64 c) := by unfold I; rw [List.map_set]
end Go.Proofs.Ytocfklnoklmocaa
