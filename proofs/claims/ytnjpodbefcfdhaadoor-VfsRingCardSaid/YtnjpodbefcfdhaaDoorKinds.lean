/- A map from paths to kinds that the call has made: looked into, added to. No conditions but that a string is no longer than a string can be. -/
import Derived.Test.YtnjpodbefcfdhaaDoorRefCheck
import Derived.Maps.OwnOps
import Derived.Maps.Views
import Derived.StringKeys
namespace Go.Proofs.YtnjpodbefcfdhaaDoor
open Go.RowKit Go.WideShapes Go.Maps
set_option linter.unusedVariables false
set_option linter.unusedSimpArgs false
set_option maxRecDepth 100000

theorem under47 : Tryd.prog.underlying 47 = some (.map 9 3) := by kernel_rfl
theorem zero3 (w : World) : (zeroValue 3).run Tryd.prog w = .ok (.int .i64 0) w := by
  have h : (Tryd.prog.info? 3).map (·.zero) = some (some (.int .i64 0)) := by kernel_rfl
  cases hi : Tryd.prog.info? 3 with
  | none => simp [hi] at h
  | some i =>
    simp [hi] at h
    simp [zeroValue, typeInfo, Sem.run, hi, h]
def keyL (s : ByteArray) : Lit := .string s.data.toList
theorem keyL_ne {s t : ByteArray} (h : s ≠ t) : keyL s ≠ keyL t := by
  intro h'
  unfold keyL at h'
  injection h' with h'
  exact h (ByteArray.ext (Array.toList_inj.1 h'))
def KindsIs (w : World) (b n : Nat) (K : ByteArray → Int) : Prop :=
  ∃ D : DataW Unit, w.ownsMap Tryd.prog 9 (plainElem Tryd.prog 3) b n D ∧ IsMap D ∧ ∀ s, D.atKey (keyL s) (.lit (.int .i64 0)) = .lit (.int .i64 (K s))
theorem KindsIs.made (w : World) : KindsIs (w.alloc (.map #[] 0)) w.heap.size 0 (fun _ => 0) := ⟨.map [], World.ownsMap_made w _ _ _, isMap_empty, fun s => rfl⟩
theorem KindsIs.lt {w : World} {b n : Nat} {K : ByteArray → Int} (h : KindsIs w b n K) : b < w.heap.size := by
  obtain ⟨D, ho, _⟩ := h
  exact ho.lt
theorem KindsIs.below {w w1 : World} {b n : Nat} {K : ByteArray → Int} (h : KindsIs w b n K) (hb : Below w.heap.size w w1) : KindsIs w1 b n K := by
  obtain ⟨D, ho, hm, ha⟩ := h
  refine ⟨D, ?_, hm, ha⟩
  have hlt := ho.lt
  obtain ⟨es, clock, hh, F, hs, hD⟩ := ho
  exact ⟨es, clock, (hb.block b hlt).trans hh, F, hs, hD⟩
theorem KindsIs.congr {w : World} {b n : Nat} {K T : ByteArray → Int} (h : KindsIs w b n K) (e : ∀ s, K s = T s) : KindsIs w b n T := by
  obtain rfl : K = T := funext e
  exact h
theorem KindsIs.look {w : World} {b n : Nat} {K : ByteArray → Int} (h : KindsIs w b n K) (s : ByteArray) (hs : s.size ≤ 9223372036854775807) :
    (Instr.lookup 47 (.map (some b)) (.string s) false).run Tryd.prog w = .ok (.int .i64 (K s)) w := by
  obtain ⟨D, ho, hm, ha⟩ := h
  have hkey : keyOf Tryd.prog 9 (.string s) = some (keyL s) := WideMaps.keyOf_string_mk Tryd.underlying9 (by unfold maxLen; omega)
  obtain ⟨c, hrun, hv, hwc⟩ := ho.lookup_int (string_keyed Tryd.underlying9) under47 Tryd.underlying3 (zero3 w) hkey
  rw [ha s] at hv
  rw [hrun]
  congr 2
  injection hv with hv
  injection hv with _ hv
  exact hv.symm
theorem KindsIs.add {w : World} {b n : Nat} {K : ByteArray → Int} (h : KindsIs w b n K) (hn : n < 1000000) (s : ByteArray) (hs : s.size ≤ 9223372036854775807) (x : Int) (hx : (Lit.int IntKind.i64 x).wf = true) :
    ∃ w', (Instr.mapUpdate 47 (.map (some b)) (.string s) (.int .i64 x)).run Tryd.prog w = .ok () w' ∧ KindsIs w' b (n + 1) (fun t => if t = s then x else K t) ∧ w.grownBy w' (some b) := by
  obtain ⟨D, ho, hm, ha⟩ := h
  have hkey : keyOf Tryd.prog 9 (.string s) = some (keyL s) := WideMaps.keyOf_string_mk Tryd.underlying9 (by unfold maxLen; omega)
  obtain ⟨w', hrun, ho', hg⟩ := ho.update (string_keyed Tryd.underlying9) under47 (by unfold maxLen; omega) hkey (plainElem_int Tryd.underlying3 hx)
  refine ⟨w', hrun, ⟨_, ho', hm.put _ _, fun t => ?_⟩, hg⟩
  by_cases e : t = s
  · subst e
    rw [atKey_put_same hm (by unfold keyL; simp [WideAt.IsKeyLit])]
    simp only [if_true]
  · rw [atKey_put_other (keyL_ne e), ha]
    simp only [if_neg e]
theorem grown_below {w w' : World} {B b : Nat} (h : w.grownBy w' (some b)) (hB : B ≤ w.heap.size) (hb : B ≤ b) : Below B w w' :=
  ⟨h.os, h.tape, h.output, h.size, fun k hk => h.block k (by omega) (by intro e; injection e with e; omega)⟩
theorem wpList_kind {ops : Array Oper} {rest : List Oper} {o : Oper} {a : Act} {Q : Exit → Act → World → Prop} (w : World)
    (hg : o.guard = none) (m x v : Operand) (hop : o.op = Op.mapUpdate 47 m x v) (b n : Nat) (K : ByteArray → Int)
    (hm : a.eval m = .map (some b)) (h : KindsIs w b n K) (hn : n < 1000000) (s : ByteArray) (hs : s.size ≤ 9223372036854775807) (z : Int) (hz : (Lit.int IntKind.i64 z).wf = true) (hx : a.eval x = .string s) (hv : a.eval v = .int .i64 z)
    (hK : ∀ w', KindsIs w' b (n + 1) (fun t => if t = s then z else K t) → w.grownBy w' (some b) → wpList Tryd.prog ops Q rest (a.put o.dst undef) w') :
    wpList Tryd.prog ops Q (o :: rest) a w := by
  refine wpList_plain hg fun K' hK' => ?_
  obtain ⟨w', hrun, r1, r2⟩ := h.add hn s hs z hz
  unfold Oper.wp
  simp [execOp, hop, hm, hx, hv, hrun, Result.andThen]
  exact hK' _ _ (hK w' r1 r2)
theorem wpList_kindI {ops : Array Oper} {rest : List Oper} {o : Oper} {a : Act} {Q : Exit → Act → World → Prop} (w : World)
    (hg : o.guard = none) (m x v : Operand) (hop : o.op = Op.insert 47 m x v) (b n : Nat) (K : ByteArray → Int)
    (hm : a.eval m = .map (some b)) (h : KindsIs w b n K) (hn : n < 1000000) (s : ByteArray) (hs : s.size ≤ 9223372036854775807) (z : Int) (hz : (Lit.int IntKind.i64 z).wf = true) (hx : a.eval x = .string s) (hv : a.eval v = .int .i64 z)
    (hK : ∀ w', KindsIs w' b (n + 1) (fun t => if t = s then z else K t) → w.grownBy w' (some b) → wpList Tryd.prog ops Q rest (a.put o.dst undef) w') :
    wpList Tryd.prog ops Q (o :: rest) a w := by
  refine wpList_plain hg fun K' hK' => ?_
  obtain ⟨w', hrun, r1, r2⟩ := h.add hn s hs z hz
  unfold Oper.wp
  simp [execOp, hop, hm, hx, hv, hrun, Result.andThen]
  exact hK' _ _ (hK w' r1 r2)

/-! ### The kinds, plainly -/
def Fines (A : List Nod) : Prop := ∀ x ∈ A, fineN x = true
theorem kind_zero {A : List Nod} (h : Fines A) (p : List UInt8) : kindOf A p = 0 ↔ findL A p = none := by
  unfold kindOf
  cases hx : findL A p with
  | none => simp
  | some y =>
    simp only [reduceCtorEq, iff_false]
    rcases (findL_some hx).2 with rfl | hm
    · decide
    · rcases formB_kind (fineN_parts (h y hm)).2.2.2 with h | h | h <;> omega
theorem wrongN_kinds {A : List Nod} (h : Fines A) {x : Nod} (hf : fineN x = true) : wrongN A x = if kindOf A x.p ≠ 0 then 9 else if kindOf A (upL x.p) = 0 then 17 else if kindOf A (upL x.p) = 2 then 0 else 20 := by
  by_cases h1 : kindOf A x.p = 0
  · rw [if_neg (by simpa using h1)]
    have h2 := (kind_zero h _).1 h1
    by_cases h3 : kindOf A (upL x.p) = 0
    · rw [if_pos h3]
      exact wrongN_none hf h2 ((kind_zero h _).1 h3)
    · rw [if_neg h3]
      cases h4 : findL A (upL x.p) with
      | none => exact absurd ((kind_zero h _).2 h4) h3
      | some y =>
        have h5 : kindOf A (upL x.p) = y.k := by unfold kindOf; rw [h4]
        rw [h5]
        exact wrongN_some hf h2 h4
  · rw [if_pos h1]
    cases h4 : findL A x.p with
    | none => exact absurd ((kind_zero h _).2 h4) h1
    | some y => exact wrongN_twice hf h4
theorem kindOf_snoc {A : List Nod} {x : Nod} (hx : x.p ≠ [47]) (h : findL A x.p = none) (q : List UInt8) : kindOf (A ++ [x]) q = if q = x.p then x.k else kindOf A q := by
  by_cases hq : q = x.p
  · subst hq
    rw [if_pos rfl]
    unfold kindOf
    rw [findL_snoc_none hx h]
  · rw [if_neg hq]
    unfold kindOf findL
    by_cases h47 : q = [47]
    · rw [if_pos h47, if_pos h47]
    · rw [if_neg h47, if_neg h47, List.find?_append]
      have : List.find? (fun y : Nod => decide (y.p = q)) [x] = none := by simp; exact fun h => hq h.symm
      rw [this, Option.or_none]
theorem kindOf_nil (q : List UInt8) : kindOf [] q = if q = [47] then 2 else 0 := by
  unfold kindOf findL
  by_cases h : q = [47]
  · rw [if_pos h, if_pos h]; rfl
  · rw [if_neg h, if_neg h]; rfl
end Go.Proofs.YtnjpodbefcfdhaaDoor
