/- A set of strings that the call has made: looked into, added to. No conditions but that a string is no longer than a string can be. -/
import Derived.Test.YtjmmbadpknlmcaaMem
import Derived.Maps.OwnOps
import Derived.Maps.Views
import Derived.StringKeys
namespace Go.Proofs.Ytjmmbadpknlmcaa
open Go.RowKit Go.WideShapes Go.Maps
set_option linter.unusedVariables false
set_option linter.unusedSimpArgs false
set_option maxRecDepth 100000

theorem under105 : Try.prog.underlying 105 = some (.map 9 4) := by kernel_rfl
theorem zero4 (w : World) : (zeroValue 4).run Try.prog w = .ok (.bool false) w := by
  have h : (Try.prog.info? 4).map (·.zero) = some (some (.bool false)) := by kernel_rfl
  cases hi : Try.prog.info? 4 with
  | none => simp [hi] at h
  | some i =>
    simp [hi] at h
    simp [zeroValue, typeInfo, Sem.run, hi, h]
def keyL (s : ByteArray) : Lit := .string s.data.toList
theorem keyL_ne {s t : ByteArray} (h : s ≠ t) : keyL s ≠ keyL t := by
  intro h'
  unfold keyL at h'
  injection h' with h'
  exact h (ByteArray.ext (Array.toList_inj.1 h'))

/-- Block b is a set: what is in it. -/
def SetIs (w : World) (b n : Nat) (S : ByteArray → Bool) : Prop :=
  ∃ D : DataW Unit, w.ownsMap Try.prog 9 (plainElem Try.prog 4) b n D ∧ IsMap D ∧ ∀ s, D.atKey (keyL s) (.lit (.bool false)) = .lit (.bool (S s))
theorem SetIs.made (w : World) : SetIs (w.alloc (.map #[] 0)) w.heap.size 0 (fun _ => false) := ⟨.map [], World.ownsMap_made w _ _ _, isMap_empty, fun s => rfl⟩
theorem SetIs.below {w w1 : World} {b n : Nat} {S : ByteArray → Bool} (h : SetIs w b n S) (hb : Below w.heap.size w w1) : SetIs w1 b n S := by
  obtain ⟨D, ho, hm, ha⟩ := h
  refine ⟨D, ?_, hm, ha⟩
  have hlt := ho.lt
  obtain ⟨es, clock, hh, F, hs, hD⟩ := ho
  exact ⟨es, clock, (hb.block b hlt).trans hh, F, hs, hD⟩
theorem SetIs.drewN {w : World} {b n : Nat} {S : ByteArray → Bool} (h : SetIs w b n S) (m : Nat) : SetIs (w.drewN m) b n S := h
theorem SetIs.congr {w : World} {b n : Nat} {S T : ByteArray → Bool} (h : SetIs w b n S) (e : ∀ s, S s = T s) : SetIs w b n T := by
  obtain rfl : S = T := funext e
  exact h
theorem plainElem_bool_inv {H : Type} {v : Value} {x : Bool} {ps : List MemPlace} (h : plainElem (H := H) Try.prog 4 v = some (.lit (.bool x), ps)) : v = .bool x := by
  unfold plainElem at h
  rw [Try.underlying4] at h
  cases v <;> simp at h
  rw [h.1]
theorem SetIs.look {w : World} {b n : Nat} {S : ByteArray → Bool} (h : SetIs w b n S) (s : ByteArray) (hs : s.size ≤ 9223372036854775807) :
    (Instr.lookup 105 (.map (some b)) (.string s) false).run Try.prog w = .ok (.bool (S s)) w := by
  obtain ⟨D, ho, hm, ha⟩ := h
  have hkey : keyOf Try.prog 9 (.string s) = some (keyL s) := WideMaps.keyOf_string_mk Try.underlying9 (by unfold maxLen; omega)
  obtain ⟨v, ps, hrun, hv⟩ := ho.lookup (string_keyed Try.underlying9) under105 (zero4 w) (plainElem_bool Try.underlying4 false) hkey
  rw [ha s] at hv
  rw [hrun, plainElem_bool_inv hv]
theorem SetIs.add {w : World} {b n : Nat} {S : ByteArray → Bool} (h : SetIs w b n S) (hn : n < 1000000) (s : ByteArray) (hs : s.size ≤ 9223372036854775807) :
    ∃ w', (Instr.mapUpdate 105 (.map (some b)) (.string s) (.bool true)).run Try.prog w = .ok () w' ∧ SetIs w' b (n + 1) (fun t => decide (t = s) || S t) ∧ w.grownBy w' (some b) := by
  obtain ⟨D, ho, hm, ha⟩ := h
  have hkey : keyOf Try.prog 9 (.string s) = some (keyL s) := WideMaps.keyOf_string_mk Try.underlying9 (by unfold maxLen; omega)
  obtain ⟨w', hrun, ho', hg⟩ := ho.update (string_keyed Try.underlying9) under105 (by unfold maxLen; omega) hkey (plainElem_bool Try.underlying4 true)
  refine ⟨w', hrun, ⟨_, ho', hm.put _ _, fun t => ?_⟩, hg⟩
  by_cases e : t = s
  · subst e
    rw [atKey_put_same hm (by unfold keyL; simp [WideAt.IsKeyLit])]
    simp
  · rw [atKey_put_other (keyL_ne e), ha]
    simp [e]
theorem grown_below {w w' : World} {B b : Nat} (h : w.grownBy w' (some b)) (hB : B ≤ w.heap.size) (hb : B ≤ b) : Below B w w' :=
  ⟨h.os, h.tape, h.output, h.size, fun k hk => h.block k (by omega) (by intro e; injection e with e; omega)⟩
theorem wpList_set {ops : Array Oper} {rest : List Oper} {o : Oper} {a : Act} {Q : Exit → Act → World → Prop} (w : World)
    (hg : o.guard = none) (m x v : Operand) (hop : o.op = Op.mapUpdate 105 m x v) (b n : Nat) (S : ByteArray → Bool)
    (hm : a.eval m = .map (some b)) (h : SetIs w b n S) (hn : n < 1000000) (s : ByteArray) (hs : s.size ≤ 9223372036854775807) (hx : a.eval x = .string s) (hv : a.eval v = .bool true)
    (hK : ∀ w', SetIs w' b (n + 1) (fun t => decide (t = s) || S t) → w.grownBy w' (some b) → wpList Try.prog ops Q rest (a.put o.dst undef) w') :
    wpList Try.prog ops Q (o :: rest) a w := by
  refine wpList_plain hg fun K' hK' => ?_
  obtain ⟨w', hrun, r1, r2⟩ := h.add hn s hs
  unfold Oper.wp
  simp [execOp, hop, hm, hx, hv, hrun, Result.andThen]
  exact hK' _ _ (hK w' r1 r2)
end Go.Proofs.Ytjmmbadpknlmcaa
