/- Paths, plainly: the names of a path, what is left of them. No conditions. -/
import Derived.Test.YtnjpodbefcfdhaaDoorJoin
import Derived.Lib.IndexLaws
namespace Go.Proofs.YtnjpodbefcfdhaaDoor
set_option linter.unusedVariables false
set_option linter.unusedSimpArgs false

/-- The first piece up to a slash, and what is behind it. -/
def cutAt : List UInt8 → List UInt8 × Option (List UInt8)
  | [] => ([], none)
  | b :: l => if b = 47 then ([], some l) else ((b :: (cutAt l).1), (cutAt l).2)
theorem cutAt_lt : ∀ {l r : List UInt8}, (cutAt l).2 = some r → r.length < l.length
  | [], r, h => by simp [cutAt] at h
  | b :: l, r, h => by
    unfold cutAt at h
    by_cases hb : b = 47
    · rw [if_pos hb] at h
      simp at h; subst h; simp
    · rw [if_neg hb] at h
      have := cutAt_lt (l := l) (r := r) h
      simp; omega
/-- The pieces between slashes. -/
def pieces (l : List UInt8) : List (List UInt8) :=
  match h : (cutAt l).2 with
  | none => [(cutAt l).1]
  | some r => (cutAt l).1 :: pieces r
termination_by l.length
decreasing_by exact cutAt_lt h
/-- Is this a name that is handed out? -/
def nameB (n : List UInt8) : Bool := decide (n ≠ []) && decide (n ≠ [46])
def namesL (l : List UInt8) : List (List UInt8) := if rightB l then (pieces l).filter nameB else []
/-- One name more. -/
def stepL (out : List (List UInt8)) (n : List UInt8) : List (List UInt8) := if n = [46, 46] then out.take (out.length - 1) else out ++ [n]
def leftL (ns : List (List UInt8)) : List (List UInt8) := ns.foldl stepL []
def cleanL (l : List UInt8) : List UInt8 := joinL (leftL (namesL l))
theorem leftL_snoc (ns : List (List UInt8)) (n : List UInt8) : leftL (ns ++ [n]) = stepL (leftL ns) n := by simp [leftL]
end Go.Proofs.YtnjpodbefcfdhaaDoor
