/- Clean, Up, Within: the program's walks. No conditions. -/
import Derived.Test.YtcmogmplfigikaaLeft
namespace Go.Proofs.Ytcmogmplfigikaa
open Go.RowKit Go.Shelf
set_option linter.unusedVariables false
set_option linter.unusedSimpArgs false

def Ret2 (v : Value) (w : World) (e : Ending) (W' : World) : Prop := e = .returned v ∧ Below w.heap.size w W'
/-- Clean's two results. -/
def cleanV (l : List UInt8) : Value := if rightB l then .tuple #[.string (strL (cleanL l)), .int .i64 0] else .tuple #[.string ⟨#[]⟩, .int .i64 1]
def upL (l : List UInt8) : List UInt8 := joinL ((leftL (namesL l)).take ((leftL (namesL l)).length - 1))
def upV (l : List UInt8) : Value := if rightB l then .tuple #[.string (strL (upL l)), .int .i64 0] else .tuple #[.string ⟨#[]⟩, .int .i64 1]
def withinB (l d : List UInt8) : Bool := rightB l && rightB d && (leftL (namesL d)).isPrefixOf (leftL (namesL l))

set_option maxRecDepth 100000 in
set_option maxHeartbeats 1000000 in
theorem clean_any (s : ByteArray) (w : World) : Calls Try.prog 15 #[.string s] w (Ret2 (cleanV s.data.toList) w) := by
  go_enter Try.func15, Try.ntmps15
  have R := right_any s
  unfold cleanV
  cases hr : rightB s.data.toList with
  | false =>
    rw [hr] at R
    go_wp2_with (go_at_call 16; refine (R _).mono ?_; rintro e w' ⟨rfl, rfl⟩)
    go_ret2; exact ⟨rfl, Below.refl _ _⟩
  | true =>
    rw [hr] at R
    have L := left_any s
    have J := fun v W h => join_any v (leftL (namesL s.data.toList)) W h (by have := total_leftL s.data.toList; omega)
    go_wp2_with (first
      | (go_at_call 16; refine (R _).mono ?_; rintro e w' ⟨rfl, rfl⟩)
      | (go_at_call 26; refine (L _).mono ?_; rintro e w' ⟨v, rfl, hs, hb⟩)
      | (go_at_call 25; refine (J _ _ hs).mono ?_; rintro e w1 ⟨rfl, hb1⟩))
    go_ret2; exact ⟨rfl, hb.trans (hb1.mono hb.size)⟩


end Go.Proofs.Ytcmogmplfigikaa
