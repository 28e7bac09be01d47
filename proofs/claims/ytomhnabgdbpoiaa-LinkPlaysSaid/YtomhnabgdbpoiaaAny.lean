/- The contracts for any index: what each call answers and how the link goes on. Conditions: the link lies at its block. -/
import Derived.Test.YtomhnabgdbpoiaaChecked
import Derived.Test.YtomhnabgdbpoiaaNo
import Derived.WalkLawsBesides
import Derived.WalkSmall
import Derived.Deep.RegionHeld3
import Derived.Deep.RegionLaw
import Derived.Deep.DrawnRows
import Derived.Deep.QuietTactic
import Derived.BigQuiet
import Derived.Lib.Hide
namespace Go.Proofs.Ytomhnabgdbpoiaa
open Go.RowKit
attribute [local go_sem ↓] Go.wp_at_zero Go.wp_at_succ
set_option linter.unusedVariables false
set_option linter.unusedSimpArgs false

/-- Which frame is meant, both rows one behind the other. -/
def at_ (st : St) (j : Int) : Option (Bool × Nat) :=
  if j < 0 then none else if j < (st true).length then some (true, j.toNat) else if j < (st true).length + (st false).length then some (false, (j - (st true).length).toNat) else none
theorem at_cases (st : St) (j : Int) : (at_ st j = none ∧ (j < 0 ∨ ((st true).length : Int) + (st false).length ≤ j)) ∨ (∃ k : Nat, at_ st j = some (true, k) ∧ j = k ∧ k < (st true).length) ∨ (∃ k : Nat, at_ st j = some (false, k) ∧ j = (st true).length + k ∧ k < (st false).length) := by
  unfold at_
  by_cases h : j < 0
  · left; rw [if_pos h]; exact ⟨rfl, .inl h⟩
  · rw [if_neg h]
    by_cases h2 : j < (st true).length
    · rw [if_pos h2]; exact .inr (.inl ⟨j.toNat, rfl, by omega, by omega⟩)
    · rw [if_neg h2]
      by_cases h3 : j < (st true).length + (st false).length
      · rw [if_pos h3]; exact .inr (.inr ⟨(j - (st true).length).toNat, rfl, by omega, by omega⟩)
      · rw [if_neg h3]; exact .inl ⟨rfl, .inr (by omega)⟩
def dropB (st : St) (j : Int) : Bool := (at_ st j).isSome
def dropP (st : St) (j : Int) : St := match at_ st j with
  | none => st
  | some (u, k) => upd st u ((st u).take k ++ (st u).drop (k + 1))
def twiceB (st : St) (j : Int) : Bool := match at_ st j with
  | none => false
  | some (u, _) => decide ((st u).length < 64)
def twiceP (st : St) (j : Int) : St := match at_ st j with
  | none => st
  | some (u, k) => if (st u).length < 64 then upd st u (st u ++ [((st u)[k]?).getD []]) else st
def spoilP (st : St) (j bit : Int) : St := match at_ st j with
  | none => st
  | some (u, k) => upd st u ((st u).set k (spoilB (((st u)[k]?).getD []) bit))

theorem drop_any (g : Nat) (st : St) (F : Nat → Prop) (w : World) (hL : LinkAt w g st F) (j : Int) (jr : j < 9223372036854775808) :
    Calls Try.prog 13 #[.pointer (some ⟨g, 0, none⟩), .int .i64 j] w (Turns (.bool (dropB st j)) w g F (dropP st j)) := by
  unfold dropB dropP
  rcases at_cases st j with ⟨h, hj⟩ | ⟨k, h, hj, hk⟩ | ⟨k, h, hj, hk⟩
  · rw [h]; exact drop_no g st F w hL j jr hj
  · rw [h]; obtain ⟨v, us, gs, hP⟩ := hL; exact drop_true g st F v us gs w hP k hk j hj
  · rw [h]; obtain ⟨v, us, gs, hP⟩ := hL; exact drop_false g st F v us gs w hP k hk j hj
theorem twice_any (g : Nat) (st : St) (F : Nat → Prop) (w : World) (hL : LinkAt w g st F) (j : Int) (jr : j < 9223372036854775808) :
    Calls Try.prog 14 #[.pointer (some ⟨g, 0, none⟩), .int .i64 j] w (Turns (.bool (twiceB st j)) w g F (twiceP st j)) := by
  unfold twiceB twiceP
  rcases at_cases st j with ⟨h, hj⟩ | ⟨k, h, hj, hk⟩ | ⟨k, h, hj, hk⟩
  · rw [h]; exact twice_no g st F w hL j jr hj
  · rw [h]
    show Calls _ _ _ _ (Turns (.bool (decide ((st true).length < 64))) w g F (if (st true).length < 64 then _ else _))
    by_cases hf : (st true).length < 64
    · rw [if_pos hf, decide_eq_true hf, List.getElem?_eq_getElem hk]
      obtain ⟨v, us, gs, hP⟩ := hL; exact twice_true g st F v us gs w hP k hk hf j hj
    · rw [if_neg hf, decide_eq_false hf]; exact twice_full_true g st F w hL k hk (by omega) j hj
  · rw [h]
    show Calls _ _ _ _ (Turns (.bool (decide ((st false).length < 64))) w g F (if (st false).length < 64 then _ else _))
    by_cases hf : (st false).length < 64
    · rw [if_pos hf, decide_eq_true hf, List.getElem?_eq_getElem hk]
      obtain ⟨v, us, gs, hP⟩ := hL; exact twice_false g st F v us gs w hP k hk hf j hj
    · rw [if_neg hf, decide_eq_false hf]; exact twice_full_false g st F w hL k hk (by omega) j hj
theorem spoil_any (g : Nat) (st : St) (F : Nat → Prop) (w : World) (hL : LinkAt w g st F) (j bit : Int) (jr : j < 9223372036854775808) :
    Calls Try.prog 15 #[.pointer (some ⟨g, 0, none⟩), .int .i64 j, .int .i64 bit] w (Turns (.bool (dropB st j)) w g F (spoilP st j bit)) := by
  unfold dropB spoilP
  rcases at_cases st j with ⟨h, hj⟩ | ⟨k, h, hj, hk⟩ | ⟨k, h, hj, hk⟩
  · rw [h]; exact spoil_no g st F w hL j bit jr hj
  · rw [h]; obtain ⟨v, us, gs, hP⟩ := hL
    show Calls _ _ _ _ (Turns (.bool true) w g F (upd st true ((st true).set k (spoilB (((st true)[k]?).getD []) bit))))
    rw [List.getElem?_eq_getElem hk]
    by_cases hb : bit < 0
    · exact spoil0_true g st F v us gs w hP k hk j bit hj hb
    · exact spoil1_true g st F v us gs w hP k hk j bit hj (by omega)
  · rw [h]; obtain ⟨v, us, gs, hP⟩ := hL
    show Calls _ _ _ _ (Turns (.bool true) w g F (upd st false ((st false).set k (spoilB (((st false)[k]?).getD []) bit))))
    rw [List.getElem?_eq_getElem hk]
    by_cases hb : bit < 0
    · exact spoil0_false g st F v us gs w hP k hk j bit hj hb
    · exact spoil1_false g st F v us gs w hP k hk j bit hj (by omega)

/-- What Take tells: a frame, or none. -/
def TakesAny (w : World) (g : Nat) (F : Nat → Prop) (st : St) (up : Bool) (k : Int) (e : Ending) (w' : World) : Prop :=
  (∃ n : Nat, k = n ∧ n < (st up).length ∧ Takes w g F st up n e w') ∨ ((k < 0 ∨ (st up).length ≤ k) ∧ Same (.tuple #[.slice none 0 0, .bool false]) w e w')
theorem take_any (g : Nat) (st : St) (F : Nat → Prop) (w : World) (hL : LinkAt w g st F) (up : Bool) (k : Int) :
    Calls Try.prog 10 #[.pointer (some ⟨g, 0, none⟩), .bool up, .int .i64 k] w (TakesAny w g F st up k) := by
  obtain ⟨v, us, gs, hP⟩ := hL
  by_cases h : k < 0 ∨ (st up).length ≤ k
  · cases up with
    | true => exact (take_no_true g st F v us gs w hP k h).mono (fun e w' hh => .inr ⟨h, hh⟩)
    | false => exact (take_no_false g st F v us gs w hP k h).mono (fun e w' hh => .inr ⟨h, hh⟩)
  · obtain ⟨n, rfl⟩ : ∃ n : Nat, k = n := ⟨k.toNat, by omega⟩
    have hn : n < (st up).length := by omega
    cases up with
    | true => exact (take_true g st F v us gs w hP n hn).mono (fun e w' hh => .inl ⟨n, rfl, hn, hh⟩)
    | false => exact (take_false g st F v us gs w hP n hn).mono (fun e w' hh => .inl ⟨n, rfl, hn, hh⟩)

/-- A link made anew. -/
theorem link_made (w : World) : LinkAt (w.alloc (.cells #[.slice none 0 0, .slice none 0 0] 28)) w.heap.size (fun _ => []) (fun k => k = w.heap.size) :=
  ⟨fun _ => .slice none 0 0, fun _ => [], fun _ => [], heap_alloc_new w _, fun b => ⟨rfl, .inl ⟨rfl, rfl⟩⟩, fun b => trivial, fun b => List.nodup_nil, fun b => Nat.zero_le _, fun b k hk => by simp [Value.ownBlock] at hk, fun b k hk => by simp at hk, fun b k hk => by simp [Value.ownBlock] at hk, fun b k hk => by simp at hk, rfl⟩
end Go.Proofs.Ytomhnabgdbpoiaa
