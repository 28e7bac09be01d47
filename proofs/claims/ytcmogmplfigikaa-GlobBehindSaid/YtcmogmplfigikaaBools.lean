/- Rows of bools, and worlds that are others but for some blocks and new ones. No program in sight. -/
import Derived.WalkKit
import Derived.Deep.Draws
import Derived.Maps.AppendAt
import Derived.Test.YtcmogmplfigikaaName
namespace Go.Proofs.Ytcmogmplfigikaa
open Go.RowKit

/-- w' is w, but for the blocks of S, and new ones. -/
structure Upto (S : Nat → Prop) (w w' : World) : Prop where
  os : w'.os = w.os
  tape : w'.tape = w.tape
  output : w'.output = w.output
  size : w.heap.size ≤ w'.heap.size
  block : ∀ k, k < w.heap.size → ¬ S k → w'.heap[k]? = w.heap[k]?

section
variable {S T : Nat → Prop} {w w1 w' : World}
theorem Upto.refl (S : Nat → Prop) (w : World) : Upto S w w := ⟨rfl, rfl, rfl, Nat.le_refl _, fun _ _ _ => rfl⟩
theorem Upto.trans (h : Upto S w w1) (k : Upto T w1 w') (hT : ∀ k, T k → S k ∨ w.heap.size ≤ k) : Upto S w w' :=
  ⟨k.os.trans h.os, k.tape.trans h.tape, k.output.trans h.output, Nat.le_trans h.size k.size, fun i hi hs => (k.block i (Nat.lt_of_lt_of_le hi h.size) (fun ht => by rcases hT i ht with h' | h'; exact hs h'; omega)).trans (h.block i hi hs)⟩
theorem Upto.drew (h : Upto S w w') : Upto S w w'.drew := ⟨h.os, h.tape, h.output, h.size, h.block⟩
theorem Upto.drewN (h : Upto S w w') (n : Nat) : Upto S w (w'.drewN n) := ⟨h.os, h.tape, h.output, h.size, h.block⟩
theorem Upto.below (h : Upto S w w1) (k : Below w1.heap.size w1 w') : Upto S w w' :=
  h.trans (T := fun _ => False) ⟨k.os, k.tape, k.output, k.size, fun i hi _ => k.block i hi⟩ (fun _ h => h.elim)
theorem Upto.alloc (h : Upto S w w') (o : Obj) : Upto S w (w'.alloc o) := h.below ((Below.refl _ _).alloc (Nat.le_refl _) o)
theorem Upto.setCell (h : Upto S w w') {p : Addr} (hp : S p.block ∨ w.heap.size ≤ p.block) (u : Value) : Upto S w (w'.setCell p u) :=
  h.trans (T := fun k => k = p.block) ⟨rfl, rfl, rfl, by simp [World.setCell], fun k _ hne => Below.heap_setCell _ _ _ _ hne⟩ (fun _ e => by subst e; exact hp)
theorem Upto.grown (h : Upto S w w1) {row : Option Nat} (hg : w1.grownBy w' row) (hr : ∀ k, row = some k → S k ∨ w.heap.size ≤ k) : Upto S w w' :=
  h.trans (T := fun k => some k = row) ⟨hg.os, hg.tape, hg.output, hg.size, fun k hk hne => hg.block k hk hne⟩ (fun k e => hr k e.symm)
theorem Upto.mono (h : Upto S w w') (hS : ∀ k, S k → T k ∨ w.heap.size ≤ k) : Upto T w w' :=
  (Upto.refl T w).trans h (fun k hk => hS k hk)
theorem Upto.toBelow (h : Upto S w w') {B : Nat} (hB : B ≤ w.heap.size) (hS : ∀ k, S k → B ≤ k) : Below B w w' :=
  ⟨h.os, h.tape, h.output, h.size, fun k hk => h.block k (by omega) (fun hs => by have := hS k hs; omega)⟩
theorem Upto.cell (h : Upto S w w') {p : Addr} {v : Value} (hs : ¬ S p.block) (hc : w.cell? p = some v) : w'.cell? p = some v :=
  (World.cell?_of_block (h.block p.block (World.block_lt_of_cell? w p hc) hs)).trans hc
end

def BoolRow (w : World) (b n : Nat) (f : Nat → Bool) : Prop :=
  ∃ cs : Array Value, w.heap[b]? = some (.cells cs 4 (0, 0)) ∧ cs.size = n ∧ ∀ k, k < n → cs[k]? = some (.bool (f k))
section
variable {w w' : World} {b n : Nat} {f : Nat → Bool}
theorem BoolRow.lt (h : BoolRow w b n f) : b < w.heap.size := by
  obtain ⟨cs, hh, _⟩ := h
  exact (Array.getElem?_eq_some_iff.1 hh).1
theorem BoolRow.cell (h : BoolRow w b n f) {k : Nat} (hk : k < n) : w.cell? ⟨b, k, none⟩ = some (.bool (f k)) := by
  obtain ⟨cs, hh, _, hc⟩ := h
  simp [World.cell?, hh]
  simpa using hc k hk
theorem BoolRow.frozen (h : BoolRow w b n f) (k : Nat) : w.frozen? ⟨b, k, none⟩ = false := by
  obtain ⟨cs, hh, _, hc⟩ := h
  simp [World.frozen?, hh]
theorem BoolRow.congr {g : Nat → Bool} (h : BoolRow w b n f) (hg : ∀ k, k < n → f k = g k) : BoolRow w b n g := by
  obtain ⟨cs, hh, hn, hc⟩ := h
  exact ⟨cs, hh, hn, fun k hk => by rw [hc k hk, hg k hk]⟩
theorem BoolRow.set (h : BoolRow w b n f) (k : Nat) (v : Bool) : BoolRow (w.setCell ⟨b, k, none⟩ (.bool v)) b n (fun j => if j = k then v else f j) := by
  obtain ⟨cs, hh, hn, hc⟩ := h
  refine ⟨cs.setIfInBounds k (.bool v), ?_, by simp [hn], fun j hj => ?_⟩
  · obtain ⟨hlt, hk⟩ := Array.getElem?_eq_some_iff.1 hh
    show (w.heap.modify b _)[b]? = _
    rw [Array.getElem?_eq_getElem (by rw [Array.size_modify]; exact hlt), Array.getElem_modify_self, hk]
    rfl
  · rw [Array.getElem?_setIfInBounds]
    by_cases hjk : k = j
    · subst hjk
      rw [if_pos rfl, if_pos (by omega)]; simp
    · rw [if_neg hjk, hc j hj]
      have h2 : ¬ j = k := fun h => hjk h.symm
      simp [h2]
theorem BoolRow.keep (h : BoolRow w b n f) (hb : w'.heap[b]? = w.heap[b]?) : BoolRow w' b n f := by
  obtain ⟨cs, hh, hn, hc⟩ := h
  exact ⟨cs, hb.trans hh, hn, hc⟩
theorem BoolRow.other (h : BoolRow w b n f) {p : Addr} (hp : b ≠ p.block) (v : Value) : BoolRow (w.setCell p v) b n f := h.keep (Below.heap_setCell _ _ _ _ hp)
theorem BoolRow.drewN (h : BoolRow w b n f) (m : Nat) : BoolRow (w.drewN m) b n f := h
theorem BoolRow.upto {S : Nat → Prop} (h : BoolRow w b n f) (hU : Upto S w w') (hs : ¬ S b) : BoolRow w' b n f := h.keep (hU.block b h.lt hs)
theorem BoolRow.below (h : BoolRow w b n f) (hU : Below w.heap.size w w') : BoolRow w' b n f := h.keep (hU.block b h.lt)
theorem madeCells_get (n k : Nat) (h : k < n) : (madeCells (#[.bool false] : Array Value) n)[k]? = some (.bool false) := by
  unfold madeCells
  rw [Array.getElem?_map, Array.getElem?_range, if_pos h]
  simp [Nat.mod_one]
/-- A row that has been made. -/
theorem BoolRow.made {base : Nat} (h : w.ownsRow base 4 1 (.slice (some ⟨b, 0, none⟩) n n) n (madeCells (Value.bool false).cells (n * 1)).toList) : BoolRow w b n (fun _ => false) := by
  obtain ⟨_, ⟨h, _⟩ | ⟨g, cap, cur, h, _, hh, _, _, hsz, htake⟩⟩ := h
  · cases h
  · cases h
    simp only [Nat.mul_one] at hsz htake
    have h1 : cur.toList = (madeCells (#[.bool false] : Array Value) n).toList := by
      have h2 : cur.toList.take n = cur.toList := List.take_of_length_le (by simp [hsz])
      rw [← h2]; exact htake
    refine ⟨cur, hh, hsz, fun k hk => ?_⟩
    have h3 := madeCells_get n k hk
    rw [← Array.getElem?_toList] at h3 ⊢
    rw [h1]; exact h3
end
theorem info4 : (Try.prog.info? 4).map (fun i => (i.zero, i.size, i.bytes)) = some (some (.bool false), 1, 1) := by kernel_rfl
end Go.Proofs.Ytcmogmplfigikaa
