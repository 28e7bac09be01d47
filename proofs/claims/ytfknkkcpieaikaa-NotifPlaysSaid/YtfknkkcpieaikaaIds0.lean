/- What is collected of the table, sorted. No program in sight. -/
import Derived.Test.YtfknkkcpieaikaaOf
import Derived.Test.YtfknkkcpieaikaaSrtEnd
import Derived.Sort.OwnSorted
namespace Go.Proofs.Ytfknkkcpieaikaa
open Go.RowKit Go.WideShapes Go.Maps Go.Sort
set_option linter.unusedVariables false
set_option linter.unusedSimpArgs false
set_option maxRecDepth 100000

/-- The numbers of ks are those of f that the test lets, rising. -/
def Keys (f : Int → Option Ent) (p : Ent → Bool) (ks : List Int) : Prop := ks.Pairwise (· < ·) ∧ ∀ x, x ∈ ks ↔ ∃ c, f x = some c ∧ p c = true
def Got {H : Type} (D0 : DataW H) (f : Int → Option Ent) (p : Ent → Bool) (left : Lit → Bool) (ss : List Int) : Prop := ss.Nodup ∧ (∀ x ∈ ss, U64 x) ∧ ∀ x, x ∈ ss ↔ (left (keyN x) = false ∧ ∃ c, f x = some c ∧ p c = true)
section
variable {H : Type} {D0 : DataW H} {f : Int → Option Ent} {p : Ent → Bool} {left : Lit → Bool} {ss : List Int}
theorem Got.start (h1 : ∀ k, Maps.has D0 (keyN k) = (f k).isSome) : Got D0 f p (Maps.has D0) [] := ⟨List.nodup_nil, (fun x hx => by simp at hx), fun x => by
  rw [h1]
  constructor
  · intro h; simp at h
  · rintro ⟨h, c, hc, _⟩; rw [hc] at h; cases h⟩
theorem Got.take (h : Got D0 f p left ss) {x : Int} {c : Ent} (hU : U64 x) (hlk : left (keyN x) = true) (hf : f x = some c) (hp : p c = true) : Got D0 f p (fun z => left z && !z.sameKey (keyN x)) (ss ++ [x]) := by
  have hnew : x ∉ ss := fun hx => by have := ((h.2.2 x).1 hx).1; rw [hlk] at this; cases this
  refine ⟨List.nodup_append.2 ⟨h.1, by simp, fun a ha b hb => by simp at hb; subst hb; exact fun e => hnew (e ▸ ha)⟩, fun y hy => ?_, fun y => ?_⟩
  · rcases List.mem_append.1 hy with hy | hy
    · exact h.2.1 y hy
    · obtain rfl : y = x := by simpa using hy
      exact hU
  · by_cases hy : y = x
    · subst hy
      have : (keyN y).sameKey (keyN y) = true := WideAt.sameKey_self (isKeyN y)
      simp [hf, hp, this]
    · have := sameKey_ne (keyN_ne hy)
      simp [h.2.2 y, hy, this]
theorem Got.skip (h : Got D0 f p left ss) {x : Int} {c : Ent} (hlk : left (keyN x) = true) (hf : f x = some c) (hp : p c = false) : Got D0 f p (fun z => left z && !z.sameKey (keyN x)) ss := by
  refine ⟨h.1, h.2.1, fun y => ?_⟩
  by_cases hy : y = x
  · subst hy
    constructor
    · intro h1
      have := ((h.2.2 y).1 h1).1
      rw [hlk] at this; cases this
    · rintro ⟨_, c', h1, h2⟩
      rw [hf] at h1; cases h1
      rw [hp] at h2; cases h2
  · have := sameKey_ne (keyN_ne hy)
    simp [h.2.2 y, this]
theorem Got.done (h : Got D0 f p left ss) (hl : ∀ kl, left kl = false) : Keys f p (ss.mergeSort (fun x y => decide (x ≤ y))) := by
  have hp := List.mergeSort_perm ss (fun x y => decide (x ≤ y))
  have hs : (ss.mergeSort (fun x y => decide (x ≤ y))).Pairwise (fun a b => decide (a ≤ b) = true) := List.pairwise_mergeSort (fun a b c h1 h2 => by
    simp only [decide_eq_true_eq] at h1 h2 ⊢; omega) (fun a b => by simp only [Bool.or_eq_true, decide_eq_true_eq]; omega) ss
  refine ⟨?_, fun x => ?_⟩
  · have hn : (ss.mergeSort (fun x y => decide (x ≤ y))).Nodup := hp.nodup_iff.2 h.1
    exact (hs.and hn).imp (fun ⟨h1, h2⟩ => by simp only [decide_eq_true_eq] at h1; omega)
  · rw [hp.mem_iff, h.2.2 x]
    exact ⟨fun h => h.2, fun h => ⟨hl _, h⟩⟩
end
/-- Two such lists are one. -/
theorem Keys.same {f : Int → Option Ent} {p : Ent → Bool} {ks ls : List Int} (h : Keys f p ks) (h' : ls.Pairwise (· < ·)) (hm : ∀ x, x ∈ ls ↔ ∃ c, f x = some c ∧ p c = true) : ks = ls := by
  have hp : ks.Perm ls := (List.perm_ext_iff_of_nodup (h.1.imp (fun {a b} h => Int.ne_of_lt h)) (h'.imp (fun {a b} h => Int.ne_of_lt h))).2 fun x => by rw [h.2 x, hm x]
  exact List.Perm.eq_of_pairwise (le := fun a b => a < b) (fun a b _ _ h1 h2 => by omega) h.1 h' hp

/-! ### A row of the call's own, sorted -/
theorem holds_of_blockU {w : World} {g : Nat} {cur : Array Value} {e : TypeId} {ss : List Int} (hb : w.heap[g]? = some (.cells cur e (0, 0))) (ht : cur.toList.take ss.length = ss.map (Value.int .u64)) : Holds (Value.int .u64) w g 0 ss.toArray := by
  intro j hj
  have hj' : j < ss.length := by simpa using hj
  refine ⟨?_, by simp [World.frozen?, hb]⟩
  have h1 : (cur.toList.take ss.length)[j]? = (ss.map (Value.int .u64))[j]? := by rw [ht]
  rw [List.getElem?_take_of_lt hj'] at h1
  simp only [World.cell?, hb, Nat.zero_add]
  simp only [Option.isSome_none, Bool.false_eq_true, if_false]
  rw [← Array.getElem?_toList, h1]
  simp [hj']
theorem grownBy_sortedU {w : World} {g n : Nat} {os : Array Obj} (d : Array Int) : w.grownBy (grow (putRow (Value.int .u64) (Sort.ahead w n) g 0 d) os) (some g) := by
  refine ⟨rfl, rfl, rfl, by simp, fun k hk hne => ?_⟩
  rw [heap_grow_old _ _ (by simpa using hk)]
  have : g ≠ k := fun e => hne (by rw [e])
  simp [putRow, mapBlock, Sort.ahead, Array.getElem?_modify, this]
theorem cell_sortedU {w : World} {g n j : Nat} {os : Array Obj} {d ts : List Int} (hH : Holds (Value.int .u64) w g 0 d.toArray) (hg : g < w.heap.size) (hl : ts.length = d.length) {x : Int} (hj : ts[j]? = some x) :
    (grow (putRow (Value.int .u64) (Sort.ahead w n) g 0 ts.toArray) os).cell? ⟨g, j, none⟩ = some (.int .u64 x) := by
  have hlt : j < ts.length := (List.getElem?_eq_some_iff.1 hj).1
  rw [cell?_grow _ _ _ (by simpa using hg)]
  have h := cell?_putRow (Value.int .u64) (Sort.ahead w n) g 0 d.toArray ts.toArray (holds_ahead _ _ _ _ _ _ hH) (by simpa using hl) j (by simpa [hl] using hlt)
  rw [Nat.zero_add] at h
  rw [h]
  have : ts.toArray[j]! = x := by simp [hlt, (List.getElem?_eq_some_iff.1 hj).2]
  rw [this]
theorem grown_below {w w' : World} {B b : Nat} (h : w.grownBy w' (some b)) (hB : B ≤ w.heap.size) (hb : B ≤ b) : Below B w w' :=
  ⟨h.os, h.tape, h.output, h.size, fun k hk => h.block k (by omega) (by intro e; injection e with e; omega)⟩
/-- The numbers of those that p lets, in the table's order. -/
def idsL (L : List Ent) (p : Ent → Bool) : List Int := (L.filter p).map Ent.id
theorem idsL_rise {L : List Ent} (hr : L.Pairwise (fun x y => x.id < y.id)) (p : Ent → Bool) : (idsL L p).Pairwise (· < ·) := by
  unfold idsL
  rw [List.pairwise_map]
  exact hr.sublist List.filter_sublist
theorem idsL_mem {L : List Ent} (hr : L.Pairwise (fun x y => x.id < y.id)) (p : Ent → Bool) (k : Int) : k ∈ idsL L p ↔ ∃ c, getL L k = some c ∧ p c = true := by
  unfold idsL
  constructor
  · intro h
    obtain ⟨x, hx, rfl⟩ := List.mem_map.1 h
    obtain ⟨h1, h2⟩ := List.mem_filter.1 hx
    exact ⟨x, getL_of hr h1, h2⟩
  · rintro ⟨c, hc, hp⟩
    obtain ⟨h1, h2⟩ := getL_mem hc
    exact List.mem_map.2 ⟨c, List.mem_filter.2 ⟨h1, hp⟩, h2⟩
theorem keys_idsL {L : List Ent} (hr : L.Pairwise (fun x y => x.id < y.id)) {p : Ent → Bool} {ks : List Int} (h : Keys (getL L) p ks) : ks = idsL L p := h.same (idsL_rise hr p) (idsL_mem hr p)
theorem has_getL {D : DataW Unit} {P : Int → Nat} {L : List Ent} (h : ∀ k, Maps.has D (keyN k) = (ptrF P L k).isSome) (k : Int) : Maps.has D (keyN k) = (getL L k).isSome := by
  rw [h]; unfold ptrF; simp
theorem row_ne_low' {w : World} {B K bb n : Nat} {D : DataW Unit} {v : Value} {xs : List Value} (h : w.ownsRow bb 23 1 v n xs) (hm : w.ownsMap Try.prog 23 ptrElem B K D) : some B ≠ v.ownBlock := by
  obtain ⟨es, clock, hh, _⟩ := hm
  rcases h.2 with ⟨rfl, _⟩ | ⟨g, cap, cur, rfl, _, h5, _⟩
  · intro e; cases e
  · intro e
    have e : some B = some g := e
    cases e
    rw [hh] at h5; cases h5
end Go.Proofs.Ytfknkkcpieaikaa
