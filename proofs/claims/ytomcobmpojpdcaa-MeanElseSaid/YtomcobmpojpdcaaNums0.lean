/- A set of numbers that the call has made, what is collected of it, sorted. No conditions. -/
import Derived.Test.YtomcobmpojpdcaaMeets
import Derived.Test.YtomcobmpojpdcaaSet
import Derived.Test.YtomcobmpojpdcaaSrtEnd
import Derived.Maps.RangeWalk
import Derived.Maps.OwnSet
import Derived.Sort.OwnSorted
namespace Go.Proofs.Ytomcobmpojpdcaa
open Go.RowKit Go.WideShapes Go.Maps Go.Sort
set_option linter.unusedVariables false
set_option linter.unusedSimpArgs false
set_option maxRecDepth 100000

theorem under74 : Try.prog.underlying 74 = some (.map 22 4) := by kernel_rfl
theorem keyed22 : Keyed Try.prog 22 := int_keyed Try.underlying22
def keyN (n : Int) : Lit := .int .u32 n
theorem keyN_ne {s t : Int} (h : s ≠ t) : keyN s ≠ keyN t := by
  intro h'
  unfold keyN at h'
  injection h' with _ h'
  exact h h'
theorem keyOf_n {x : Int} (h : (Lit.int .u32 x).wf = true) : keyOf Try.prog 22 (.int .u32 x) = some (keyN x) := by
  simp [keyOf, Try.underlying22, mapKey, keyN, h]

/-- Block b is a set of numbers: what is in it. -/
def USet (w : World) (b n : Nat) (S : Int → Bool) : Prop :=
  ∃ D : DataW Unit, w.ownsMap Try.prog 22 (plainElem Try.prog 4) b n D ∧ Maps.size D ≤ n ∧ ∀ k, Maps.has D (keyN k) = S k
theorem USet.made (w : World) : USet (w.alloc (.map #[] 0)) w.heap.size 0 (fun _ => false) := ⟨.map [], World.ownsMap_made w _ _ _, Nat.le_refl _, fun s => rfl⟩
theorem USet.below {w w1 : World} {b n B : Nat} {S : Int → Bool} (h : USet w b n S) (hb : Below B w w1) (hB : b < B) : USet w1 b n S := by
  obtain ⟨D, ho, hm, ha⟩ := h
  obtain ⟨es, clock, hh, F, hs, hD⟩ := ho
  exact ⟨D, ⟨es, clock, (hb.block b hB).trans hh, F, hs, hD⟩, hm, ha⟩
theorem USet.lt {w : World} {b n : Nat} {S : Int → Bool} (h : USet w b n S) : b < w.heap.size := by
  obtain ⟨D, ho, _, _⟩ := h
  exact ho.lt
theorem USet.congr {w : World} {b n : Nat} {S T : Int → Bool} (h : USet w b n S) (e : ∀ s, S s = T s) : USet w b n T := by
  obtain rfl : S = T := funext e
  exact h
theorem USet.add {w : World} {b n : Nat} {S : Int → Bool} (h : USet w b n S) (hn : n < 1000000) (x : Int) (hx : (Lit.int .u32 x).wf = true) :
    ∃ w', (Instr.mapUpdate 74 (.map (some b)) (.int .u32 x) (.bool true)).run Try.prog w = .ok () w' ∧ USet w' b (n + 1) (fun t => decide (t = x) || S t) ∧ w.grownBy w' (some b) := by
  obtain ⟨D, ho, hm, ha⟩ := h
  obtain ⟨w', hrun, ho', hg⟩ := ho.update keyed22 under74 (by unfold maxLen; omega) (keyOf_n hx) (plainElem_bool Try.underlying4 true)
  refine ⟨w', hrun, ⟨_, ho', ?_, fun t => ?_⟩, hg⟩
  · rw [size_put (ho.tidy keyed22)]
    split <;> omega
  · by_cases e : t = x
    · subst e
      rw [has_put_same ho.isMap (by unfold keyN; simp [WideAt.IsKeyLit])]
      simp
    · rw [has_put_other (keyN_ne e), ha]
      simp [e]
theorem wpList_setN {ops : Array Oper} {rest : List Oper} {o : Oper} {a : Act} {Q : Exit → Act → World → Prop} (w : World)
    (hg : o.guard = none) (m x v : Operand) (hop : o.op = Op.mapUpdate 74 m x v) (b n : Nat) (S : Int → Bool)
    (hm : a.eval m = .map (some b)) (h : USet w b n S) (hn : n < 1000000) (s : Int) (hs : (Lit.int .u32 s).wf = true) (hx : a.eval x = .int .u32 s) (hv : a.eval v = .bool true)
    (hK : ∀ w', USet w' b (n + 1) (fun t => decide (t = s) || S t) → w.grownBy w' (some b) → wpList Try.prog ops Q rest (a.put o.dst undef) w') :
    wpList Try.prog ops Q (o :: rest) a w := by
  refine wpList_plain hg fun K' hK' => ?_
  obtain ⟨w', hrun, r1, r2⟩ := h.add hn s hs
  unfold Oper.wp
  simp [execOp, hop, hm, hx, hv, hrun, Result.andThen]
  exact hK' _ _ (hK w' r1 r2)

/-! ### What is collected -/
def Got {H : Type} (D0 : DataW H) (left : Lit → Bool) (ss : List Int) : Prop := ss.Nodup ∧ ∀ x, x ∈ ss ↔ (Maps.has D0 (keyN x) = true ∧ left (keyN x) = false)
theorem Got.start {H : Type} (D0 : DataW H) : Got D0 (Maps.has D0) [] := ⟨List.nodup_nil, fun x => by cases Maps.has D0 (keyN x) <;> simp⟩
theorem Got.step {H : Type} {D0 : DataW H} {left : Lit → Bool} {ss : List Int} (h : Got D0 left ss) {x : Int} {y : DataW H} (hlk : left (keyN x) = true) (hat : ∀ zd, D0.atKey (keyN x) zd = y) : Got D0 (fun z => left z && !z.sameKey (keyN x)) (ss ++ [x]) := by
  have hhas : Maps.has D0 (keyN x) = true := has_true_of_atKey hat
  have hnew : x ∉ ss := fun hx => by have := ((h.2 x).1 hx).2; rw [hlk] at this; cases this
  refine ⟨List.nodup_append.2 ⟨h.1, by simp, fun a ha b hb => by simp at hb; subst hb; exact fun e => hnew (e ▸ ha)⟩, fun y => ?_⟩
  by_cases hy : y = x
  · subst hy
    have : (keyN y).sameKey (keyN y) = true := WideAt.sameKey_self (by unfold keyN; simp [WideAt.IsKeyLit])
    simp [hhas, this]
  · have := sameKey_ne (keyN_ne hy)
    simp [h.2 y, hy, this]
/-- All known numbers, in order. -/
def allN : List Int := known.map Prod.snd
theorem allN_up : allN.Pairwise (· < ·) := by decide +kernel
theorem allN_len : allN.length = 30 := by decide +kernel
theorem allN_wf : ∀ x ∈ allN, (Lit.int .u32 x).wf = true := by decide +kernel
theorem mem_allN {s : ByteArray} (h : (nrV s).2 = true) : (nrV s).1 ∈ allN := by
  have h' : nrV s = ((nrV s).1, true) := Prod.ext rfl h
  exact List.mem_map.2 ⟨(s, (nrV s).1), nrL_mem h', rfl⟩
/-- Sorted, what was collected is the known numbers of which it is said. -/
theorem sorted_is {ss : List Int} {S : Int → Bool} (hn : ss.Nodup) (hm : ∀ x, x ∈ ss ↔ S x = true) (hS : ∀ x, S x = true → x ∈ allN) : ss.mergeSort (fun x y => decide (x ≤ y)) = allN.filter S := by
  have hp : ss.Perm (allN.filter S) := by
    refine (List.perm_ext_iff_of_nodup hn ?_).2 fun x => ?_
    · exact (allN_up.imp (fun {a b} h => Int.ne_of_lt h)).sublist List.filter_sublist
    · rw [hm, List.mem_filter]
      exact ⟨fun h => ⟨hS x h, h⟩, fun h => h.2⟩
  refine List.Perm.eq_of_pairwise (le := fun a b => decide (a ≤ b) = true) (fun a b _ _ h1 h2 => ?_) (List.pairwise_mergeSort (fun a b c h1 h2 => ?_) (fun a b => ?_) ss) ?_ ((List.mergeSort_perm ss _).trans hp)
  · simp only [decide_eq_true_eq] at h1 h2; omega
  · simp only [decide_eq_true_eq] at h1 h2 ⊢; omega
  · simp only [Bool.or_eq_true, decide_eq_true_eq]; omega
  · exact (allN_up.imp (fun {a b} h => by simp only [decide_eq_true_eq]; omega)).sublist List.filter_sublist

/-! ### A row of the call's own, sorted -/
theorem holds_of_blockU {w : World} {g : Nat} {cur : Array Value} {e : TypeId} {ss : List Int} (hb : w.heap[g]? = some (.cells cur e (0, 0))) (ht : cur.toList.take ss.length = ss.map (Value.int .u32)) : Holds (Value.int .u32) w g 0 ss.toArray := by
  intro j hj
  have hj' : j < ss.length := by simpa using hj
  refine ⟨?_, by simp [World.frozen?, hb]⟩
  have h1 : (cur.toList.take ss.length)[j]? = (ss.map (Value.int .u32))[j]? := by rw [ht]
  rw [List.getElem?_take_of_lt hj'] at h1
  simp only [World.cell?, hb, Nat.zero_add]
  simp only [Option.isSome_none, Bool.false_eq_true, if_false]
  rw [← Array.getElem?_toList, h1]
  simp [hj']
theorem grownBy_sortedU {w : World} {g n : Nat} {os : Array Obj} (d : Array Int) : w.grownBy (grow (putRow (Value.int .u32) (Sort.ahead w n) g 0 d) os) (some g) := by
  refine ⟨rfl, rfl, rfl, by simp, fun k hk hne => ?_⟩
  rw [heap_grow_old _ _ (by simpa using hk)]
  have : g ≠ k := fun e => hne (by rw [e])
  simp [putRow, mapBlock, Sort.ahead, Array.getElem?_modify, this]
theorem cell_sortedU {w : World} {g n j : Nat} {os : Array Obj} {d ts : List Int} (hH : Holds (Value.int .u32) w g 0 d.toArray) (hg : g < w.heap.size) (hl : ts.length = d.length) {x : Int} (hj : ts[j]? = some x) :
    (grow (putRow (Value.int .u32) (Sort.ahead w n) g 0 ts.toArray) os).cell? ⟨g, j, none⟩ = some (.int .u32 x) := by
  have hlt : j < ts.length := (List.getElem?_eq_some_iff.1 hj).1
  rw [cell?_grow _ _ _ (by simpa using hg)]
  have h := cell?_putRow (Value.int .u32) (Sort.ahead w n) g 0 d.toArray ts.toArray (holds_ahead _ _ _ _ _ _ hH) (by simpa using hl) j (by simpa [hl] using hlt)
  rw [Nat.zero_add] at h
  rw [h]
  have : ts.toArray[j]! = x := by simp [hlt, (List.getElem?_eq_some_iff.1 hj).2]
  rw [this]
/-- A list of numbers, as a slice. -/
def NumsAt (w : World) (v : Value) (xs : List Int) : Prop :=
  ∃ A c, v = .slice A xs.length c ∧ (0 < xs.length → ∃ g o, A = some ⟨g, o, none⟩ ∧ ∀ (j : Nat) x, xs[j]? = some x → w.cell? ⟨g, o + j, none⟩ = some (.int .u32 x))
theorem nums_below {w w1 : World} {v : Value} {xs : List Int} (h : NumsAt w v xs) (hb : Below w.heap.size w w1) : NumsAt w1 v xs := by
  obtain ⟨A, c, rfl, h⟩ := h
  refine ⟨A, c, rfl, fun h0 => ?_⟩
  obtain ⟨g, o, rfl, hc⟩ := h h0
  exact ⟨g, o, rfl, fun j x hx => keep_cell hb (hc j x hx)⟩
end Go.Proofs.Ytomcobmpojpdcaa
