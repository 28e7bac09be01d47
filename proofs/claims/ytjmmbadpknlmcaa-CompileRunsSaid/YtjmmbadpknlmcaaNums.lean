/- A set of numbers that the call has made, what is collected of it, sorted. No conditions. -/
import Derived.Test.YtjmmbadpknlmcaaMeets
import Derived.Test.YtjmmbadpknlmcaaSet
import Derived.Test.YtjmmbadpknlmcaaSrtEnd
import Derived.Maps.RangeWalk
import Derived.Maps.OwnSet
import Derived.Sort.OwnSorted
import Derived.Test.YtjmmbadpknlmcaaWrong
import Derived.Test.YtjmmbadpknlmcaaLight
import Derived.Test.YtjmmbadpknlmcaaMore
section
namespace Go.Proofs.Ytjmmbadpknlmcaa
open Go.RowKit Go.WideShapes Go.Maps Go.Sort
set_option linter.unusedVariables false
set_option linter.unusedSimpArgs false
set_option maxRecDepth 100000

theorem under81 : Try.prog.underlying 81 = some (.map 45 4) := by kernel_rfl
theorem keyed45 : Keyed Try.prog 45 := int_keyed Try.underlying45
def keyN (n : Int) : Lit := .int .u32 n
theorem keyN_ne {s t : Int} (h : s ≠ t) : keyN s ≠ keyN t := by
  intro h'
  unfold keyN at h'
  injection h' with _ h'
  exact h h'
theorem keyOf_n {x : Int} (h : (Lit.int .u32 x).wf = true) : keyOf Try.prog 45 (.int .u32 x) = some (keyN x) := by
  simp [keyOf, Try.underlying45, mapKey, keyN, h]

/-- Block b is a set of numbers: what is in it. -/
def USet (w : World) (b n : Nat) (S : Int → Bool) : Prop :=
  ∃ D : DataW Unit, w.ownsMap Try.prog 45 (plainElem Try.prog 4) b n D ∧ Maps.size D ≤ n ∧ ∀ k, Maps.has D (keyN k) = S k
theorem USet.made (w : World) : USet (w.alloc (.map #[] 0)) w.heap.size 0 (fun _ => false) := ⟨.map [], World.ownsMap_made w _ _ _, Nat.le_refl _, fun s => rfl⟩
theorem USet.below {w w1 : World} {b n B : Nat} {S : Int → Bool} (h : USet w b n S) (hb : Below B w w1) (hB : b < B) : USet w1 b n S := by
  obtain ⟨D, ho, hm, ha⟩ := h
  obtain ⟨es, clock, hh, F, hs, hD⟩ := ho
  exact ⟨D, ⟨es, clock, (hb.block b hB).trans hh, F, hs, hD⟩, hm, ha⟩
theorem USet.lt {w : World} {b n : Nat} {S : Int → Bool} (h : USet w b n S) : b < w.heap.size := by
  obtain ⟨D, ho, _, _⟩ := h
  exact ho.lt
theorem USet.congr {w : World} {b n : Nat} {S T : Int → Bool} (h : USet w b n S) (e : ∀ s, S s = T s) : USet w b n T := by
  obtain rfl : S = T := funext e
  exact h
theorem USet.add {w : World} {b n : Nat} {S : Int → Bool} (h : USet w b n S) (hn : n < 1000000) (x : Int) (hx : (Lit.int .u32 x).wf = true) :
    ∃ w', (Instr.mapUpdate 81 (.map (some b)) (.int .u32 x) (.bool true)).run Try.prog w = .ok () w' ∧ USet w' b (n + 1) (fun t => decide (t = x) || S t) ∧ w.grownBy w' (some b) := by
  obtain ⟨D, ho, hm, ha⟩ := h
  obtain ⟨w', hrun, ho', hg⟩ := ho.update keyed45 under81 (by unfold maxLen; omega) (keyOf_n hx) (plainElem_bool Try.underlying4 true)
  refine ⟨w', hrun, ⟨_, ho', ?_, fun t => ?_⟩, hg⟩
  · rw [size_put (ho.tidy keyed45)]
    split <;> omega
  · by_cases e : t = x
    · subst e
      rw [has_put_same ho.isMap (by unfold keyN; simp [WideAt.IsKeyLit])]
      simp
    · rw [has_put_other (keyN_ne e), ha]
      simp [e]
theorem wpList_setN {ops : Array Oper} {rest : List Oper} {o : Oper} {a : Act} {Q : Exit → Act → World → Prop} (w : World)
    (hg : o.guard = none) (m x v : Operand) (hop : o.op = Op.mapUpdate 81 m x v) (b n : Nat) (S : Int → Bool)
    (hm : a.eval m = .map (some b)) (h : USet w b n S) (hn : n < 1000000) (s : Int) (hs : (Lit.int .u32 s).wf = true) (hx : a.eval x = .int .u32 s) (hv : a.eval v = .bool true)
    (hK : ∀ w', USet w' b (n + 1) (fun t => decide (t = s) || S t) → w.grownBy w' (some b) → wpList Try.prog ops Q rest (a.put o.dst undef) w') :
    wpList Try.prog ops Q (o :: rest) a w := by
  refine wpList_plain hg fun K' hK' => ?_
  obtain ⟨w', hrun, r1, r2⟩ := h.add hn s hs
  unfold Oper.wp
  simp [execOp, hop, hm, hx, hv, hrun, Result.andThen]
  exact hK' _ _ (hK w' r1 r2)

/-! ### What is collected -/
def Got {H : Type} (D0 : DataW H) (left : Lit → Bool) (ss : List Int) : Prop := ss.Nodup ∧ ∀ x, x ∈ ss ↔ (Maps.has D0 (keyN x) = true ∧ left (keyN x) = false)
theorem Got.start {H : Type} (D0 : DataW H) : Got D0 (Maps.has D0) [] := ⟨List.nodup_nil, fun x => by cases Maps.has D0 (keyN x) <;> simp⟩
theorem Got.step {H : Type} {D0 : DataW H} {left : Lit → Bool} {ss : List Int} (h : Got D0 left ss) {x : Int} {y : DataW H} (hlk : left (keyN x) = true) (hat : ∀ zd, D0.atKey (keyN x) zd = y) : Got D0 (fun z => left z && !z.sameKey (keyN x)) (ss ++ [x]) := by
  have hhas : Maps.has D0 (keyN x) = true := has_true_of_atKey hat
  have hnew : x ∉ ss := fun hx => by have := ((h.2 x).1 hx).2; rw [hlk] at this; cases this
  refine ⟨List.nodup_append.2 ⟨h.1, by simp, fun a ha b hb => by simp at hb; subst hb; exact fun e => hnew (e ▸ ha)⟩, fun y => ?_⟩
  by_cases hy : y = x
  · subst hy
    have : (keyN y).sameKey (keyN y) = true := WideAt.sameKey_self (by unfold keyN; simp [WideAt.IsKeyLit])
    simp [hhas, this]
  · have := sameKey_ne (keyN_ne hy)
    simp [h.2 y, hy, this]
/-- All known numbers, in order. -/
def allN : List Int := known.map Prod.snd
theorem allN_up : allN.Pairwise (· < ·) := by decide +kernel
theorem allN_len : allN.length = 30 := by decide +kernel
theorem allN_wf : ∀ x ∈ allN, (Lit.int .u32 x).wf = true := by decide +kernel
theorem mem_allN {s : ByteArray} (h : (nrV s).2 = true) : (nrV s).1 ∈ allN := by
  have h' : nrV s = ((nrV s).1, true) := Prod.ext rfl h
  exact List.mem_map.2 ⟨(s, (nrV s).1), nrL_mem h', rfl⟩
/-- Sorted, what was collected is the known numbers of which it is said. -/
theorem sorted_is {ss : List Int} {S : Int → Bool} (hn : ss.Nodup) (hm : ∀ x, x ∈ ss ↔ S x = true) (hS : ∀ x, S x = true → x ∈ allN) : ss.mergeSort (fun x y => decide (x ≤ y)) = allN.filter S := by
  have hp : ss.Perm (allN.filter S) := by
    refine (List.perm_ext_iff_of_nodup hn ?_).2 fun x => ?_
    · exact (allN_up.imp (fun {a b} h => Int.ne_of_lt h)).sublist List.filter_sublist
    · rw [hm, List.mem_filter]
      exact ⟨fun h => ⟨hS x h, h⟩, fun h => h.2⟩
  refine List.Perm.eq_of_pairwise (le := fun a b => decide (a ≤ b) = true) (fun a b _ _ h1 h2 => ?_) (List.pairwise_mergeSort (fun a b c h1 h2 => ?_) (fun a b => ?_) ss) ?_ ((List.mergeSort_perm ss _).trans hp)
  · simp only [decide_eq_true_eq] at h1 h2; omega
  · simp only [decide_eq_true_eq] at h1 h2 ⊢; omega
  · simp only [Bool.or_eq_true, decide_eq_true_eq]; omega
  · exact (allN_up.imp (fun {a b} h => by simp only [decide_eq_true_eq]; omega)).sublist List.filter_sublist

/-! ### A row of the call's own, sorted -/
theorem holds_of_blockU {w : World} {g : Nat} {cur : Array Value} {e : TypeId} {ss : List Int} (hb : w.heap[g]? = some (.cells cur e (0, 0))) (ht : cur.toList.take ss.length = ss.map (Value.int .u32)) : Holds (Value.int .u32) w g 0 ss.toArray := by
  intro j hj
  have hj' : j < ss.length := by simpa using hj
  refine ⟨?_, by simp [World.frozen?, hb]⟩
  have h1 : (cur.toList.take ss.length)[j]? = (ss.map (Value.int .u32))[j]? := by rw [ht]
  rw [List.getElem?_take_of_lt hj'] at h1
  simp only [World.cell?, hb, Nat.zero_add]
  simp only [Option.isSome_none, Bool.false_eq_true, if_false]
  rw [← Array.getElem?_toList, h1]
  simp [hj']
theorem grownBy_sortedU {w : World} {g n : Nat} {os : Array Obj} (d : Array Int) : w.grownBy (grow (putRow (Value.int .u32) (Sort.ahead w n) g 0 d) os) (some g) := by
  refine ⟨rfl, rfl, rfl, by simp, fun k hk hne => ?_⟩
  rw [heap_grow_old _ _ (by simpa using hk)]
  have : g ≠ k := fun e => hne (by rw [e])
  simp [putRow, mapBlock, Sort.ahead, Array.getElem?_modify, this]
theorem cell_sortedU {w : World} {g n j : Nat} {os : Array Obj} {d ts : List Int} (hH : Holds (Value.int .u32) w g 0 d.toArray) (hg : g < w.heap.size) (hl : ts.length = d.length) {x : Int} (hj : ts[j]? = some x) :
    (grow (putRow (Value.int .u32) (Sort.ahead w n) g 0 ts.toArray) os).cell? ⟨g, j, none⟩ = some (.int .u32 x) := by
  have hlt : j < ts.length := (List.getElem?_eq_some_iff.1 hj).1
  rw [cell?_grow _ _ _ (by simpa using hg)]
  have h := cell?_putRow (Value.int .u32) (Sort.ahead w n) g 0 d.toArray ts.toArray (holds_ahead _ _ _ _ _ _ hH) (by simpa using hl) j (by simpa [hl] using hlt)
  rw [Nat.zero_add] at h
  rw [h]
  have : ts.toArray[j]! = x := by simp [hlt, (List.getElem?_eq_some_iff.1 hj).2]
  rw [this]
/-- A list of numbers, as a slice. -/
def NumsAt (w : World) (v : Value) (xs : List Int) : Prop :=
  ∃ A c, v = .slice A xs.length c ∧ (0 < xs.length → ∃ g o, A = some ⟨g, o, none⟩ ∧ ∀ (j : Nat) x, xs[j]? = some x → w.cell? ⟨g, o + j, none⟩ = some (.int .u32 x))
theorem nums_below {w w1 : World} {v : Value} {xs : List Int} (h : NumsAt w v xs) (hb : Below w.heap.size w w1) : NumsAt w1 v xs := by
  obtain ⟨A, c, rfl, h⟩ := h
  refine ⟨A, c, rfl, fun h0 => ?_⟩
  obtain ⟨g, o, rfl, hc⟩ := h h0
  exact ⟨g, o, rfl, fun j x hx => keep_cell hb (hc j x hx)⟩
end Go.Proofs.Ytjmmbadpknlmcaa
end
section
/- The numbers of which rules speak. Condition: the rules can be read and are light. -/
namespace Go.Proofs.Ytjmmbadpknlmcaa
open Go.RowKit Go.Maps Go.Sort
attribute [local go_sem ↓] Go.wp_at_zero Go.wp_at_succ
set_option linter.unusedVariables false
set_option linter.unusedSimpArgs false

def spkL (L : List Rul) (v : Int) : Bool := L.any fun r => spokenB r.ns v
def numsV (L : List Rul) : List Int := allN.filter (spkL L)
theorem spkL_succ {L : List Rul} {k : Nat} {x : Rul} (h : L[k]? = some x) (v : Int) : spkL (L.take (k + 1)) v = (spkL (L.take k) v || spokenB x.ns v) := by
  unfold spkL
  rw [List.take_add_one, h]
  simp [List.any_append]
theorem spoken_succ {ns : List ByteArray} {k : Nat} {x : ByteArray} (h : ns[k]? = some x) (v : Int) : spokenB (ns.take (k + 1)) v = (spokenB (ns.take k) v || ((nrV x).2 && decide ((nrV x).1 = v))) := by
  unfold spokenB
  rw [List.take_add_one, h]
  simp [List.any_append]
theorem spk_all {L : List Rul} {v : Int} (h : spkL L v = true) : v ∈ allN := by
  unfold spkL at h
  obtain ⟨r, _, h⟩ := List.any_eq_true.1 h
  unfold spokenB at h
  obtain ⟨s, _, h⟩ := List.any_eq_true.1 h
  simp only [Bool.and_eq_true, decide_eq_true_eq] at h
  rw [← h.2]
  exact mem_allN h.1
set_option maxRecDepth 100000 in
theorem info45' : (Try.prog.info? 45).map (fun i => (i.zero, i.size, i.bytes)) = some (some (.int .u32 0), 1, 4) := by kernel_rfl
def boolOf (c : Int) : Value := .bool (decide (c = 1))
set_option maxRecDepth 100000 in
theorem boolInv {H : Type} (v : Value) (y : DataW H × List MemPlace) (h : plainElem Try.prog 4 v = some y) : ∃ c : Int, v = boolOf c := by
  unfold plainElem at h
  rw [Try.underlying4] at h
  cases v <;> simp at h
  rename_i b
  cases b
  · exact ⟨0, rfl⟩
  · exact ⟨1, rfl⟩

def OutR (n B : Nat) (L : List Rul) (w : World) (i : Value) (wr : World) : Prop :=
  ∃ j m : Nat, j ≤ n ∧ i = .int .i64 j ∧ Below w.heap.size w wr ∧ m ≤ 40 * j ∧ USet wr B m (spkL (L.take j))
def InR (k B lim : Nat) (S : Int → Bool) (ns : List ByteArray) (w : World) (i : Value) (wr : World) : Prop :=
  ∃ j m : Nat, j ≤ k ∧ i = .int .i64 j ∧ Below w.heap.size w wr ∧ m ≤ lim + j ∧ USet wr B m (fun v => S v || spokenB (ns.take j) v)

set_option maxRecDepth 100000 in
set_option maxHeartbeats 4000000 in
theorem numbers_any (k a : Int) (lv : Value) (L : List Rul) (w : World) (hL : RulsAt w lv L) (hl : lightB L = true) :
    Calls Try.prog 20 #[.agg #[.int .i64 k, .int .i64 a, lv]] w (fun e w' => ∃ v, e = .returned v ∧ NumsAt w' v (numsV L) ∧ Below w.heap.size w w') := by
  obtain ⟨A0, c0, rfl, hnl, hnc⟩ := hL
  obtain ⟨n, hnn⟩ : ∃ n, L.length = n := ⟨_, rfl⟩
  have h70 : L.length ≤ 70 ∧ ∀ x ∈ L, x.ns.length ≤ 40 := by
    unfold lightB at hl
    simp only [Bool.and_eq_true, decide_eq_true_eq, List.all_eq_true] at hl
    refine ⟨hl.1, fun x hx => ?_⟩
    have := hl.2 x hx
    unfold lightR at this
    simp only [Bool.and_eq_true, decide_eq_true_eq] at this
    exact this.1.1
  rw [hnn] at hnl hnc h70 ⊢
  have Hnc := Lib.hid hnc
  have H40 := Lib.hid h70.2
  have hn70 := h70.1
  clear hnc h70 hl
  have hbox := below_alloc w (.cells #[.int .i64 k, .int .i64 a, .slice A0 n c0] 26)
  have b2 := new_cell w #[.int .i64 k, .int .i64 a, .slice A0 n c0] 26 2 rfl
  obtain ⟨wa, hwa⟩ : ∃ wa, w.alloc (.cells #[.int .i64 k, .int .i64 a, .slice A0 n c0] 26) = wa := ⟨_, rfl⟩
  rw [hwa] at hbox b2
  have hmk : (Instr.makeMap 81 none).run Try.prog wa = .ok (.map (some wa.heap.size)) (wa.alloc (.map #[] 0)) := rfl
  have hmade := USet.made wa
  obtain ⟨wm, hwm⟩ : ∃ wm, wa.alloc (.map #[] 0) = wm := ⟨_, rfl⟩
  have hbm : Below wa.heap.size wa wm := by rw [← hwm]; exact below_alloc _ _
  rw [hwm] at hmade hmk
  obtain ⟨B, hB⟩ : ∃ B, wa.heap.size = B := ⟨_, rfl⟩
  rw [hB] at hmade hmk
  have hBl := hmade.lt
  have b2m : wm.cell? ⟨w.heap.size, 2, none⟩ = some (.slice A0 n c0) := keep_cell hbm b2
  have hbw : Below w.heap.size w wm := bchain hbox hbox.size hbm
  have hBw : w.heap.size ≤ B := by rw [← hB]; exact hbox.size
  have HB := Lib.hid hB
  have Hmade := Lib.hid hmade
  clear hB hbm b2 hbox hwm hmade
  go_enter Try.func20, Try.ntmps20
  go_wp2
  go_loopw [16] (fun i wr => OutR n B L w i wr) (fun i _ => n - (intOf i).toNat)
  case atStart => exact ⟨0, 0, by omega, rfl, hbw, by omega, Hmade.out.congr (fun s => rfl)⟩
  case round =>
    obtain ⟨j, m, hj, rfl, hb, hm, hset⟩ := hrel
    have hwr : Below w.heap.size w wr := hb
    have Hset := Lib.hid hset
    clear hset
    by_cases hlt : j < n
    case neg =>
      obtain rfl : j = n := by omega
      obtain ⟨D, hown, hsz, hhas⟩ := Hset.out
      have hall : L.take j = L := List.take_of_length_le (by rw [hnn]; exact Nat.le_refl _)
      rw [hall] at hhas
      have Hhas := Lib.hid hhas
      have Hown := Lib.hid hown
      have Hsz := Lib.hid hsz
      have hDm : Maps.size D ≤ 2800 := by omega
      have hBr := hown.lt
      clear hall hhas hown hsz Hset Hmade hmk hb hm hnl
      obtain ⟨wq, hwq⟩ : ∃ wq, wq = wr := ⟨_, rfl⟩
      subst hwq
      obtain ⟨i0, hi, hz0, hz1, hz2⟩ := info_parts info45'
      go_wp2_with (at_range; refine wpList_range_own _ rfl _ 81 rfl 45 4 keyed45 under81 _ B m D rfl Hown.out ?_; intro w0 hrg0 hg0 hs0)
      go_frame
      go_loopw [10] (fun v wx => ∃ (left : Lit → Bool) (cnt : Nat) (ss : List Int), wx.ranges Try.prog 45 (plainElem Try.prog 4) B wq.heap.size m D left cnt ∧ ss.length + cnt ≤ Maps.size D ∧
        wx.ownsRow (B + 1) 45 1 v ss.length (ss.map (Value.int .u32)) ∧ Got D left ss ∧ Below w.heap.size w wx) (fun _ wx => wx.rangeLeft B wq.heap.size)
      case atStart =>
        exact ⟨_, _, [], hrg0, by simp, ⟨by simp, .inl ⟨rfl, rfl⟩⟩, Got.start D, hwr.grown hg0 hwr.size (fun j hj => by cases hj)⟩
      case round =>
        obtain ⟨left, cnt, ss, hrg, hcs, hrow, hC, hnx⟩ := hrel
        have HC := Lib.hid hC
        clear hC hrg0 hg0 hs0
        go_wp2_with (at_next; refine wpList_next_ranges _ rfl _ rfl 45 keyed45 (plainElem Try.prog 4) (Value.int .u32) boolOf (fun key kl hk => by obtain ⟨x, rfl, _⟩ := Maps.keyOf_int_inv Try.underlying45 hk; exact ⟨x, rfl⟩) boolInv B wq.heap.size m _ _ _ rfl hrg ?_ ?_)
        · intro hc0 hl0
          have hgot : ∀ x, x ∈ ss ↔ spkL L x = true := fun x => by rw [HC.out.2 x, Hhas.out x, hl0]; simp
          have hsort := sorted_is HC.out.1 hgot (fun x hx => spk_all hx)
          have Hsort := Lib.hid hsort
          have Hlen := Lib.hid (show (numsV L).length = ss.length by unfold numsV; rw [← hsort]; exact (List.mergeSort_perm ss _).length_eq)
          clear hgot hsort
          rcases hrow.2 with ⟨rfl, hnil⟩ | ⟨g, cap, cur, rfl, hbase, hb, h1, h2, h3, h4⟩
          · have hs0 : ss = [] := List.eq_nil_of_length_eq_zero hnil
            subst hs0
            have S0 := Sort_int_nil_u none 0
            go_wp2_with (go_at_call 35; (with_reducible refine (S0 _).mono ?_); rintro e w5 ⟨rfl, rfl⟩)
            go_ret
            exact ⟨_, rfl, ⟨none, 0, by rw [Hlen.out]; rfl, fun h0 => by rw [Hlen.out] at h0; simp at h0⟩, hnx⟩
          · have hH : Holds (Value.int .u32) wr g 0 ss.toArray := holds_of_blockU hb (by simpa using h4)
            have hgl : g < wr.heap.size := (Array.getElem?_eq_some_iff.1 hb).1
            have S1 := slices_Sort_u g 0 cap ss wr hH hgl (by omega)
            have HH := Lib.hid hH
            clear hH h4 hb h3 hrow
            go_wp2_with (go_at_call 35; (with_reducible refine S1.mono ?_); rintro e w5 ⟨rfl, nn, os, rfl⟩)
            go_ret
            have hl2 : (ss.mergeSort fun x y => decide (x ≤ y)).length = ss.length := (List.mergeSort_perm ss _).length_eq
            refine ⟨_, rfl, ⟨some ⟨g, 0, none⟩, cap, by rw [Hlen.out]; rfl, fun h0 => ⟨g, 0, rfl, fun i x hx => ?_⟩⟩, hnx.trans (grown_below (grownBy_sortedU _) hnx.size (by omega))⟩
            rw [Nat.zero_add]
            exact cell_sortedU HH.out hgl hl2 (by rw [Hsort.out]; exact hx)
        · intro x c kl yd yp w2 cnt2 hkey hlk hv hat hrg2 hlt2 hg2 hs2 hen
          obtain ⟨x', ex, rfl, hwf⟩ := Maps.keyOf_int_inv Try.underlying45 hkey
          obtain rfl : x = x' := by injection ex
          have hrow2 := hrow.kept hg2 (Or.inr (row_ne_iter hrow hrg).symm)
          have Hstep := Lib.hid (HC.out.step hlk hat)
          have hsz2 := hg2.size
          have hszx := hnx.size
          have hB2 : B < w2.heap.size := hrg2.owns.lt
          clear hs2 hat hlk hkey hv hwf
          go_wp2_with (at_builtin; refine wpList_append_own _ rfl _ _ 60 rfl (B + 1) 45 i0 (.int .u32 0) 1 4 Try.underlying60 hi hz0 hz1 hz2 rfl (by decide) _ _ _ rfl (hrow2.alloc _) ⟨w2.heap.size, 0, none⟩ 1 1 [.int .u32 x] rfl rfl (cell_one_new _ _ _) (by simp [Value.oneCell']) (by unfold maxLen; omega) (by omega) (by simp; omega) ?_; intro v' w3 hown' hg3 hnil3; go_frame)
          have hrg3 := (hrg2.alloc _).kept hg3 (row_ne_low hrow2 (by omega)) (row_ne_iter hrow2 hrg2)
          go_roundw
          case rel =>
            refine ⟨_, cnt2, ss ++ [x], hrg3, by simp; omega, by simpa using hown', Hstep.out, ?_⟩
            exact ((hnx.grown hg2 hnx.size (fun j hj => by cases hj; exact hwr.size)).alloc (by have := hnx.size; have := hg2.size; omega) _).grown hg3 (by have := hnx.size; have := hg2.size; simp; omega) (fun j hj => by have := (hrow2.lt j hj).1; omega)
          case measure => rw [hrg3.left_eq, hrg.left_eq]; exact hlt2
    obtain ⟨gl, o, rfl, hcell⟩ := Hnc.out (by omega)
    obtain ⟨x, hx⟩ : ∃ x, L[j]? = some x := ⟨_, List.getElem?_eq_getElem (by omega)⟩
    obtain ⟨nv, cv, e0, e1, e2, e3, hns, hcs⟩ := hcell j x hx
    have hx40 := H40.out x (List.mem_of_getElem? hx)
    have hlt' : (j : Int) < n := by omega
    have hsucc := spkL_succ hx
    obtain ⟨rk, ra, ns, cs⟩ := x
    have e0' : wr.cell? ⟨gl, o + j * 4, none⟩ = some (.int .i64 rk) := keep_cell hwr e0
    have e1' : wr.cell? ⟨gl, o + j * 4 + 1, none⟩ = some (.int .i64 ra) := keep_cell hwr e1
    have e2' : wr.cell? ⟨gl, o + j * 4 + 2, none⟩ = some nv := keep_cell hwr e2
    have e3' : wr.cell? ⟨gl, o + j * 4 + 3, none⟩ = some cv := keep_cell hwr e3
    have hns' : StrsAt w nv ns := hns
    have hcs' : CndsAt w cv cs := hcs
    have hx40' : ns.length ≤ 40 := hx40
    obtain ⟨A1, c1, rfl⟩ := hns'.form
    obtain ⟨A2, c2, rfl⟩ := hcs'.form
    obtain ⟨q, hq⟩ : ∃ q, ns.length = q := ⟨_, rfl⟩
    rw [hq] at e2' hns' hx40'
    have hal := below_alloc wr (.cells #[.int .i64 rk, .int .i64 ra, .slice A1 q c1, .slice A2 cs.length c2] 44)
    obtain ⟨wb, hwb⟩ : ∃ wb, wr.alloc (.cells #[.int .i64 rk, .int .i64 ra, .slice A1 q c1, .slice A2 cs.length c2] 44) = wb := ⟨_, rfl⟩
    have p1 : wb.cell? ⟨wr.heap.size, 2, none⟩ = some (.slice A1 q c1) := by rw [← hwb]; exact (new_cell wr #[.int .i64 rk, .int .i64 ra, .slice A1 q c1, .slice A2 cs.length c2] 44 2 (v := .slice A1 q c1) (by rfl))
    have Hns := Lib.hid hns'
    have Hq := Lib.hid hq
    have Hsucc := Lib.hid hsucc
    have hsb := Hset.out.below hal Hset.out.lt
    rw [hwb] at hsb hal
    have Hsb := Lib.hid hsb
    have hbb := bchain hb hb.size hal
    clear hns hcs e0 e1 e2 e3 hcell hx hx40 hns' hcs' hq hsucc hsb Hset hal
    go_wp2
    go_loopw [23] (fun i wr => InR q B (40 * j) (spkL (L.take j)) ns w i wr) (fun i _ => q - (intOf i).toNat)
    case atStart => exact ⟨0, m, by omega, rfl, hbb, by omega, Hsb.out.congr (fun s => by simp [spokenB])⟩
    case round =>
      obtain ⟨i, m1, hi, rfl, hb1, hm1, hset1⟩ := hrel
      have Hset1 := Lib.hid hset1
      clear hset1
      by_cases hlt1 : i < q
      case neg =>
        obtain rfl : i = q := by omega
        go_wp2
        go_roundw
        case rel =>
          exact ⟨j + 1, m1, by omega, by go_num, hb1, by omega, Hset1.out.congr (fun s => by rw [Hsucc.out, List.take_of_length_le (l := ns) (by rw [Hq.out]; exact Nat.le_refl _)])⟩
        case measure => (simp [intOf] <;> omega)
      obtain ⟨_, _, hv1, hl1, hc1⟩ := Hns.out
      injection hv1 with hv1a hv1b hv1c
      subst hv1a hv1c
      rw [Hq.out] at hl1 hc1
      obtain ⟨g2, o2, rfl, hcell⟩ := hc1 (by omega)
      obtain ⟨x, hx⟩ : ∃ x, ns[i]? = some x := ⟨_, List.getElem?_eq_getElem (by rw [Hq.out]; omega)⟩
      obtain ⟨e0_, hxs⟩ := hcell i x hx
      have e1_ : wr.cell? ⟨g2, o2 + i, none⟩ = some (.string x) := by rw [Nat.mul_one] at e0_; exact keep_cell hb1 e0_
      have hlt1' : (i : Int) < q := by omega
      have N := nr_any x
      rw [nrT_eq] at N
      have hss := spoken_succ hx
      have hmem : (nrV x).2 = true → (Lit.int .u32 (nrV x).1).wf = true := fun h => allN_wf _ (mem_allN h)
      have hkn : knownB x = (nrV x).2 := rfl
      rw [← hkn] at hss hmem
      obtain ⟨z, hz⟩ : ∃ z, knownB x = z := ⟨_, rfl⟩
      obtain ⟨v, hv⟩ : ∃ v, (nrV x).1 = v := ⟨_, rfl⟩
      rw [hz, hv] at N hss hmem
      have Hss := Lib.hid hss
      have Hmem := Lib.hid hmem
      have hmB := Hset1.out.lt
      clear hcell e0_ hx hz hv hss hmem hkn hc1 hv1b
      cases z with
      | true =>
        have hwf : (Lit.int .u32 v).wf = true := Hmem.out rfl
        have Hwf := Lib.hid hwf
        clear hwf Hmem
        go_wp2_with (first
          | (go_at_call 34; (with_reducible refine (N _).mono ?_); rintro e w5 ⟨rfl, hb5⟩; have Hset5 := Lib.hid (Hset1.out.below hb5 hmB))
          | (at_mapUpdate; refine wpList_setN _ rfl _ _ _ rfl B m1 _ rfl Hset5.out (by omega) v Hwf.out rfl rfl ?_; intro w6 hset6 hg6))
        go_roundw
        case rel =>
          refine ⟨i + 1, m1 + 1, by omega, by go_num, ?_, by omega, hset6.congr (fun t => ?_)⟩
          · have k1 := bchain hb1 hb1.size hb5
            exact k1.trans (grown_below hg6 k1.size hBw)
          · rw [Hss.out, Bool.true_and]
            by_cases e : t = v
            · subst e
              simp
            · have e' : ¬ v = t := fun h => e h.symm
              simp [e, e']
        case measure => (simp [intOf] <;> omega)
      | false =>
        go_wp2_with (go_at_call 34; (with_reducible refine (N _).mono ?_); rintro e w5 ⟨rfl, hb5⟩)
        go_roundw
        case rel => exact ⟨i + 1, m1, by omega, by go_num, bchain hb1 hb1.size hb5, by omega, (Hset1.out.below hb5 hmB).congr (fun t => by rw [Hss.out]; simp)⟩
        case measure => (simp [intOf] <;> omega)
end Go.Proofs.Ytjmmbadpknlmcaa
end
