/- The document's table: Ended. Conditions: it can be read; what is laid down of its numbers. -/
import Derived.Test.YtfknkkcpieaikaaR5
namespace Go.Proofs.Ytfknkkcpieaikaa
open Go.RowKit
set_option linter.unusedVariables false
set_option linter.unusedSimpArgs false

theorem flat_take {α : Type} {sz : Nat} {c : α → List Value} (hc : ∀ a, (c a).length = sz) : ∀ (ys : List α) (i : Nat), (ys.take i).flatMap c = (ys.flatMap c).take (i * sz)
  | [], i => by simp
  | a :: rr, 0 => by simp
  | a :: rr, i + 1 => by
    rw [List.take_succ_cons, List.flatMap_cons, List.flatMap_cons, flat_take hc rr i, List.take_append, hc, Nat.succ_mul, List.take_of_length_le (l := c a) (by rw [hc]; omega), show i * sz + sz - sz = i * sz by omega]
theorem flat_drop {α : Type} {sz : Nat} {c : α → List Value} (hc : ∀ a, (c a).length = sz) : ∀ (ys : List α) (i : Nat), (ys.drop i).flatMap c = (ys.flatMap c).drop (i * sz)
  | [], i => by simp
  | a :: rr, 0 => by simp
  | a :: rr, i + 1 => by
    rw [List.drop_succ_cons, List.flatMap_cons, flat_drop hc rr i, List.drop_append, hc, Nat.succ_mul, List.drop_of_length_le (l := c a) (by rw [hc]; omega), List.nil_append, show i * sz + sz - sz = i * sz by omega]
theorem rowE_len (L : List Ent) : (rowE L).length = L.length * 6 := row_len (sz := 6) (fun a => rfl) L
theorem rowE_one (L : List Ent) : ∀ u ∈ rowE L, u.oneCell' = true := fun u hu => by
  unfold rowE at hu
  obtain ⟨x, _, hx⟩ := List.mem_flatMap.1 hu
  simp [Ent.cells] at hx
  rcases hx with rfl | rfl | rfl | rfl | rfl | rfl <;> rfl
theorem rowE_cut (L : List Ent) (i : Nat) : (rowE L).take (i * 6) ++ (rowE L).drop ((i + 1) * 6) = rowE (L.take i ++ L.drop (i + 1)) := by
  unfold rowE
  rw [List.flatMap_append, flat_take (sz := 6) (fun a => rfl), flat_drop (sz := 6) (fun a => rfl)]
theorem rm_at {L : List Ent} (hr : L.Pairwise (fun x y => x.id < y.id)) {i : Nat} {x : Ent} (hi : L[i]? = some x) : L.filter (fun y => !(y.id == x.id)) = L.take i ++ L.drop (i + 1) := by
  obtain ⟨h1, h2⟩ := List.getElem?_eq_some_iff.1 hi
  have e : L = L.take i ++ (x :: L.drop (i + 1)) := by
    conv => lhs; rw [← List.take_append_drop i L]
    rw [List.drop_eq_getElem_cons h1, h2]
  have hr' := hr
  rw [e, List.pairwise_append, List.pairwise_cons] at hr'
  obtain ⟨_, ⟨h3, _⟩, h4⟩ := hr'
  conv => lhs; rw [e]
  rw [List.filter_append, List.filter_cons_of_neg (by simp)]
  rw [List.filter_eq_self.2 (fun y hy => by have := h4 y hy x (List.mem_cons_self ..); simp; omega), List.filter_eq_self.2 (fun y hy => by have := h3 y hy; simp; omega)]
def isEnd (m : Int) (x : Ent) : Bool := x.task == m && !x.waits
theorem ended_none {T : Tb} {m : Int} (h : T.L.find? (isEnd m) = none) : endedT T m = (Ent.nil, false, T) := by
  unfold endedT
  cases hf : ofL T.L m with
  | none => rfl
  | some x =>
    obtain ⟨hx, ht⟩ := ofL_mem hf
    have := List.find?_eq_none.1 h x hx
    simp only [isEnd, ht, beq_self_eq_true, Bool.true_and, Bool.not_eq_true', Bool.not_eq_false] at this
    simp only
    rw [if_pos (by simpa using this)]
theorem ended_some {T : Tb} (hF : Fine T) {m : Int} {x : Ent} (h : T.L.find? (isEnd m) = some x) : endedT T m = (x, true, rmT T x.id) := by
  have hx := List.mem_of_find?_eq_some h
  have hp := List.find?_some h
  simp only [isEnd, Bool.and_eq_true, beq_iff_eq, Bool.not_eq_true'] at hp
  obtain ⟨h1, h2⟩ := hp
  unfold endedT
  have := ofL_of hF.tasks hx
  rw [h1] at this
  rw [this]
  simp [h2]
theorem own_empty6 {w : World} {g : Nat} (h : w.heap[g]? = some (.cells #[] 37 (0, 0))) : w.ownsRow 0 37 6 (.slice (some ⟨g, 0, none⟩) 0 0) 0 [] :=
  ⟨rfl, .inr ⟨g, 0, #[], rfl, Nat.zero_le _, h, Nat.le_refl _, Nat.zero_le _, rfl, rfl⟩⟩
theorem src_part {w : World} {g o i : Nat} {xs : List Value} (hc : ∀ (j : Nat) u, xs[j]? = some u → w.cell? ⟨g, o + j, none⟩ = some u) (h1 : ∀ u ∈ xs, u.oneCell' = true) (hi : i * 6 ≤ xs.length) : SrcAt w 6 (some ⟨g, o, none⟩) i (xs.take (i * 6)) := by
  refine ⟨by simp; omega, fun h0 => ⟨g, o, rfl, fun j u hu => ?_⟩, fun u hu => h1 u (List.mem_of_mem_take hu)⟩
  have hj : j < i * 6 := by have := (List.getElem?_eq_some_iff.1 hu).1; simp at this; omega
  rw [List.getElem?_take_of_lt hj] at hu
  exact hc j u hu
theorem src_rest {w : World} {g o n i : Nat} {xs : List Value} {A : Option Addr} (hc : ∀ (j : Nat) u, xs[j]? = some u → w.cell? ⟨g, o + j, none⟩ = some u) (h1 : ∀ u ∈ xs, u.oneCell' = true) (hn : xs.length = n * 6) (hA : i + 1 < n → A = some ⟨g, o + (i + 1) * 6, none⟩) : SrcAt w 6 A (n - (i + 1)) (xs.drop ((i + 1) * 6)) := by
  refine ⟨by rw [List.length_drop, hn, Nat.sub_mul], fun h0 => ⟨g, o + (i + 1) * 6, hA (by omega), fun j u hu => ?_⟩, fun u hu => h1 u (List.mem_of_mem_drop hu)⟩
  rw [List.getElem?_drop] at hu
  rw [Nat.add_assoc]
  exact hc _ u hu
/-- Behind the store of the shorter row. -/
def MidEnd (w wx : World) (r : Nat) (v : Value) (T : Tb) (q p : Nat) (x : Ent) : Prop := MidAdd w wx r v T ∧ wx.heap[q]? = some Z6 ∧ EntAt wx p x
theorem owns_cell' {w : World} {b n g o c : Nat} {e : TypeId} {size : Nat} {xs : List Value} (h : w.ownsRow b e size (.slice (some ⟨g, o, none⟩) n c) n xs) {k : Nat} {u : Value} (hk : xs[k]? = some u) : w.cell? ⟨g, o + k, none⟩ = some u := by
  obtain ⟨h0, _, hc⟩ := owns_cell (g := 0) h hk
  have h0 : o = 0 := h0
  subst h0
  rw [Nat.zero_add]
  exact hc
theorem owns_cap {w : World} {b n g o c : Nat} {e : TypeId} {size : Nat} {xs : List Value} (h : w.ownsRow b e size (.slice (some ⟨g, o, none⟩) n c) n xs) : n ≤ c ∧ c ≤ maxLen := by
  obtain ⟨_, h2⟩ := h
  rcases h2 with ⟨h2, _⟩ | ⟨g', cap, cur, h3, h4, h5, h6, h7, _⟩
  · cases h2
  · injection h3 with _ _ h3
    subst h3
    exact ⟨h6, h7⟩
theorem frozen_keep {w w1 : World} (hb : Below w.heap.size w w1) {a : Addr} {v : Value} (h : w.cell? a = some v) (hz : w.frozen? a = false) : w1.frozen? a = false := by
  have hl := World.block_lt_of_cell? w a h
  unfold World.frozen? at *
  rw [hb.block a.block hl]
  exact hz
theorem MidEnd.drew {w wx : World} {r q p : Nat} {v : Value} {T : Tb} {x : Ent} (h : MidEnd w wx r v T q p x) : MidEnd w wx.drew r v T q p x := ⟨h.1.drew, h.2.1, h.2.2⟩
theorem end_close {w1 w6 : World} {r n6 q p : Nat} {v v6 : Value} {T : Tb} {x y : Ent} {L : List Ent} (hT : RefAt w1 r v T) (hk : Below w1.heap.size w1 w6) (hq6 : ∀ k, v6.ownBlock = some k → w1.heap.size ≤ k) (ho : w6.ownsRow 0 37 6 v6 n6 (rowE L)) (hn : L.length = n6) (hZ : w1.heap[q]? = some Z6) (hE : EntAt w1 p y) (hqr : q ≠ r) (hpr : p ≠ r) (hL : L = (rmT T x.id).L) :
    MidEnd w1 (w6.setCell ⟨r, 0, none⟩ v6) r v (rmT T x.id) q p y := by
  have e : ({ T with L := L } : Tb) = rmT T x.id := by rw [hL]; rfl
  have hne : v6.ownBlock ≠ some r := fun e => by have := hq6 r e; have := hT.lt; omega
  have hs := set_upto w6 r 0 v6
  refine ⟨⟨v6, by rw [← e]; exact hT.lay (hk.block r hT.lt) (by rw [hn]; exact ho) hne, Upto.setCell (S := ROwn r v) (below_upto hk) (p := ⟨r, 0, none⟩) (.inl (.inl rfl)) _, fun k h => .inr (hq6 k h)⟩, ?_, ?_⟩
  · have hlt := (Array.getElem?_eq_some_iff.1 hZ).1
    exact (hs.block q (Nat.lt_of_lt_of_le hlt hk.size) hqr).trans ((hk.block q hlt).trans hZ)
  · exact ((hE.upto (below_upto (S := F0) hk) (fun h => h)).upto hs hpr)
set_option maxRecDepth 100000 in
set_option maxHeartbeats 8000000 in
theorem rended_any (r : Nat) (v : Value) (T : Tb) (m : Int) (w : World) (h : RefAt w r v T) (hF : Fine T) : Calls Try.prog 37 #[.pointer (some ⟨r, 0, none⟩), .int .i64 m] w (RPost r v (endedT T m).2.2 (.tuple #[entV (endedT T m).1, .bool (endedT T m).2.1]) w) := by
  have hl : T.L.length ≤ 8 := by have := hF.len; have := hF.s2; omega
  have H := Lib.hid h
  have HF := Lib.hid hF
  obtain ⟨i7, hi7, hz7, hs7, hb7⟩ := info_parts info37
  obtain ⟨A, c, rfl⟩ := owns_form h.row
  obtain ⟨n, hn⟩ : ∃ n, T.L.length = n := ⟨_, rfl⟩
  rw [hn] at hl H ⊢
  have hrow := h.row
  rw [hn] at hrow
  have Hrow := Lib.hid hrow
  have Hn := Lib.hid hn
  have HZ : Hid ((w.alloc Z6).heap[w.heap.size]? = some Z6) := Lib.hid (World.alloc_heap_new w _)
  clear h hF hn hrow
  go_enter Try.func37, Try.ntmps37
  go_wp2
  go_loopw [6, 7] (fun iv _ wr => ∃ i : Nat, i ≤ n ∧ iv = .int .i64 i ∧ Below (w.alloc Z6).heap.size (w.alloc Z6) wr ∧ T.L.find? (isEnd m) = (T.L.drop i).find? (isEnd m)) (fun iv _ _ => n - (intOf iv).toNat)
  case atStart => exact ⟨0, Nat.zero_le _, rfl, Below.refl _ _, rfl⟩
  case round =>
    obtain ⟨i, hi, rfl, hb, hf⟩ := hrel
    have hbw : Below w.heap.size w wr := (below_alloc w Z6).trans (hb.mono (below_alloc w Z6).size)
    have hRr := H.out.below hbw
    have hZr : wr.heap[w.heap.size]? = some Z6 := (hb.block _ (by simp)).trans HZ.out
    have cL := hRr.c0
    have HB := Lib.hid hb
    have HBw := Lib.hid hbw
    by_cases hlt : i < n
    · have hlt' : (i : Int) < n := by omega
      have hrow := hRr.row
      rw [Hn.out] at hrow
      obtain ⟨g, o, rfl, hcl⟩ := ents_at hrow Hn.out (by omega)
      obtain ⟨x, hx⟩ : ∃ x, T.L[i]? = some x := ⟨_, List.getElem?_eq_getElem (by rw [Hn.out]; exact hlt)⟩
      obtain ⟨d0, d1, d2, d3, d4, d5⟩ := hcl i x hx
      rw [find_drop hx] at hf
      have HR := Lib.hid hRr
      have HZr := Lib.hid hZr
      have Hx := Lib.hid hx
      have Hrw := Lib.hid hrow
      by_cases he : x.task = m
      case neg =>
        have heE : (x.task == m) = false := by simpa using he
        rw [if_neg (by simp [isEnd, he])] at hf
        have Hf := Lib.hid hf
        obtain ⟨id, task, st, left, kind, val⟩ := x
        simp only at d0 d1 d2 d3 d4 d5 heE
        clear hf hcl hx he hRr hZr hrow hb hbw
        go_wp2
        go_roundw
        case rel => exact ⟨i + 1, by omega, by go_num, HB.out.trans ((below_alloc wr _).mono HB.out.size), Hf.out⟩
        case measure => (simp [intOf] <;> omega)
      have hE : (m == m) = true := by simp
      have W1 := fun ob => rwaits_any x (wr.alloc ob)
      obtain ⟨bw, hbwt⟩ : ∃ bw, x.waits = bw := ⟨_, rfl⟩
      rw [hbwt] at W1
      have Hbw := Lib.hid hbwt
      cases bw with
      | true =>
        rw [if_neg (by simp [isEnd, hbwt])] at hf
        have Hf := Lib.hid hf
        obtain ⟨id, task, st, left, kind, val⟩ := x
        simp only at d0 d1 d2 d3 d4 d5 he
        subst he
        simp only [entV, Ent.cells] at W1
        have HW1 := Lib.hid W1
        clear hf hcl hx hRr hZr hrow hb hbw hbwt W1
        go_wp2_with (go_at_call 43; (with_reducible refine (HW1.out _).mono ?_); rintro e_ w1 ⟨rfl, hb1⟩)
        go_roundw
        case rel => exact ⟨i + 1, by omega, by go_num, HB.out.trans (((below_alloc wr _).trans (hb1.mono (below_alloc wr _).size)).mono HB.out.size), Hf.out⟩
        case measure => (simp [intOf] <;> omega)
      | false =>
        rw [if_pos (by simp [isEnd, he, hbwt])] at hf
        have HEn := Lib.hid (ended_some HF.out hf)
        obtain ⟨id, task, st, left, kind, val⟩ := x
        simp only at d0 d1 d2 d3 d4 d5 he
        subst he
        simp only [entV, Ent.cells] at W1
        have HW1 := Lib.hid W1
        clear hf hcl hx hRr hZr hrow hb hbw hbwt W1
        go_upto_region 6 with (go_at_call 43; (with_reducible refine (HW1.out _).mono ?_); rintro e_ w1 ⟨rfl, hb1⟩)
        have hb01 : Below wr.heap.size wr w1 := (below_alloc wr _).trans (hb1.mono (below_alloc wr _).size)
        have hR1 := HR.out.below hb01
        have hrow1 := own_kept Hrw.out (below_upto (S := F0) hb01) (fun _ h => False.elim h)
        have hZ1 : w1.heap[w.heap.size]? = some Z6 := (hb01.block _ (Array.getElem?_eq_some_iff.1 HZr.out).1).trans HZr.out
        have hE1 : EntAt w1 wr.heap.size ⟨id, task, st, left, kind, val⟩ := (hb1.block _ (by simp)).trans (World.alloc_heap_new wr _)
        have hqr : w.heap.size ≠ r := by have := H.out.lt; omega
        have hpr : wr.heap.size ≠ r := by have := HR.out.lt; omega
        obtain ⟨hnc, hcm⟩ := owns_cap hrow1
        have Hc : Hid (∀ (j : Nat) u, (rowE T.L)[j]? = some u → w1.cell? ⟨g, o + j, none⟩ = some u) := Lib.hid (fun j u hu => owns_cell' hrow1 hu)
        have c1 := hR1.c0
        have z1 := hR1.fz 0
        have hR1r := hR1.lt
        have HR1 := Lib.hid hR1
        have HZ1 := Lib.hid hZ1
        have HE1 := Lib.hid hE1
        have Hb01 := Lib.hid hb01
        have hic : (i : Int) ≤ c := by omega
        have hin1 : (i : Int) + 1 ≤ n := by omega
        have hnci : (n : Int) ≤ c := by omega
        have hip1 : (0 : Int) ≤ (i : Int) + 1 := by omega
        have hsz1 := hb01.size
        clear hR1 hrow1 hZ1 hE1 hb01 hb1 cL d0 d1 d2 d3 d4 d5 HW1
        go_cut [] from 33 (fun wx => MidEnd w1 wx r (.slice (some ⟨g, o, none⟩) n c) (rmT T id) w.heap.size wr.heap.size ⟨id, task, st, left, kind, val⟩)
        case first =>
          obtain ⟨ad, had⟩ : ∃ ad, (if c = i + 1 then some (⟨g, o, none⟩ : Addr) else some ⟨g, o + (i + 1) * 6, none⟩) = some ad := by
            by_cases h1 : c = i + 1
            · exact ⟨_, by rw [if_pos h1]⟩
            · exact ⟨_, by rw [if_neg h1]⟩
          have HSa := Lib.hid (fun (W : World) (hW : Below w1.heap.size w1 W) => (src_part (i := i) Hc.out (rowE_one T.L) (by rw [rowE_len, Hn.out]; omega)).below hW)
          have HSb := Lib.hid (fun (W : World) (hW : Below w1.heap.size w1 W) => (src_rest (A := some ad) (i := i) Hc.out (rowE_one T.L) (by rw [rowE_len, Hn.out]) (fun h => by rw [← had, if_neg (by omega)])).below hW)
          have HBA := Lib.hid (below_alloc_drew w1 (.cells #[] 37))
          have HP : Hid ((w1.alloc (.cells #[] 37)).drew.heap[w1.heap.size]? = some (.cells #[] 37 (0, 0))) := Lib.hid (World.alloc_heap_new w1 _)
          have hwr : IntKind.i64.wrap ((i : Int) + 1) = (i : Int) + 1 := IntWalk.i64_in _ (by omega)
          have ca := fun ob => keep_cell (below_alloc w1 ob) c1
          go_wp2
          go_region_law (first
            | (refine step_append_src _ (by rfl) (Operand.tmp 34) (Operand.tmp 40) _ (by rfl) 0 37 i7 _ 6 48 under33 hi7 hz7 hs7 hb7 rfl (by decide) (.slice (some ⟨w1.heap.size, 0, none⟩) 0 0) 0 [] (by rfl) (own_empty6 HP.out) (some ⟨g, o, none⟩) i c ((rowE T.L).take (i * 6)) (by rfl) (HSa.out _ (by first | exact HBA.out | exact HBA.out.drew | exact HBA.out.drew.drew)) (by unfold maxLen; omega) (by omega) (Nat.zero_le _) ?_; intro v5 w5 hown5 hgrow5 hat5; rw [Nat.zero_add, List.nil_append] at hown5; obtain ⟨A5, c5, rfl⟩ := owns_form hown5; have k5 : Below w1.heap.size w1 w5 := (show Below w1.heap.size w1 _ from (by first | exact HBA.out | exact HBA.out.drew | exact HBA.out.drew.drew)).grown hgrow5 HBA.out.size (fun k e => by cases e; exact Nat.le_refl _); have d5 := keep_cell k5 c1; have Hown5 := Lib.hid hown5; have Hat5 := Lib.hid hat5; have K5 := Lib.hid k5; clear hown5 hat5 hgrow5 k5)
            | (refine step_append_src _ (by rfl) (Operand.tmp 41) (Operand.tmp 48) _ (by rfl) 0 37 i7 _ 6 48 under33 hi7 hz7 hs7 hb7 rfl (by decide) (.slice A5 i c5) i ((rowE T.L).take (i * 6)) (by rfl) Hown5.out (some ad) (n - (i + 1)) (c - (i + 1)) ((rowE T.L).drop ((i + 1) * 6)) (by rfl) (HSb.out _ (by first | exact K5.out | exact K5.out.drew | exact K5.out.drew.drew)) (by unfold maxLen; omega) (by omega) (Nat.zero_le _) ?_; intro v6 w6 hown6 hgrow6 hat6; obtain ⟨A6, c6, rfl⟩ := owns_form hown6; have k6 : Below w1.heap.size w1 w6 := (show Below w1.heap.size w1 _ from (by first | exact K5.out | exact K5.out.drew | exact K5.out.drew.drew)).grown hgrow6 K5.out.size (fun k e => by rcases Hat5.out with h | h; (rw [h] at e; cases e; exact Nat.le_refl _); (rw [h] at e; cases e; exact HBA.out.size)); have d6 := keep_cell k6 c1; have f6 := frozen_keep k6 c1 z1; have Hown6 := Lib.hid hown6; have Hq6 : Hid (∀ k, (Value.slice A6 (i + (n - (i + 1))) c6).ownBlock = some k → w1.heap.size ≤ k) := Lib.hid (fun k hk => by rcases hat6 with h | h; (rw [h] at hk; rcases Hat5.out with h' | h'; (rw [h'] at hk; cases hk; exact Nat.le_refl _); (rw [h'] at hk; cases hk; exact HBA.out.size)); (rw [h] at hk; cases hk; exact K5.out.size)); have K6 := Lib.hid k6; clear hown6 hat6 hgrow6 k6)
            | fail)
          all_goals
            go_wp2
            go_meet
            case rel =>
              have hcl := end_close (x := ⟨id, task, st, left, kind, val⟩) HR1.out K6.out Hq6.out (by rw [← rowE_cut]; exact Hown6.out) (by rw [List.length_append, List.length_take, List.length_drop, Hn.out]; omega) HZ1.out HE1.out hqr hpr (rm_at HF.out.rise Hx.out).symm
              first | exact hcl | exact hcl.drew | exact hcl.drew.drew
        case rest =>
          obtain ⟨⟨v', hT, hU, hO⟩, hZ, hE⟩ := hcut
          have t0 := six_cell hZ 0 _ rfl
          have t1 := six_cell hZ 1 _ rfl
          have t2 := six_cell hZ 2 _ rfl
          have t3 := six_cell hZ 3 _ rfl
          have t4 := six_cell hZ 4 _ rfl
          have t5 := six_cell hZ 5 _ rfl
          have tf := fun o => six_fz hZ o
          have e0 := hE.c0
          have e1 := hE.c1
          have e2 := hE.c2
          have e3 := hE.c3
          have e4 := hE.c4
          have e5 := hE.c5
          simp only at e0 e1 e2 e3 e4 e5
          have HT' := Lib.hid hT
          have HU' := Lib.hid hU
          have HO' := Lib.hid hO
          have HZ' := Lib.hid hZ
          clear hT hU hO hZ hE c1 z1
          go_wp2
          have hs := six_done HZ'.out ⟨id, task, st, left, kind, val⟩
          have hu := six_upto wc w.heap.size (.int .u64 id) (.int .i64 task) (.int .i64 st) (.int .i64 left) (.int .i64 kind) (.int .i64 val)
          rw [HEn.out]
          refine bodyPost_ret (res_six rfl _ _ w.heap.size _ hs rfl) rfl ⟨rfl, v', HT'.out.upto hu (fun k hk => ?_), ?_, fun k hk => ?_⟩
          · have hq1 := (Array.getElem?_eq_some_iff.1 HZ1.out).1
            rcases hk with rfl | hk
            · have := H.out.lt; omega
            · rcases HO'.out k hk with h1 | h1
              · have := H.out.own_lt (.inr h1); omega
              · omega
          · exact (((below_upto (S := ROwn r (.slice (some ⟨g, o, none⟩) n c)) HBw.out).below Hb01.out).then HU'.out).trans hu (fun k hk => .inr (by rw [hk]; exact Nat.le_refl _))
          · rcases HO'.out k hk with h1 | h1
            · exact .inl h1
            · have := HBw.out.size; exact .inr (by omega)
    · obtain rfl : i = n := by omega
      rw [List.drop_of_length_le (by rw [Hn.out]; exact Nat.le_refl _)] at hf
      have HEn := Lib.hid (ended_none hf)
      have t0 := six_cell hZr 0 _ rfl
      have t1 := six_cell hZr 1 _ rfl
      have t2 := six_cell hZr 2 _ rfl
      have t3 := six_cell hZr 3 _ rfl
      have t4 := six_cell hZr 4 _ rfl
      have t5 := six_cell hZr 5 _ rfl
      have tf := fun o => six_fz hZr o
      have HZr := Lib.hid hZr
      have HR := Lib.hid hRr
      clear hf hRr hZr hb hbw
      go_wp2
      have hs := six_done HZr.out Ent.nil
      have hu := six_upto wr w.heap.size (.int .u64 0) (.int .i64 0) (.int .i64 0) (.int .i64 0) (.int .i64 0) (.int .i64 0)
      rw [HEn.out]
      refine bodyPost_ret (res_six rfl _ _ w.heap.size Ent.nil hs rfl) rfl ⟨rfl, _, HR.out.upto hu (fun k hk => by have := H.out.own_lt hk; omega), (below_upto HBw.out).trans hu (fun k hk => .inr (by rw [hk]; exact Nat.le_refl _)), fun k h => .inl h⟩
end Go.Proofs.Ytfknkkcpieaikaa
