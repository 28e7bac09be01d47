/- MeanTwo: it answers true. Conditions: the rules and the names can be read. -/
import Derived.Test.YtomcobmpojpdcaaMore
import Derived.Test.YtomcobmpojpdcaaFresh
import Derived.Deep.DeepCutAuto
import Derived.Outline
namespace Go.Proofs.Ytomcobmpojpdcaa
open Go.RowKit
attribute [local go_sem ↓] Go.wp_at_zero Go.wp_at_succ
set_option linter.unusedVariables false
set_option linter.unusedSimpArgs false

theorem owns_full {w : World} {g e size n : Nat} {cs : Array Value} (h : w.heap[g]? = some (.cells cs e (0, 0))) (hs : cs.size = n * size) (hn : n ≤ maxLen) : w.ownsRow 0 e size (.slice (some ⟨g, 0, none⟩) n n) n cs.toList :=
  ⟨by simpa using hs, .inr ⟨g, n, cs, rfl, Nat.zero_le _, h, Nat.le_refl _, hn, hs, List.take_of_length_le (by simp [hs])⟩⟩
theorem spokenB_append (a b : List ByteArray) (n : Int) : spokenB (a ++ b) n = (spokenB a n || spokenB b n) := by simp [spokenB, List.any_append]
theorem decL_two (nr x0 x1 x2 x3 x4 x5 k a q p : Int) (a0 b0 : List ByteArray) (L : List Rul) : decL nr x0 x1 x2 x3 x4 x5 k a ([⟨q, p, a0, []⟩, ⟨q, p, b0, []⟩] ++ L) = decL nr x0 x1 x2 x3 x4 x5 k a ([⟨q, p, a0 ++ b0, []⟩] ++ L) := by
  simp only [List.cons_append, List.nil_append, decL, meetsB, spokenB_append, List.all_nil, Bool.and_true]
  by_cases h1 : spokenB a0 nr = true <;> by_cases h2 : spokenB b0 nr = true <;> simp [h1, h2]
theorem decV_two {nr ar x0 x1 x2 x3 x4 x5 k a q p : Int} {a0 b0 : List ByteArray} {L : List Rul} (h1 : (decV nr ar x0 x1 x2 x3 x4 x5 k a ([⟨q, p, a0, []⟩, ⟨q, p, b0, []⟩] ++ L)).2 = 0) (h2 : (decV nr ar x0 x1 x2 x3 x4 x5 k a ([⟨q, p, a0 ++ b0, []⟩] ++ L)).2 = 0) :
    (decV nr ar x0 x1 x2 x3 x4 x5 k a ([⟨q, p, a0, []⟩, ⟨q, p, b0, []⟩] ++ L)).1 = (decV nr ar x0 x1 x2 x3 x4 x5 k a ([⟨q, p, a0 ++ b0, []⟩] ++ L)).1 := by
  unfold decV at *
  by_cases c1 : (checkV k a ([⟨q, p, a0, []⟩, ⟨q, p, b0, []⟩] ++ L)).1 = 0
  · by_cases c2 : (checkV k a ([⟨q, p, a0 ++ b0, []⟩] ++ L)).1 = 0
    · rw [if_pos c1, if_pos c2]
      by_cases har : ar = 3221225534
      · rw [if_pos har, if_pos har]
        exact decL_two ..
      · rw [if_neg har, if_neg har]
    · rw [if_neg c2] at h2; exact absurd h2 c2
  · rw [if_neg c1] at h1; exact absurd h1 c1
def Joined (k a : Int) (ns : List ByteArray) (wp : World) (s : Value) (wx : World) : Prop :=
  ∃ g v, s = .pointer (some ⟨g, 0, none⟩) ∧ wx.cell? ⟨g, 0, none⟩ = some (.int .i64 k) ∧ wx.cell? ⟨g, 1, none⟩ = some (.int .i64 a) ∧ wx.cell? ⟨g, 2, none⟩ = some v ∧ wx.cell? ⟨g, 3, none⟩ = some (.slice none 0 0) ∧ StrsAt wx v ns ∧ Below wp.heap.size wp wx

theorem nil_conds (w : World) : CndsAt w (.slice none 0 0) [] := ⟨none, 0, rfl, by simp, fun h => absurd h (by simp)⟩
theorem strs_sz {a b : List ByteArray} (ha : ∀ s ∈ a, s.size ≤ 9223372036854775807) (hb : ∀ s ∈ b, s.size ≤ 9223372036854775807) : ∀ s ∈ a ++ b, s.size ≤ 9223372036854775807 := fun s hs => by
  rcases List.mem_append.1 hs with h | h
  · exact ha s h
  · exact hb s h
theorem joined_set {w5 w3 : World} {g : Nat} {v : Value} {k a : Int} {ns : List ByteArray} (h : w5.heap[g]? = some (.cells #[.int .i64 0, .int .i64 0, .slice none 0 0, .slice none 0 0] 48 (0, 0)))
    (hb : Below w3.heap.size w3 w5) (hg : w3.heap.size ≤ g) (hs : StrsAt w5 v ns) :
    Joined k a ns w3 (.pointer (some ⟨g, 0, none⟩)) ((((w5.setCell ⟨g, 0, none⟩ (.int .i64 k)).setCell ⟨g, 1, none⟩ (.int .i64 a)).setCell ⟨g, 2, none⟩ v).setCell ⟨g, 3, none⟩ (.slice none 0 0)) := by
  have far : ∀ p : Addr, p.block ≠ g → ((((w5.setCell ⟨g, 0, none⟩ (.int .i64 k)).setCell ⟨g, 1, none⟩ (.int .i64 a)).setCell ⟨g, 2, none⟩ v).setCell ⟨g, 3, none⟩ (.slice none 0 0)).cell? p = w5.cell? p := by
    intro p hp
    have ne : ∀ i, (⟨g, i, none⟩ : Addr) ≠ p := fun i e => hp (by rw [← e])
    rw [World.cell?_setCell_other _ _ _ _ (ne 3), World.cell?_setCell_other _ _ _ _ (ne 2), World.cell?_setCell_other _ _ _ _ (ne 1), World.cell?_setCell_other _ _ _ _ (ne 0)]
  have c : ((((w5.setCell ⟨g, 0, none⟩ (.int .i64 k)).setCell ⟨g, 1, none⟩ (.int .i64 a)).setCell ⟨g, 2, none⟩ v).setCell ⟨g, 3, none⟩ (.slice none 0 0)).heap[g]? = some (.cells #[.int .i64 k, .int .i64 a, v, .slice none 0 0] 48 (0, 0)) := by
    simp [World.setCell, Array.getElem?_modify, h]
  refine ⟨g, v, rfl, cell_of_row _ g 0 _ _ _ c, cell_of_row _ g 1 _ _ _ c, cell_of_row _ g 2 _ _ _ c, cell_of_row _ g 3 _ _ _ c, hs.below fun g' o s hq => ⟨(far _ ?_).trans hq.1, hq.2⟩, (((hb.setCell hg _).setCell hg _).setCell hg _).setCell hg _⟩
  rintro rfl
  have h1 := hq.1
  rw [cell_of_row w5 g' o _ _ _ h] at h1
  match o, h1 with
  | 0, h1 => cases h1
  | 1, h1 => cases h1
  | 2, h1 => cases h1
  | 3, h1 => cases h1
  | o + 4, h1 => simp at h1

set_option maxRecDepth 100000 in
set_option maxHeartbeats 4000000 in
theorem law_two (k a nr ar ip x0 x1 x2 x3 x4 x5 : Int) (lv nv0 nv1 : Value) (L : List Rul) (ns0 ns1 : List ByteArray) (w : World) (hL : RulsAt w lv L) (hn0 : StrsAt w nv0 ns0) (hn1 : StrsAt w nv1 ns1) :
    Calls Try.prog 7 #[.agg #[.int .i64 k, .int .i64 a, lv], .agg #[nv0, nv1], .agg #[.int .u32 nr, .int .u32 ar, .int .u64 ip, .int .u64 x0, .int .u64 x1, .int .u64 x2, .int .u64 x3, .int .u64 x4, .int .u64 x5]] w (Ret (.bool true) w) := by
  have A := awake_any
  have ae := fun (W : World) => act_eq W
  have ag := act_guard
  have R := fun w1 hb => light_any k a lv L w1 (ruls_below (w := w) (w1 := w1) hb hL)
  obtain ⟨y, hy⟩ : ∃ y, lightB L = y := ⟨_, rfl⟩
  rw [hy] at R
  obtain ⟨A0, c0, rfl⟩ := hL.form
  obtain ⟨P0, e0, rfl⟩ := hn0.form
  obtain ⟨P1, e1, rfl⟩ := hn1.form
  obtain ⟨n, hn⟩ : ∃ n, L.length = n := ⟨_, rfl⟩
  obtain ⟨m0, hm0⟩ : ∃ n, ns0.length = n := ⟨_, rfl⟩
  obtain ⟨m1, hm1⟩ : ∃ n, ns1.length = n := ⟨_, rfl⟩
  rw [hn] at hL R ⊢
  rw [hm0] at hn0 ⊢
  rw [hm1] at hn1 ⊢
  have HL := Lib.hid hL
  have HN0 := Lib.hid hn0
  have HN1 := Lib.hid hn1
  have Hn := Lib.hid hn
  have Hm0 := Lib.hid hm0
  have Hm1 := Lib.hid hm1
  clear hL hn0 hn1 hn hm0 hm1 hy
  obtain ⟨i9, hi9, hz9, hs9, hb9⟩ := info_parts info9
  obtain ⟨i48, hi48, hz48, hs48, hb48⟩ := info_parts info48
  have hbox0 := below_alloc w (.cells #[.int .i64 k, .int .i64 a, .slice A0 n c0] 33)
  have hbox1 := bchain hbox0 hbox0.size (below_alloc _ (.cells #[.slice P0 m0 e0, .slice P1 m1 e1] 53))
  have hbox := bchain hbox1 hbox1.size (below_alloc _ (.cells #[.int .u32 nr, .int .u32 ar, .int .u64 ip, .int .u64 x0, .int .u64 x1, .int .u64 x2, .int .u64 x3, .int .u64 x4, .int .u64 x5] 41))
  clear hbox0 hbox1
  go_enter Try.func7, Try.ntmps7
  go_wp2_with fail
  refine (A _).mono ?_
  rintro e w1 ⟨rfl, hb1⟩
  have b0 : w1.cell? ⟨w.heap.size, 0, none⟩ = some (.int .i64 k) := keep_cell hb1 (box3_1 _ _ _ _ _ _ _ 0 _ rfl)
  have b1 : w1.cell? ⟨w.heap.size, 1, none⟩ = some (.int .i64 a) := keep_cell hb1 (box3_1 _ _ _ _ _ _ _ 1 _ rfl)
  have b2 : w1.cell? ⟨w.heap.size, 2, none⟩ = some (.slice A0 n c0) := keep_cell hb1 (box3_1 _ _ _ _ _ _ _ 2 _ rfl)
  have lb : w.heap.size < w1.heap.size := World.block_lt_of_cell? w1 _ b0
  have p0 : w1.cell? ⟨w.heap.size + 1, 0, none⟩ = some (.slice P0 m0 e0) := keep_cell hb1 (box3_2 _ _ _ _ _ _ _ 0 _ rfl)
  have p1 : w1.cell? ⟨w.heap.size + 1, 1, none⟩ = some (.slice P1 m1 e1) := keep_cell hb1 (box3_2 _ _ _ _ _ _ _ 1 _ rfl)
  have lp : w.heap.size + 1 < w1.heap.size := World.block_lt_of_cell? w1 _ p0
  have d0 : w1.cell? ⟨w.heap.size + 1 + 1, 0, none⟩ = some (.int .u32 nr) := keep_cell hb1 (box3_3 _ _ _ _ _ _ _ 0 _ rfl)
  have d1 : w1.cell? ⟨w.heap.size + 1 + 1, 1, none⟩ = some (.int .u32 ar) := keep_cell hb1 (box3_3 _ _ _ _ _ _ _ 1 _ rfl)
  have d2 : w1.cell? ⟨w.heap.size + 1 + 1, 2, none⟩ = some (.int .u64 ip) := keep_cell hb1 (box3_3 _ _ _ _ _ _ _ 2 _ rfl)
  have d3 : w1.cell? ⟨w.heap.size + 1 + 1, 3, none⟩ = some (.int .u64 x0) := keep_cell hb1 (box3_3 _ _ _ _ _ _ _ 3 _ rfl)
  have d4 : w1.cell? ⟨w.heap.size + 1 + 1, 4, none⟩ = some (.int .u64 x1) := keep_cell hb1 (box3_3 _ _ _ _ _ _ _ 4 _ rfl)
  have d5 : w1.cell? ⟨w.heap.size + 1 + 1, 5, none⟩ = some (.int .u64 x2) := keep_cell hb1 (box3_3 _ _ _ _ _ _ _ 5 _ rfl)
  have d6 : w1.cell? ⟨w.heap.size + 1 + 1, 6, none⟩ = some (.int .u64 x3) := keep_cell hb1 (box3_3 _ _ _ _ _ _ _ 6 _ rfl)
  have d7 : w1.cell? ⟨w.heap.size + 1 + 1, 7, none⟩ = some (.int .u64 x4) := keep_cell hb1 (box3_3 _ _ _ _ _ _ _ 7 _ rfl)
  have d8 : w1.cell? ⟨w.heap.size + 1 + 1, 8, none⟩ = some (.int .u64 x5) := keep_cell hb1 (box3_3 _ _ _ _ _ _ _ 8 _ rfl)
  have ld : w.heap.size + 1 + 1 < w1.heap.size := World.block_lt_of_cell? w1 _ d0
  have hw1 := bchain hbox hbox.size hb1
  clear hb1 hbox A
  go_wp2_with fail
  refine (R _ hw1).mono ?_
  rintro e w2 ⟨rfl, hb2⟩
  replace b0 : w2.cell? ⟨w.heap.size, 0, none⟩ = some (.int .i64 k) := keep_cell hb2 b0
  replace b1 : w2.cell? ⟨w.heap.size, 1, none⟩ = some (.int .i64 a) := keep_cell hb2 b1
  replace b2 : w2.cell? ⟨w.heap.size, 2, none⟩ = some (.slice A0 n c0) := keep_cell hb2 b2
  replace lb : w.heap.size < w2.heap.size := World.block_lt_of_cell? w2 _ b0
  replace p0 : w2.cell? ⟨w.heap.size + 1, 0, none⟩ = some (.slice P0 m0 e0) := keep_cell hb2 p0
  replace p1 : w2.cell? ⟨w.heap.size + 1, 1, none⟩ = some (.slice P1 m1 e1) := keep_cell hb2 p1
  replace lp : w.heap.size + 1 < w2.heap.size := World.block_lt_of_cell? w2 _ p0
  replace d0 : w2.cell? ⟨w.heap.size + 1 + 1, 0, none⟩ = some (.int .u32 nr) := keep_cell hb2 d0
  replace d1 : w2.cell? ⟨w.heap.size + 1 + 1, 1, none⟩ = some (.int .u32 ar) := keep_cell hb2 d1
  replace d2 : w2.cell? ⟨w.heap.size + 1 + 1, 2, none⟩ = some (.int .u64 ip) := keep_cell hb2 d2
  replace d3 : w2.cell? ⟨w.heap.size + 1 + 1, 3, none⟩ = some (.int .u64 x0) := keep_cell hb2 d3
  replace d4 : w2.cell? ⟨w.heap.size + 1 + 1, 4, none⟩ = some (.int .u64 x1) := keep_cell hb2 d4
  replace d5 : w2.cell? ⟨w.heap.size + 1 + 1, 5, none⟩ = some (.int .u64 x2) := keep_cell hb2 d5
  replace d6 : w2.cell? ⟨w.heap.size + 1 + 1, 6, none⟩ = some (.int .u64 x3) := keep_cell hb2 d6
  replace d7 : w2.cell? ⟨w.heap.size + 1 + 1, 7, none⟩ = some (.int .u64 x4) := keep_cell hb2 d7
  replace d8 : w2.cell? ⟨w.heap.size + 1 + 1, 8, none⟩ = some (.int .u64 x5) := keep_cell hb2 d8
  replace ld : w.heap.size + 1 + 1 < w2.heap.size := World.block_lt_of_cell? w2 _ d0
  have hw2 := bchain hw1 hw1.size hb2
  clear hb2 R
  cases y with
  | false =>
    go_wp2_with fail
    go_ret
    exact ⟨rfl, hw2⟩
  | true =>
  by_cases qn : (60 : Int) < n
  · have dq : decide ((60 : Int) < n) = true := by simpa using qn
    go_wp2_with fail
    go_ret
    exact ⟨rfl, hw2⟩
  have dqn : decide ((60 : Int) < n) = false := by simpa using qn
  by_cases qm0 : (30 : Int) < m0
  · have dq : decide ((30 : Int) < m0) = true := by simpa using qm0
    go_wp2_with fail
    go_ret
    exact ⟨rfl, hw2⟩
  have dqm0 : decide ((30 : Int) < m0) = false := by simpa using qm0
  by_cases qm1 : (30 : Int) < m1
  · have dq : decide ((30 : Int) < m1) = true := by simpa using qm1
    go_wp2_with fail
    go_ret
    exact ⟨rfl, hw2⟩
  have dqm1 : decide ((30 : Int) < m1) = false := by simpa using qm1
  go_upto_region 7 with (fail)
  obtain ⟨w3, hw3⟩ : ∃ w3, (w2.alloc (.cells #[.int .i64 k, .int .i64 a, .slice P0 m0 e0, .slice none 0 0] 48)).alloc (.cells #[.int .i64 k, .int .i64 a, .slice P1 m1 e1, .slice none 0 0] 48) = w3 := ⟨_, rfl⟩
  rw [hw3]
  have hb3 : Below w2.heap.size w2 w3 := by rw [← hw3]; exact bchain (below_alloc _ _) (by simp) (below_alloc _ _)
  replace b0 : w3.cell? ⟨w.heap.size, 0, none⟩ = some (.int .i64 k) := keep_cell hb3 b0
  replace b1 : w3.cell? ⟨w.heap.size, 1, none⟩ = some (.int .i64 a) := keep_cell hb3 b1
  replace b2 : w3.cell? ⟨w.heap.size, 2, none⟩ = some (.slice A0 n c0) := keep_cell hb3 b2
  replace lb : w.heap.size < w3.heap.size := World.block_lt_of_cell? w3 _ b0
  replace p0 : w3.cell? ⟨w.heap.size + 1, 0, none⟩ = some (.slice P0 m0 e0) := keep_cell hb3 p0
  replace p1 : w3.cell? ⟨w.heap.size + 1, 1, none⟩ = some (.slice P1 m1 e1) := keep_cell hb3 p1
  replace lp : w.heap.size + 1 < w3.heap.size := World.block_lt_of_cell? w3 _ p0
  replace d0 : w3.cell? ⟨w.heap.size + 1 + 1, 0, none⟩ = some (.int .u32 nr) := keep_cell hb3 d0
  replace d1 : w3.cell? ⟨w.heap.size + 1 + 1, 1, none⟩ = some (.int .u32 ar) := keep_cell hb3 d1
  replace d2 : w3.cell? ⟨w.heap.size + 1 + 1, 2, none⟩ = some (.int .u64 ip) := keep_cell hb3 d2
  replace d3 : w3.cell? ⟨w.heap.size + 1 + 1, 3, none⟩ = some (.int .u64 x0) := keep_cell hb3 d3
  replace d4 : w3.cell? ⟨w.heap.size + 1 + 1, 4, none⟩ = some (.int .u64 x1) := keep_cell hb3 d4
  replace d5 : w3.cell? ⟨w.heap.size + 1 + 1, 5, none⟩ = some (.int .u64 x2) := keep_cell hb3 d5
  replace d6 : w3.cell? ⟨w.heap.size + 1 + 1, 6, none⟩ = some (.int .u64 x3) := keep_cell hb3 d6
  replace d7 : w3.cell? ⟨w.heap.size + 1 + 1, 7, none⟩ = some (.int .u64 x4) := keep_cell hb3 d7
  replace d8 : w3.cell? ⟨w.heap.size + 1 + 1, 8, none⟩ = some (.int .u64 x5) := keep_cell hb3 d8
  replace ld : w.heap.size + 1 + 1 < w3.heap.size := World.block_lt_of_cell? w3 _ d0
  have o0 : w3.cell? ⟨w2.heap.size, 0, none⟩ = some (.int .i64 k) := by rw [← hw3]; exact keep_cell (below_alloc _ _) (new_cell w2 _ 48 0 rfl)
  have o1 : w3.cell? ⟨w2.heap.size, 1, none⟩ = some (.int .i64 a) := by rw [← hw3]; exact keep_cell (below_alloc _ _) (new_cell w2 _ 48 1 rfl)
  have o2 : w3.cell? ⟨w2.heap.size, 2, none⟩ = some (.slice P0 m0 e0) := by rw [← hw3]; exact keep_cell (below_alloc _ _) (new_cell w2 _ 48 2 rfl)
  have o3 : w3.cell? ⟨w2.heap.size, 3, none⟩ = some (.slice none 0 0) := by rw [← hw3]; exact keep_cell (below_alloc _ _) (new_cell w2 _ 48 3 rfl)
  have t0 : w3.cell? ⟨w2.heap.size + 1, 0, none⟩ = some (.int .i64 k) := by rw [← hw3]; have h := new_cell (w2.alloc (.cells #[.int .i64 k, .int .i64 a, .slice P0 m0 e0, .slice none 0 0] 48)) #[.int .i64 k, .int .i64 a, .slice P1 m1 e1, .slice none 0 0] 48 0 rfl; have e : (w2.alloc (.cells #[.int .i64 k, .int .i64 a, .slice P0 m0 e0, .slice none 0 0] 48)).heap.size = w2.heap.size + 1 := (by simp); rw [e] at h; exact h
  have t1 : w3.cell? ⟨w2.heap.size + 1, 1, none⟩ = some (.int .i64 a) := by rw [← hw3]; have h := new_cell (w2.alloc (.cells #[.int .i64 k, .int .i64 a, .slice P0 m0 e0, .slice none 0 0] 48)) #[.int .i64 k, .int .i64 a, .slice P1 m1 e1, .slice none 0 0] 48 1 rfl; have e : (w2.alloc (.cells #[.int .i64 k, .int .i64 a, .slice P0 m0 e0, .slice none 0 0] 48)).heap.size = w2.heap.size + 1 := (by simp); rw [e] at h; exact h
  have t2 : w3.cell? ⟨w2.heap.size + 1, 2, none⟩ = some (.slice P1 m1 e1) := by rw [← hw3]; have h := new_cell (w2.alloc (.cells #[.int .i64 k, .int .i64 a, .slice P0 m0 e0, .slice none 0 0] 48)) #[.int .i64 k, .int .i64 a, .slice P1 m1 e1, .slice none 0 0] 48 2 rfl; have e : (w2.alloc (.cells #[.int .i64 k, .int .i64 a, .slice P0 m0 e0, .slice none 0 0] 48)).heap.size = w2.heap.size + 1 := (by simp); rw [e] at h; exact h
  have t3 : w3.cell? ⟨w2.heap.size + 1, 3, none⟩ = some (.slice none 0 0) := by rw [← hw3]; have h := new_cell (w2.alloc (.cells #[.int .i64 k, .int .i64 a, .slice P0 m0 e0, .slice none 0 0] 48)) #[.int .i64 k, .int .i64 a, .slice P1 m1 e1, .slice none 0 0] 48 3 rfl; have e : (w2.alloc (.cells #[.int .i64 k, .int .i64 a, .slice P0 m0 e0, .slice none 0 0] 48)).heap.size = w2.heap.size + 1 := (by simp); rw [e] at h; exact h
  have lo : w2.heap.size < w3.heap.size := World.block_lt_of_cell? w3 _ o0
  have lt : w2.heap.size + 1 < w3.heap.size := World.block_lt_of_cell? w3 _ t0
  obtain ⟨go, hgo⟩ : ∃ go, w2.heap.size = go := ⟨_, rfl⟩
  have hw3' := bchain hw2 hw2.size hb3
  rw [hgo] at o0 o1 o2 o3 t0 t1 t2 t3 lo lt ⊢
  clear hgo
  have hs0 := (strs_src (strs_below hw3' HN0.out))
  have hs1 := (strs_src (strs_below hw3' HN1.out))
  have HS1 := Lib.hid (show ∀ W, Below w3.heap.size w3 W → SrcAt W 1 P1 m1 (ns1.map Value.string) from fun W hb => (strs_src (strs_below (bchain hw3' hw3'.size hb) HN1.out)).1)
  have HS0 := Lib.hid hs0.1
  have HZ0 := Lib.hid hs0.2
  have HZ1 := Lib.hid hs1.2
  clear hs0 hs1
  have jm0 : m0 ≤ 30 := by omega
  have jm1 : m1 ≤ 30 := by omega
  go_cut [11] (fun s wx => Joined k a (ns0 ++ ns1) w3 s wx)
  case first =>
    by_cases z0 : m0 = 0
    · subst z0
      go_region_held3 (fun w' => w'.cell? ⟨w.heap.size, 0, none⟩ = some (.int .i64 k) ∧ w'.cell? ⟨w.heap.size, 1, none⟩ = some (.int .i64 a) ∧ w'.cell? ⟨w.heap.size + 1, 0, none⟩ = some (.slice P0 0 e0) ∧ w'.cell? ⟨w.heap.size + 1, 1, none⟩ = some (.slice P1 m1 e1))
        ((refine ⟨?_, ?_, ?_, ?_⟩ <;> first | with_reducible assumption | (refine keep_cell (W := w3) (by repeat (first | with_reducible assumption | with_reducible exact Below.refl _ _ | (with_reducible refine Below.alloc ?_ (by first | omega | (simp <;> omega) | simp) _) | (with_reducible refine Below.setCell ?_ (by first | omega | (simp <;> omega) | simp) _) | (with_reducible refine below_drewN ?_ _) | (with_reducible refine Below.drew ?_))) ?_; assumption))) (first | ((refine step_append_zero _ (by rfl) (Operand.tmp 54) (Operand.tmp 56) _ (by rfl) 9 i9 Try.underlying45 hi9 _ 0 0 (Nat.le_refl _) (by rfl) P0 e0 (by rfl) ?_)) | ((refine step_append_src _ (by rfl) (Operand.tmp 57) (Operand.tmp 59) _ (by rfl) 0 9 i9 _ 1 16 Try.underlying45 hi9 hz9 hs9 hb9 rfl (by decide) (.slice (some ⟨_, 0, none⟩) 0 0) 0 [] (by rfl) (owns_empty (by simp [hx0, hx1, hx2, Array.getElem?_push, Array.getElem_push])) P1 m1 e1 (ns1.map Value.string) (by rfl) (HS1.out _ (by repeat (first | with_reducible assumption | with_reducible exact Below.refl _ _ | (with_reducible refine Below.alloc ?_ (by first | omega | (simp <;> omega) | simp) _) | (with_reducible refine Below.setCell ?_ (by first | omega | (simp <;> omega) | simp) _) | (with_reducible refine below_drewN ?_ _) | (with_reducible refine Below.drew ?_)))) (by unfold maxLen; omega) (by omega) (Nat.zero_le _) ?_; intro v2 w5 hown2 hgrow2 hat2; obtain ⟨V2, q2, rfl⟩ := owns_form hown2; have hB2 : Below w3.heap.size w3 w5 := Below.trans (by repeat (first | with_reducible assumption | with_reducible exact Below.refl _ _ | (with_reducible refine Below.alloc ?_ (by first | omega | (simp <;> omega) | simp) _) | (with_reducible refine Below.setCell ?_ (by first | omega | (simp <;> omega) | simp) _) | (with_reducible refine below_drewN ?_ _) | (with_reducible refine Below.drew ?_))) (grown_below2 hgrow2 (by simp; try omega) (fun b hb => by simp [Value.ownBlock] at hb; omega)); have hs2 := hB2.size; have k0 := keep_cell hB2 b0; have k1 := keep_cell hB2 b1; have k2 := keep_cell hB2 p0; have k3 := keep_cell hB2 p1; (try (have bq := hgrow2.block (w3.heap.size); simp [hx0, hx1, hx2, hx3, hx4, hx5, hx6, hx7, Array.getElem?_push, Array.getElem_push, Value.ownBlock] at bq; have bq' : w5.heap[w3.heap.size]? = some (.cells #[.int .i64 0, .int .i64 0, .slice none 0 0, .slice none 0 0] 48 (0, 0)) := bq; have tqb00 : w5.cell? ⟨w3.heap.size, 0, none⟩ = some (.int .i64 0) := cell_of_row w5 _ 0 _ _ _ bq'; have fqb00 : w5.frozen? ⟨w3.heap.size, 0, none⟩ = false := row_frozen bq'; have tqb01 : w5.cell? ⟨w3.heap.size, 1, none⟩ = some (.int .i64 0) := cell_of_row w5 _ 1 _ _ _ bq'; have fqb01 : w5.frozen? ⟨w3.heap.size, 1, none⟩ = false := row_frozen bq'; have tqb02 : w5.cell? ⟨w3.heap.size, 2, none⟩ = some (.slice none 0 0) := cell_of_row w5 _ 2 _ _ _ bq'; have fqb02 : w5.frozen? ⟨w3.heap.size, 2, none⟩ = false := row_frozen bq'; have tqb03 : w5.cell? ⟨w3.heap.size, 3, none⟩ = some (.slice none 0 0) := cell_of_row w5 _ 3 _ _ _ bq'; have fqb03 : w5.frozen? ⟨w3.heap.size, 3, none⟩ = false := row_frozen bq'; have Bq0 := Lib.hid bq'; clear bq bq')); (try (have bq := hgrow2.block (w3.heap.size + 1); simp [hx0, hx1, hx2, hx3, hx4, hx5, hx6, hx7, Array.getElem?_push, Array.getElem_push, Value.ownBlock] at bq; have bq' : w5.heap[w3.heap.size + 1]? = some (.cells #[.int .i64 0, .int .i64 0, .slice none 0 0, .slice none 0 0] 48 (0, 0)) := bq; have tqb10 : w5.cell? ⟨w3.heap.size + 1, 0, none⟩ = some (.int .i64 0) := cell_of_row w5 _ 0 _ _ _ bq'; have fqb10 : w5.frozen? ⟨w3.heap.size + 1, 0, none⟩ = false := row_frozen bq'; have tqb11 : w5.cell? ⟨w3.heap.size + 1, 1, none⟩ = some (.int .i64 0) := cell_of_row w5 _ 1 _ _ _ bq'; have fqb11 : w5.frozen? ⟨w3.heap.size + 1, 1, none⟩ = false := row_frozen bq'; have tqb12 : w5.cell? ⟨w3.heap.size + 1, 2, none⟩ = some (.slice none 0 0) := cell_of_row w5 _ 2 _ _ _ bq'; have fqb12 : w5.frozen? ⟨w3.heap.size + 1, 2, none⟩ = false := row_frozen bq'; have tqb13 : w5.cell? ⟨w3.heap.size + 1, 3, none⟩ = some (.slice none 0 0) := cell_of_row w5 _ 3 _ _ _ bq'; have fqb13 : w5.frozen? ⟨w3.heap.size + 1, 3, none⟩ = false := row_frozen bq'; have Bq1 := Lib.hid bq'; clear bq bq')); replace hown2 := Lib.hid hown2; clear hgrow2 hat2)))
      all_goals (go_wp2_with fail; go_meet)
      all_goals
        have ho2 : w5.ownsRow 0 9 1 (.slice V2 m1 q2) m1 ((ns0 ++ ns1).map Value.string) := by
          have h := hown2.out
          rw [List.eq_nil_of_length_eq_zero Hm0.out]; simpa using h
        have hS : StrsAt w5 (.slice V2 m1 q2) (ns0 ++ ns1) := strs_own (by simp [List.length_append, Hm0.out, Hm1.out]) (strs_sz HZ0.out HZ1.out) ho2
        clear hown2 ho2
        first
          | (have q := Bq0.out; exact joined_set q hB2 (Nat.le_refl _) hS)
          | (have q := Bq1.out; exact joined_set q hB2 (Nat.le_succ _) hS)
          | (have q := Bq2.out; exact joined_set q hB2 (Nat.le_succ_of_le (Nat.le_succ _)) hS)
          | (refine ⟨w5.heap.size, _, rfl, new_cell w5 _ 48 0 rfl, new_cell w5 _ 48 1 rfl, new_cell w5 _ 48 2 rfl, new_cell w5 _ 48 3 rfl, strs_below (below_alloc w5 _) hS, bchain hB2 hB2.size (below_alloc w5 _)⟩)
    · obtain ⟨pg, po, rfl, hpc⟩ := HS0.out.2.1 (by omega)
      have HS0c := Lib.hid (show ∀ W, Below w3.heap.size w3 W → ∀ (j : Nat) u, (ns0.map Value.string)[j]? = some u → W.cell? ⟨pg, po + j, none⟩ = some u from fun W hb j u hu => keep_cell hb (hpc j u hu))
      clear hpc
      go_region_held3 (fun w' => w'.cell? ⟨w.heap.size, 0, none⟩ = some (.int .i64 k) ∧ w'.cell? ⟨w.heap.size, 1, none⟩ = some (.int .i64 a) ∧ w'.cell? ⟨w.heap.size + 1, 0, none⟩ = some (.slice (some ⟨pg, po, none⟩) m0 e0) ∧ w'.cell? ⟨w.heap.size + 1, 1, none⟩ = some (.slice P1 m1 e1))
        ((refine ⟨?_, ?_, ?_, ?_⟩ <;> first | with_reducible assumption | (refine keep_cell (W := w3) (by repeat (first | with_reducible assumption | with_reducible exact Below.refl _ _ | (with_reducible refine Below.alloc ?_ (by first | omega | (simp <;> omega) | simp) _) | (with_reducible refine Below.setCell ?_ (by first | omega | (simp <;> omega) | simp) _) | (with_reducible refine below_drewN ?_ _) | (with_reducible refine Below.drew ?_))) ?_; assumption))) (first | ((refine step_append_fresh _ (by rfl) (Operand.tmp 54) (Operand.tmp 56) _ (by rfl) 9 i9 _ 1 16 Try.underlying45 hi9 hz9 hs9 hb9 rfl _ (by rfl) ⟨pg, po, none⟩ m0 e0 (ns0.map Value.string) (by rfl) (HS0.out.1) (fun j u hu => by rw [addr_add']; exact HS0c.out _ (by repeat (first | with_reducible assumption | with_reducible exact Below.refl _ _ | (with_reducible refine Below.alloc ?_ (by first | omega | (simp <;> omega) | simp) _) | (with_reducible refine Below.setCell ?_ (by first | omega | (simp <;> omega) | simp) _) | (with_reducible refine below_drewN ?_ _) | (with_reducible refine Below.drew ?_))) j u hu) (by omega) (by unfold maxLen; omega) (by omega) _ rfl ?_; intro cap1 cs1 hcs1 htk1 hle1 hcp1)) | ((refine step_append_src _ (by rfl) (Operand.tmp 57) (Operand.tmp 59) _ (by rfl) 0 9 i9 _ 1 16 Try.underlying45 hi9 hz9 hs9 hb9 rfl (by decide) (.slice (some ⟨_, 0, none⟩) m0 cap1) m0 (ns0.map Value.string) (by rfl) (owns_block (by simp [hx0, hx1, hx2, Array.getElem?_push, Array.getElem_push]) (by rw [hcs1]) htk1 (by simp [Hm0.out]) hle1 hcp1) P1 m1 e1 (ns1.map Value.string) (by rfl) (HS1.out _ (by repeat (first | with_reducible assumption | with_reducible exact Below.refl _ _ | (with_reducible refine Below.alloc ?_ (by first | omega | (simp <;> omega) | simp) _) | (with_reducible refine Below.setCell ?_ (by first | omega | (simp <;> omega) | simp) _) | (with_reducible refine below_drewN ?_ _) | (with_reducible refine Below.drew ?_)))) (by unfold maxLen; omega) (by omega) (Nat.zero_le _) ?_; intro v2 w5 hown2 hgrow2 hat2; obtain ⟨V2, q2, rfl⟩ := owns_form hown2; have hB2 : Below w3.heap.size w3 w5 := Below.trans (by repeat (first | with_reducible assumption | with_reducible exact Below.refl _ _ | (with_reducible refine Below.alloc ?_ (by first | omega | (simp <;> omega) | simp) _) | (with_reducible refine Below.setCell ?_ (by first | omega | (simp <;> omega) | simp) _) | (with_reducible refine below_drewN ?_ _) | (with_reducible refine Below.drew ?_))) (grown_below2 hgrow2 (by simp; try omega) (fun b hb => by simp [Value.ownBlock] at hb; omega)); have hs2 := hB2.size; have k0 := keep_cell hB2 b0; have k1 := keep_cell hB2 b1; have k2 := keep_cell hB2 p0; have k3 := keep_cell hB2 p1; (try (have bq := hgrow2.block (w3.heap.size); simp [hx0, hx1, hx2, hx3, hx4, hx5, hx6, hx7, Array.getElem?_push, Array.getElem_push, Value.ownBlock] at bq; have bq' : w5.heap[w3.heap.size]? = some (.cells #[.int .i64 0, .int .i64 0, .slice none 0 0, .slice none 0 0] 48 (0, 0)) := bq; have tqb00 : w5.cell? ⟨w3.heap.size, 0, none⟩ = some (.int .i64 0) := cell_of_row w5 _ 0 _ _ _ bq'; have fqb00 : w5.frozen? ⟨w3.heap.size, 0, none⟩ = false := row_frozen bq'; have tqb01 : w5.cell? ⟨w3.heap.size, 1, none⟩ = some (.int .i64 0) := cell_of_row w5 _ 1 _ _ _ bq'; have fqb01 : w5.frozen? ⟨w3.heap.size, 1, none⟩ = false := row_frozen bq'; have tqb02 : w5.cell? ⟨w3.heap.size, 2, none⟩ = some (.slice none 0 0) := cell_of_row w5 _ 2 _ _ _ bq'; have fqb02 : w5.frozen? ⟨w3.heap.size, 2, none⟩ = false := row_frozen bq'; have tqb03 : w5.cell? ⟨w3.heap.size, 3, none⟩ = some (.slice none 0 0) := cell_of_row w5 _ 3 _ _ _ bq'; have fqb03 : w5.frozen? ⟨w3.heap.size, 3, none⟩ = false := row_frozen bq'; have Bq0 := Lib.hid bq'; clear bq bq')); (try (have bq := hgrow2.block (w3.heap.size + 1); simp [hx0, hx1, hx2, hx3, hx4, hx5, hx6, hx7, Array.getElem?_push, Array.getElem_push, Value.ownBlock] at bq; have bq' : w5.heap[w3.heap.size + 1]? = some (.cells #[.int .i64 0, .int .i64 0, .slice none 0 0, .slice none 0 0] 48 (0, 0)) := bq; have tqb10 : w5.cell? ⟨w3.heap.size + 1, 0, none⟩ = some (.int .i64 0) := cell_of_row w5 _ 0 _ _ _ bq'; have fqb10 : w5.frozen? ⟨w3.heap.size + 1, 0, none⟩ = false := row_frozen bq'; have tqb11 : w5.cell? ⟨w3.heap.size + 1, 1, none⟩ = some (.int .i64 0) := cell_of_row w5 _ 1 _ _ _ bq'; have fqb11 : w5.frozen? ⟨w3.heap.size + 1, 1, none⟩ = false := row_frozen bq'; have tqb12 : w5.cell? ⟨w3.heap.size + 1, 2, none⟩ = some (.slice none 0 0) := cell_of_row w5 _ 2 _ _ _ bq'; have fqb12 : w5.frozen? ⟨w3.heap.size + 1, 2, none⟩ = false := row_frozen bq'; have tqb13 : w5.cell? ⟨w3.heap.size + 1, 3, none⟩ = some (.slice none 0 0) := cell_of_row w5 _ 3 _ _ _ bq'; have fqb13 : w5.frozen? ⟨w3.heap.size + 1, 3, none⟩ = false := row_frozen bq'; have Bq1 := Lib.hid bq'; clear bq bq')); (try (have bq := hgrow2.block (w3.heap.size + 1 + 1); simp [hx0, hx1, hx2, hx3, hx4, hx5, hx6, hx7, Array.getElem?_push, Array.getElem_push, Value.ownBlock] at bq; have bq' : w5.heap[w3.heap.size + 1 + 1]? = some (.cells #[.int .i64 0, .int .i64 0, .slice none 0 0, .slice none 0 0] 48 (0, 0)) := bq; have tqb20 : w5.cell? ⟨w3.heap.size + 1 + 1, 0, none⟩ = some (.int .i64 0) := cell_of_row w5 _ 0 _ _ _ bq'; have fqb20 : w5.frozen? ⟨w3.heap.size + 1 + 1, 0, none⟩ = false := row_frozen bq'; have tqb21 : w5.cell? ⟨w3.heap.size + 1 + 1, 1, none⟩ = some (.int .i64 0) := cell_of_row w5 _ 1 _ _ _ bq'; have fqb21 : w5.frozen? ⟨w3.heap.size + 1 + 1, 1, none⟩ = false := row_frozen bq'; have tqb22 : w5.cell? ⟨w3.heap.size + 1 + 1, 2, none⟩ = some (.slice none 0 0) := cell_of_row w5 _ 2 _ _ _ bq'; have fqb22 : w5.frozen? ⟨w3.heap.size + 1 + 1, 2, none⟩ = false := row_frozen bq'; have tqb23 : w5.cell? ⟨w3.heap.size + 1 + 1, 3, none⟩ = some (.slice none 0 0) := cell_of_row w5 _ 3 _ _ _ bq'; have fqb23 : w5.frozen? ⟨w3.heap.size + 1 + 1, 3, none⟩ = false := row_frozen bq'; have Bq2 := Lib.hid bq'; clear bq bq')); replace hown2 := Lib.hid hown2; clear hgrow2 hat2)))
      all_goals (go_wp2_with fail; go_meet)
      all_goals
        have ho2 : w5.ownsRow 0 9 1 (.slice V2 (m0 + m1) q2) (m0 + m1) ((ns0 ++ ns1).map Value.string) := by
          have h := hown2.out
          rw [List.map_append]; exact h
        have hS : StrsAt w5 (.slice V2 (m0 + m1) q2) (ns0 ++ ns1) := strs_own (by simp [List.length_append, Hm0.out, Hm1.out]) (strs_sz HZ0.out HZ1.out) ho2
        clear hown2 ho2
        first
          | (have q := Bq0.out; exact joined_set q hB2 (Nat.le_refl _) hS)
          | (have q := Bq1.out; exact joined_set q hB2 (Nat.le_succ _) hS)
          | (have q := Bq2.out; exact joined_set q hB2 (Nat.le_succ_of_le (Nat.le_succ _)) hS)
          | (refine ⟨w5.heap.size, _, rfl, new_cell w5 _ 48 0 rfl, new_cell w5 _ 48 1 rfl, new_cell w5 _ 48 2 rfl, new_cell w5 _ 48 3 rfl, strs_below (below_alloc w5 _) hS, bchain hB2 hB2.size (below_alloc w5 _)⟩)
  case rest =>
    obtain ⟨gb, vb, rfl, j0, j1, j2, j3, hsb, hb4⟩ := hcut
    obtain ⟨Ab, mb, cb, rfl⟩ := hsb.slice
    replace b0 := keep_cell hb4 b0
    replace b1 := keep_cell hb4 b1
    replace b2 := keep_cell hb4 b2
    replace d0 := keep_cell hb4 d0
    replace d1 := keep_cell hb4 d1
    replace d2 := keep_cell hb4 d2
    replace d3 := keep_cell hb4 d3
    replace d4 := keep_cell hb4 d4
    replace d5 := keep_cell hb4 d5
    replace d6 := keep_cell hb4 d6
    replace d7 := keep_cell hb4 d7
    replace d8 := keep_cell hb4 d8
    replace o0 := keep_cell hb4 o0
    replace o1 := keep_cell hb4 o1
    replace o2 := keep_cell hb4 o2
    replace o3 := keep_cell hb4 o3
    replace t0 := keep_cell hb4 t0
    replace t1 := keep_cell hb4 t1
    replace t2 := keep_cell hb4 t2
    replace t3 := keep_cell hb4 t3
    have lj : gb < wc.heap.size := World.block_lt_of_cell? wc _ j0
    replace lb : w.heap.size < wc.heap.size := World.block_lt_of_cell? wc _ b0
    replace ld : w.heap.size + 1 + 1 < wc.heap.size := World.block_lt_of_cell? wc _ d0
    replace lo : go < wc.heap.size := World.block_lt_of_cell? wc _ o0
    replace lt : go + 1 < wc.heap.size := World.block_lt_of_cell? wc _ t0
    have hwc := bchain hw3' hw3'.size hb4
    obtain ⟨xs, hxs, hsrc⟩ := ruls_src HL.out
    have HX := Lib.hid (show ∀ W, Below w.heap.size w W → RulCs W xs L ∧ SrcAt W 4 A0 n xs from fun W hb => ⟨hxs.below hb, hsrc.below hb⟩)
    have HB := Lib.hid (show ∀ W, Below wc.heap.size wc W → RulCs W [.int .i64 k, .int .i64 a, .slice Ab mb cb, .slice none 0 0] [⟨k, a, ns0 ++ ns1, []⟩] from fun W hb => ⟨⟨rfl, rfl, strs_below hb hsb, nil_conds W⟩, trivial⟩)
    have HT := Lib.hid (show ∀ W, Below w.heap.size w W → RulCs W [.int .i64 k, .int .i64 a, .slice P0 m0 e0, .slice none 0 0, .int .i64 k, .int .i64 a, .slice P1 m1 e1, .slice none 0 0] [⟨k, a, ns0, []⟩, ⟨k, a, ns1, []⟩] from fun W hb => ⟨⟨rfl, rfl, strs_below hb HN0.out, nil_conds W⟩, ⟨rfl, rfl, strs_below hb HN1.out, nil_conds W⟩, trivial⟩)
    clear hb4 hsb hxs hsrc HS0 HS1
    have jn : n ≤ 60 := by omega
    go_upto_region 9 with (at_builtin; refine wpList_append_src _ rfl (Operand.tmp 65) (Operand.tmp 67) _ rfl 0 48 i48 _ 4 64 Try.underlying31 hi48 hz48 hs48 hb48 rfl (by decide) (.slice (some ⟨wc.heap.size, 0, none⟩) 2 2) 2 [.int .i64 k, .int .i64 a, .slice P0 m0 e0, .slice none 0 0, .int .i64 k, .int .i64 a, .slice P1 m1 e1, .slice none 0 0] rfl (owns_full (heap_alloc_new wc _) rfl (by unfold maxLen; omega)) A0 n c0 xs rfl (HX.out _ (bchain hwc hwc.size (below_alloc wc _))).2 (by unfold maxLen; omega) (by omega) (Nat.zero_le _) ?_; intro v8 w6 hown8 hgrow8 hat8; obtain ⟨V8, q8, rfl⟩ := owns_form hown8; have hb6 : Below wc.heap.size wc w6 := Below.trans (below_alloc wc _) (grown_below2 hgrow8 (by simp) (fun b hb => by simp [Value.ownBlock] at hb; omega)); replace hown8 := Lib.hid hown8; clear hgrow8 hat8)
    have hw6 := bchain hwc hwc.size hb6
    have R8 : RulsAt w6 (.slice V8 (2 + n) q8) ([⟨k, a, ns0, []⟩, ⟨k, a, ns1, []⟩] ++ L) := ruls_own (((HT.out _ hw6)).append (HX.out _ hw6).1) (by simp [Hn.out]; omega) hown8.out
    obtain ⟨w7, hw7⟩ : ∃ w7, w6.alloc (.cells #[.int .i64 1, .int .i64 0, .slice V8 (2 + n) q8] 33) = w7 := ⟨_, rfl⟩
    have hb7 : Below w6.heap.size w6 w7 := by rw [← hw7]; exact below_alloc _ _
    have y0 : w7.cell? ⟨w6.heap.size, 0, none⟩ = some (.int .i64 1) := by rw [← hw7]; exact new_cell w6 _ 33 0 rfl
    have y1 : w7.cell? ⟨w6.heap.size, 1, none⟩ = some (.int .i64 0) := by rw [← hw7]; exact new_cell w6 _ 33 1 rfl
    have y2 : w7.cell? ⟨w6.heap.size, 2, none⟩ = some (.slice V8 (2 + n) q8) := by rw [← hw7]; exact new_cell w6 _ 33 2 rfl
    rw [hw7]
    clear hw7 hown8
    obtain ⟨gy, hgy⟩ : ∃ gy, w6.heap.size = gy := ⟨_, rfl⟩
    have hb7' := bchain hb6 hb6.size hb7
    replace b0 := keep_cell hb7' b0
    replace b1 := keep_cell hb7' b1
    replace b2 := keep_cell hb7' b2
    replace d0 := keep_cell hb7' d0
    replace d1 := keep_cell hb7' d1
    replace d2 := keep_cell hb7' d2
    replace d3 := keep_cell hb7' d3
    replace d4 := keep_cell hb7' d4
    replace d5 := keep_cell hb7' d5
    replace d6 := keep_cell hb7' d6
    replace d7 := keep_cell hb7' d7
    replace d8 := keep_cell hb7' d8
    replace j0 := keep_cell hb7' j0
    replace j1 := keep_cell hb7' j1
    replace j2 := keep_cell hb7' j2
    replace j3 := keep_cell hb7' j3
    have hw7 := bchain hw6 hw6.size hb7
    replace R8 := Lib.hid (ruls_below hb7 R8)
    rw [hgy] at y0 y1 y2 ⊢
    have ly : gy < w7.heap.size := World.block_lt_of_cell? w7 _ y0
    replace lb : w.heap.size < w7.heap.size := World.block_lt_of_cell? w7 _ b0
    replace ld : w.heap.size + 1 + 1 < w7.heap.size := World.block_lt_of_cell? w7 _ d0
    replace lj : gb < w7.heap.size := World.block_lt_of_cell? w7 _ j0
    clear hgy hb6 hb7 lo lt o0 o1 o2 o3 t0 t1 t2 t3
    go_upto_region 10 with (at_builtin; refine wpList_append_src _ rfl (Operand.tmp 72) (Operand.tmp 74) _ rfl 0 48 i48 _ 4 64 Try.underlying31 hi48 hz48 hs48 hb48 rfl (by decide) (.slice (some ⟨w7.heap.size, 0, none⟩) 1 1) 1 [.int .i64 k, .int .i64 a, .slice Ab mb cb, .slice none 0 0] rfl (owns_full (heap_alloc_new w7 _) rfl (by unfold maxLen; omega)) A0 n c0 xs rfl (HX.out _ (bchain hw7 hw7.size (below_alloc w7 _))).2 (by unfold maxLen; omega) (by omega) (Nat.zero_le _) ?_; intro v9 w8 hown9 hgrow9 hat9; obtain ⟨V9, q9, rfl⟩ := owns_form hown9; have hb8 : Below w7.heap.size w7 w8 := Below.trans (below_alloc w7 _) (grown_below2 hgrow9 (by simp) (fun b hb => by simp [Value.ownBlock] at hb; omega)); replace hown9 := Lib.hid hown9; clear hgrow9 hat9)
    have hw8 := bchain hw7 hw7.size hb8
    have R9 : RulsAt w8 (.slice V9 (1 + n) q9) ([⟨k, a, ns0 ++ ns1, []⟩] ++ L) := ruls_own ((HB.out _ (bchain hb7' hb7'.size hb8)).append (HX.out _ hw8).1) (by simp [Hn.out]; omega) hown9.out
    obtain ⟨w9, hw9⟩ : ∃ w9, w8.alloc (.cells #[.int .i64 1, .int .i64 0, .slice V9 (1 + n) q9] 33) = w9 := ⟨_, rfl⟩
    have hb9 : Below w8.heap.size w8 w9 := by rw [← hw9]; exact below_alloc _ _
    have z0 : w9.cell? ⟨w8.heap.size, 0, none⟩ = some (.int .i64 1) := by rw [← hw9]; exact new_cell w8 _ 33 0 rfl
    have z1 : w9.cell? ⟨w8.heap.size, 1, none⟩ = some (.int .i64 0) := by rw [← hw9]; exact new_cell w8 _ 33 1 rfl
    have z2 : w9.cell? ⟨w8.heap.size, 2, none⟩ = some (.slice V9 (1 + n) q9) := by rw [← hw9]; exact new_cell w8 _ 33 2 rfl
    rw [hw9]
    clear hw9 hown9
    obtain ⟨gz, hgz⟩ : ∃ gz, w8.heap.size = gz := ⟨_, rfl⟩
    have hb9' := bchain hb8 hb8.size hb9
    replace d0 := keep_cell hb9' d0
    replace d1 := keep_cell hb9' d1
    replace d2 := keep_cell hb9' d2
    replace d3 := keep_cell hb9' d3
    replace d4 := keep_cell hb9' d4
    replace d5 := keep_cell hb9' d5
    replace d6 := keep_cell hb9' d6
    replace d7 := keep_cell hb9' d7
    replace d8 := keep_cell hb9' d8
    replace y0 := keep_cell hb9' y0
    replace y1 := keep_cell hb9' y1
    replace y2 := keep_cell hb9' y2
    have hw9 := bchain hw8 hw8.size hb9
    replace R8 := Lib.hid (ruls_below hb9' R8.out)
    replace R9 := Lib.hid (ruls_below hb9 R9)
    rw [hgz] at z0 z1 z2 ⊢
    have lz : gz < w9.heap.size := World.block_lt_of_cell? w9 _ z0
    replace ld : w.heap.size + 1 + 1 < w9.heap.size := World.block_lt_of_cell? w9 _ d0
    replace ly : gy < w9.heap.size := World.block_lt_of_cell? w9 _ y0
    clear hgz hb8 hb9 hb7' hb9' lb lj b0 b1 b2 j0 j1 j2 j3
    have D1 := decide_any 1 0 nr ar ip x0 x1 x2 x3 x4 x5 _ _ w9 R8.out
    have D2 := fun W hb => decide_any 1 0 nr ar ip x0 x1 x2 x3 x4 x5 _ _ W (ruls_below (w1 := W) hb R9.out)
    have hlaw := decV_two (nr := nr) (ar := ar) (x0 := x0) (x1 := x1) (x2 := x2) (x3 := x3) (x4 := x4) (x5 := x5) (k := 1) (a := 0) (q := k) (p := a) (a0 := ns0) (b0 := ns1) (L := L)
    unfold decT at D1 D2
    obtain ⟨⟨⟨r1, r2⟩, r3⟩, hr⟩ : ∃ p, decV nr ar x0 x1 x2 x3 x4 x5 1 0 ([⟨k, a, ns0, []⟩, ⟨k, a, ns1, []⟩] ++ L) = p := ⟨_, rfl⟩
    obtain ⟨⟨⟨u1, u2⟩, u3⟩, hu⟩ : ∃ p, decV nr ar x0 x1 x2 x3 x4 x5 1 0 ([⟨k, a, ns0 ++ ns1, []⟩] ++ L) = p := ⟨_, rfl⟩
    rw [hr] at D1 hlaw
    rw [hu] at D2 hlaw
    have Hlaw := Lib.hid hlaw
    clear hlaw hr hu R8 R9
    go_wp2_with fail
    refine D1.mono ?_
    rintro e w10 ⟨rfl, hb10⟩
    replace d0 := keep_cell hb10 d0
    replace d1 := keep_cell hb10 d1
    replace d2 := keep_cell hb10 d2
    replace d3 := keep_cell hb10 d3
    replace d4 := keep_cell hb10 d4
    replace d5 := keep_cell hb10 d5
    replace d6 := keep_cell hb10 d6
    replace d7 := keep_cell hb10 d7
    replace d8 := keep_cell hb10 d8
    replace z0 := keep_cell hb10 z0
    replace z1 := keep_cell hb10 z1
    replace z2 := keep_cell hb10 z2
    replace ld : w.heap.size + 1 + 1 < w10.heap.size := World.block_lt_of_cell? w10 _ d0
    replace lz : gz < w10.heap.size := World.block_lt_of_cell? w10 _ z0
    have hw10 := bchain hw9 hw9.size hb10
    clear ly y0 y1 y2 D1
    go_wp2_with fail
    refine (D2 _ (bchain hb10 hb10.size (below_alloc w10 _))).mono ?_
    rintro e w11 ⟨rfl, hb11⟩
    have g0 : w11.cell? ⟨w10.heap.size, 0, none⟩ = some (.int .i64 r1) := keep_cell hb11 (new_cell w10 _ 30 0 rfl)
    have g1 : w11.cell? ⟨w10.heap.size, 1, none⟩ = some (.int .i64 r2) := keep_cell hb11 (new_cell w10 _ 30 1 rfl)
    have lg : w10.heap.size < w11.heap.size := World.block_lt_of_cell? w11 _ g0
    have hw11 := bchain hw10 hw10.size (bchain (below_alloc w10 _) (by simp) hb11)
    clear hb10 hb11 D2 ld lz d0 d1 d2 d3 d4 d5 d6 d7 d8 z0 z1 z2
    by_cases f1 : r3 = 0
    case neg =>
      have f1' : (r3 != 0) = true := by simpa using f1
      clear f1
      go_wp2_with fail
      go_ret
      exact ⟨rfl, bchain hw11 hw11.size (below_alloc _ _)⟩
    by_cases f2 : u3 = 0
    case neg =>
      have f1' : (r3 != 0) = false := by simpa using f1
      have f2' : (u3 != 0) = true := by simpa using f2
      clear f1 f2
      go_wp2_with fail
      go_ret
      exact ⟨rfl, bchain hw11 hw11.size (below_alloc _ _)⟩
    obtain ⟨rfl, rfl⟩ : r1 = u1 ∧ r2 = u2 := by have := Hlaw.out f1 f2; simpa using this
    have f1' : (r3 != 0) = false := by simpa using f1
    have f2' : (u3 != 0) = false := by simpa using f2
    clear f1 f2 Hlaw
    go_wp2_with fail
    go_ret
    exact ⟨rfl, bchain hw11 hw11.size (below_alloc _ _)⟩
end Go.Proofs.Ytomcobmpojpdcaa
