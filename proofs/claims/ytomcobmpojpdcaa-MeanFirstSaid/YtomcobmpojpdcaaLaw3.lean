/- MeanFirst: it answers true. Conditions: the rules, the rule and the call can be read. -/
import Derived.Test.YtomcobmpojpdcaaLaw2
namespace Go.Proofs.Ytomcobmpojpdcaa
open Go.RowKit
attribute [local go_sem ↓] Go.wp_at_zero Go.wp_at_succ
set_option linter.unusedVariables false
set_option linter.unusedSimpArgs false

theorem hx8 (n : Nat) : (n + 1 + 1 + 1 = n) = False := eq_false (by omega)
theorem hx9 (n : Nat) : (n < n + 1 + 1 + 1 + 1) = True := eq_true (by omega)
theorem src_block {w : World} {g size m : Nat} {cs : Array Value} {e : TypeId} (h : w.heap[g]? = some (.cells cs e (0, 0))) (hs : cs.size = m * size) (ho : ∀ u ∈ cs.toList, u.oneCell' = true) : SrcAt w size (some ⟨g, 0, none⟩) m cs.toList :=
  ⟨by simpa using hs, fun _ => ⟨g, 0, rfl, fun j u hj => by rw [Nat.zero_add, cell_of_row w g j _ _ _ h]; simpa using hj⟩, ho⟩
theorem own_type {w : World} {base : Nat} {e t : TypeId} {size : Nat} {v : Value} {n : Nat} {xs : List Value} {g : Nat} {cs : Array Value} (h : w.ownsRow base e size v n xs) (hg : w.heap[g]? = some (.cells cs t (0, 0))) (hne : e ≠ t) : v.ownBlock ≠ some g := by
  rcases h.2 with ⟨rfl, _⟩ | ⟨g', cap, cur, rfl, _, hh, _⟩
  · simp [Value.ownBlock]
  · intro he
    have : g' = g := by simpa [Value.ownBlock] using he
    subst this
    rw [hh] at hg
    injection hg with hg
    injection hg with _ ht
    exact hne ht
def JoinedR (k a : Int) (L : List Rul) (wp : World) (s : Value) (wx : World) : Prop :=
  ∃ g v, s = .pointer (some ⟨g, 0, none⟩) ∧ wx.cell? ⟨g, 0, none⟩ = some (.int .i64 k) ∧ wx.cell? ⟨g, 1, none⟩ = some (.int .i64 a) ∧ wx.cell? ⟨g, 2, none⟩ = some v ∧ RulsAt wx v L ∧ Below wp.heap.size wp wx
theorem joinedR_set {w5 wp : World} {g n : Nat} {v : Value} {k a : Int} {L : List Rul} {xs : List Value} (h : w5.heap[g]? = some (.cells #[.int .i64 0, .int .i64 0, .slice none 0 0] 33 (0, 0)))
    (hb : Below wp.heap.size wp w5) (hg : wp.heap.size ≤ g) (hx : ∀ W, Below wp.heap.size wp W → RulCs W xs L) (hn : n = L.length) (ho : w5.ownsRow 0 48 4 v n xs) :
    JoinedR k a L wp (.pointer (some ⟨g, 0, none⟩)) (((w5.setCell ⟨g, 0, none⟩ (.int .i64 k)).setCell ⟨g, 1, none⟩ (.int .i64 a)).setCell ⟨g, 2, none⟩ v) := by
  have c : (((w5.setCell ⟨g, 0, none⟩ (.int .i64 k)).setCell ⟨g, 1, none⟩ (.int .i64 a)).setCell ⟨g, 2, none⟩ v).heap[g]? = some (.cells #[.int .i64 k, .int .i64 a, v] 33 (0, 0)) := by
    simp [World.setCell, Array.getElem?_modify, h]
  have hne := own_type ho h (by decide)
  have hb' := ((hb.setCell (p := ⟨g, 0, none⟩) hg (.int .i64 k)).setCell (p := ⟨g, 1, none⟩) hg (.int .i64 a)).setCell (p := ⟨g, 2, none⟩) hg v
  exact ⟨g, v, rfl, cell_of_row _ g 0 _ _ _ c, cell_of_row _ g 1 _ _ _ c, cell_of_row _ g 2 _ _ _ c, ruls_own (hx _ hb') hn (ownsRow_setCell_other (ownsRow_setCell_other (ownsRow_setCell_other ho hne _) hne _) hne _), hb'⟩
theorem joinedR_new {w5 wp : World} {g n : Nat} {v : Value} {k a : Int} {L : List Rul} {xs : List Value} (hg : g = w5.heap.size) (hb : Below wp.heap.size wp w5) (hx : ∀ W, Below wp.heap.size wp W → RulCs W xs L) (hn : n = L.length) (ho : w5.ownsRow 0 48 4 v n xs) :
    JoinedR k a L wp (.pointer (some ⟨g, 0, none⟩)) (w5.alloc (.cells #[.int .i64 k, .int .i64 a, v] 33)) := by
  subst hg
  have hb' := bchain hb hb.size (below_alloc w5 (.cells #[.int .i64 k, .int .i64 a, v] 33))
  exact ⟨_, v, rfl, new_cell w5 _ 33 0 rfl, new_cell w5 _ 33 1 rfl, new_cell w5 _ 33 2 rfl, ruls_own (hx _ hb') hn (ho.alloc _), hb'⟩
/-- What the rule does ahead of others, and behind them. -/
theorem decV_parts {nr ar x0 x1 x2 x3 x4 x5 k a : Int} {L : List Rul} (h : (decV nr ar x0 x1 x2 x3 x4 x5 k a L).2 = 0) : (decV nr ar x0 x1 x2 x3 x4 x5 k a L).1 = if ar = 3221225534 then decL nr x0 x1 x2 x3 x4 x5 k a L else (1, 0) := by
  unfold decV at *
  by_cases c1 : (checkV k a L).1 = 0
  · rw [if_pos c1]; split <;> rfl
  · rw [if_neg c1] at h; exact absurd h c1
theorem decL_snoc {nr x0 x1 x2 x3 x4 x5 k a : Int} {r : Rul} (hr : meetsB nr x0 x1 x2 x3 x4 x5 r = false) : ∀ L : List Rul, decL nr x0 x1 x2 x3 x4 x5 k a (L ++ [r]) = decL nr x0 x1 x2 x3 x4 x5 k a L
  | [] => by simp [decL, hr]
  | q :: L => by
    simp only [List.cons_append, decL, decL_snoc hr L]
theorem first_law {nr ar x0 x1 x2 x3 x4 x5 k a : Int} {L : List Rul} {r : Rul} (h1 : (decV nr ar x0 x1 x2 x3 x4 x5 k a L).2 = 0) (h2 : (decV nr ar x0 x1 x2 x3 x4 x5 k a (L ++ [r])).2 = 0) (h3 : (decV nr ar x0 x1 x2 x3 x4 x5 k a ([r] ++ L)).2 = 0) :
    (decide (ar = 3221225534) && meetsB nr x0 x1 x2 x3 x4 x5 r = true → (decV nr ar x0 x1 x2 x3 x4 x5 k a ([r] ++ L)).1 = (r.k, r.a)) ∧
    (¬ (decide (ar = 3221225534) && meetsB nr x0 x1 x2 x3 x4 x5 r = true) → (decV nr ar x0 x1 x2 x3 x4 x5 k a ([r] ++ L)).1 = (decV nr ar x0 x1 x2 x3 x4 x5 k a L).1 ∧ (decV nr ar x0 x1 x2 x3 x4 x5 k a (L ++ [r])).1 = (decV nr ar x0 x1 x2 x3 x4 x5 k a L).1) := by
  rw [decV_parts h1, decV_parts h2, decV_parts h3]
  by_cases har : ar = 3221225534
  · simp only [har, decide_true, Bool.true_and, if_true]
    refine ⟨fun h => ?_, fun h => ?_⟩
    · have h' : meetsB nr x0 x1 x2 x3 x4 x5 r = true := by simpa using h
      simp [decL, h']
    · have h' : meetsB nr x0 x1 x2 x3 x4 x5 r = false := by simpa using h
      exact ⟨by simp [decL, h'], decL_snoc h' L⟩
  · simp [har]

set_option maxRecDepth 100000 in
set_option maxHeartbeats 80000000 in
theorem law_first (k a rk ra nr ar ip x0 x1 x2 x3 x4 x5 : Int) (lv nv cv : Value) (L : List Rul) (ns : List ByteArray) (cn : List Cnd) (w : World) (hL : RulsAt w lv L) (hn0 : StrsAt w nv ns) (hc0 : CndsAt w cv cn) :
    Calls Try.prog 6 #[.agg #[.int .i64 k, .int .i64 a, lv], .agg #[.int .i64 rk, .int .i64 ra, nv, cv], .agg #[.int .u32 nr, .int .u32 ar, .int .u64 ip, .int .u64 x0, .int .u64 x1, .int .u64 x2, .int .u64 x3, .int .u64 x4, .int .u64 x5]] w (Ret (.bool true) w) := by
  have A := awake_any
  have ae := fun (W : World) => act_eq W
  have ag := act_guard
  have R := fun w1 hb => light_any k a lv L w1 (ruls_below (w := w) (w1 := w1) hb hL)
  obtain ⟨y, hy⟩ : ∃ y, lightB L = y := ⟨_, rfl⟩
  rw [hy] at R
  obtain ⟨A0, c0, rfl⟩ := hL.form
  obtain ⟨P0, e0, rfl⟩ := hn0.form
  obtain ⟨P1, e1, rfl⟩ := hc0.form
  obtain ⟨n, hn⟩ : ∃ n, L.length = n := ⟨_, rfl⟩
  obtain ⟨m0, hm0⟩ : ∃ n, ns.length = n := ⟨_, rfl⟩
  obtain ⟨m1, hm1⟩ : ∃ n, cn.length = n := ⟨_, rfl⟩
  rw [hn] at hL R ⊢
  rw [hm0] at hn0 ⊢
  rw [hm1] at hc0 ⊢
  have HL := Lib.hid hL
  have HN0 := Lib.hid hn0
  have HC0 := Lib.hid hc0
  have Hn := Lib.hid hn
  have Hm0 := Lib.hid hm0
  have Hm1 := Lib.hid hm1
  clear hL hn0 hc0 hn hm0 hm1 hy
  obtain ⟨i48, hi48, hz48, hs48, hb48⟩ := info_parts info48
  have hbox0 := below_alloc w (.cells #[.int .i64 k, .int .i64 a, .slice A0 n c0] 33)
  have hbox1 := bchain hbox0 hbox0.size (below_alloc _ (.cells #[.int .i64 rk, .int .i64 ra, .slice P0 m0 e0, .slice P1 m1 e1] 48))
  have hbox := bchain hbox1 hbox1.size (below_alloc _ (.cells #[.int .u32 nr, .int .u32 ar, .int .u64 ip, .int .u64 x0, .int .u64 x1, .int .u64 x2, .int .u64 x3, .int .u64 x4, .int .u64 x5] 41))
  clear hbox0 hbox1
  go_enter Try.func6, Try.ntmps6
  go_wp2_with fail
  refine (A _).mono ?_
  rintro e w1 ⟨rfl, hb1⟩
  have b0 : w1.cell? ⟨w.heap.size, 0, none⟩ = some (.int .i64 k) := keep_cell hb1 (box3_1 _ _ _ _ _ _ _ 0 _ rfl)
  have b1 : w1.cell? ⟨w.heap.size, 1, none⟩ = some (.int .i64 a) := keep_cell hb1 (box3_1 _ _ _ _ _ _ _ 1 _ rfl)
  have b2 : w1.cell? ⟨w.heap.size, 2, none⟩ = some (.slice A0 n c0) := keep_cell hb1 (box3_1 _ _ _ _ _ _ _ 2 _ rfl)
  have lb : w.heap.size < w1.heap.size := World.block_lt_of_cell? w1 _ b0
  have p0 : w1.cell? ⟨w.heap.size + 1, 0, none⟩ = some (.int .i64 rk) := keep_cell hb1 (box3_2 _ _ _ _ _ _ _ 0 _ rfl)
  have p1 : w1.cell? ⟨w.heap.size + 1, 1, none⟩ = some (.int .i64 ra) := keep_cell hb1 (box3_2 _ _ _ _ _ _ _ 1 _ rfl)
  have p2 : w1.cell? ⟨w.heap.size + 1, 2, none⟩ = some (.slice P0 m0 e0) := keep_cell hb1 (box3_2 _ _ _ _ _ _ _ 2 _ rfl)
  have p3 : w1.cell? ⟨w.heap.size + 1, 3, none⟩ = some (.slice P1 m1 e1) := keep_cell hb1 (box3_2 _ _ _ _ _ _ _ 3 _ rfl)
  have lp : w.heap.size + 1 < w1.heap.size := World.block_lt_of_cell? w1 _ p0
  have d0 : w1.cell? ⟨w.heap.size + 1 + 1, 0, none⟩ = some (.int .u32 nr) := keep_cell hb1 (box3_3 _ _ _ _ _ _ _ 0 _ rfl)
  have d1 : w1.cell? ⟨w.heap.size + 1 + 1, 1, none⟩ = some (.int .u32 ar) := keep_cell hb1 (box3_3 _ _ _ _ _ _ _ 1 _ rfl)
  have d2 : w1.cell? ⟨w.heap.size + 1 + 1, 2, none⟩ = some (.int .u64 ip) := keep_cell hb1 (box3_3 _ _ _ _ _ _ _ 2 _ rfl)
  have d3 : w1.cell? ⟨w.heap.size + 1 + 1, 3, none⟩ = some (.int .u64 x0) := keep_cell hb1 (box3_3 _ _ _ _ _ _ _ 3 _ rfl)
  have d4 : w1.cell? ⟨w.heap.size + 1 + 1, 4, none⟩ = some (.int .u64 x1) := keep_cell hb1 (box3_3 _ _ _ _ _ _ _ 4 _ rfl)
  have d5 : w1.cell? ⟨w.heap.size + 1 + 1, 5, none⟩ = some (.int .u64 x2) := keep_cell hb1 (box3_3 _ _ _ _ _ _ _ 5 _ rfl)
  have d6 : w1.cell? ⟨w.heap.size + 1 + 1, 6, none⟩ = some (.int .u64 x3) := keep_cell hb1 (box3_3 _ _ _ _ _ _ _ 6 _ rfl)
  have d7 : w1.cell? ⟨w.heap.size + 1 + 1, 7, none⟩ = some (.int .u64 x4) := keep_cell hb1 (box3_3 _ _ _ _ _ _ _ 7 _ rfl)
  have d8 : w1.cell? ⟨w.heap.size + 1 + 1, 8, none⟩ = some (.int .u64 x5) := keep_cell hb1 (box3_3 _ _ _ _ _ _ _ 8 _ rfl)
  have ld : w.heap.size + 1 + 1 < w1.heap.size := World.block_lt_of_cell? w1 _ d0
  have hw1 := bchain hbox hbox.size hb1
  clear hb1 hbox A
  go_wp2_with fail
  refine (R _ hw1).mono ?_
  rintro e w2 ⟨rfl, hb2⟩
  replace b0 : w2.cell? ⟨w.heap.size, 0, none⟩ = some (.int .i64 k) := keep_cell hb2 b0
  replace b1 : w2.cell? ⟨w.heap.size, 1, none⟩ = some (.int .i64 a) := keep_cell hb2 b1
  replace b2 : w2.cell? ⟨w.heap.size, 2, none⟩ = some (.slice A0 n c0) := keep_cell hb2 b2
  replace lb : w.heap.size < w2.heap.size := World.block_lt_of_cell? w2 _ b0
  replace p0 : w2.cell? ⟨w.heap.size + 1, 0, none⟩ = some (.int .i64 rk) := keep_cell hb2 p0
  replace p1 : w2.cell? ⟨w.heap.size + 1, 1, none⟩ = some (.int .i64 ra) := keep_cell hb2 p1
  replace p2 : w2.cell? ⟨w.heap.size + 1, 2, none⟩ = some (.slice P0 m0 e0) := keep_cell hb2 p2
  replace p3 : w2.cell? ⟨w.heap.size + 1, 3, none⟩ = some (.slice P1 m1 e1) := keep_cell hb2 p3
  replace lp : w.heap.size + 1 < w2.heap.size := World.block_lt_of_cell? w2 _ p0
  replace d0 : w2.cell? ⟨w.heap.size + 1 + 1, 0, none⟩ = some (.int .u32 nr) := keep_cell hb2 d0
  replace d1 : w2.cell? ⟨w.heap.size + 1 + 1, 1, none⟩ = some (.int .u32 ar) := keep_cell hb2 d1
  replace d2 : w2.cell? ⟨w.heap.size + 1 + 1, 2, none⟩ = some (.int .u64 ip) := keep_cell hb2 d2
  replace d3 : w2.cell? ⟨w.heap.size + 1 + 1, 3, none⟩ = some (.int .u64 x0) := keep_cell hb2 d3
  replace d4 : w2.cell? ⟨w.heap.size + 1 + 1, 4, none⟩ = some (.int .u64 x1) := keep_cell hb2 d4
  replace d5 : w2.cell? ⟨w.heap.size + 1 + 1, 5, none⟩ = some (.int .u64 x2) := keep_cell hb2 d5
  replace d6 : w2.cell? ⟨w.heap.size + 1 + 1, 6, none⟩ = some (.int .u64 x3) := keep_cell hb2 d6
  replace d7 : w2.cell? ⟨w.heap.size + 1 + 1, 7, none⟩ = some (.int .u64 x4) := keep_cell hb2 d7
  replace d8 : w2.cell? ⟨w.heap.size + 1 + 1, 8, none⟩ = some (.int .u64 x5) := keep_cell hb2 d8
  replace ld : w.heap.size + 1 + 1 < w2.heap.size := World.block_lt_of_cell? w2 _ d0
  have hw2 := bchain hw1 hw1.size hb2
  clear hb2 R
  cases y with
  | false =>
    go_wp2_with fail
    go_ret
    exact ⟨rfl, hw2⟩
  | true =>
  by_cases qn : (62 : Int) < n
  · have dq : decide ((62 : Int) < n) = true := by simpa using qn
    go_wp2_with fail
    go_ret
    exact ⟨rfl, hw2⟩
  have dqn : decide ((62 : Int) < n) = false := by simpa using qn
  by_cases qm0 : (40 : Int) < m0
  · have dq : decide ((40 : Int) < m0) = true := by simpa using qm0
    go_wp2_with fail
    go_ret
    exact ⟨rfl, hw2⟩
  have dqm0 : decide ((40 : Int) < m0) = false := by simpa using qm0
  by_cases qm1 : (40 : Int) < m1
  · have dq : decide ((40 : Int) < m1) = true := by simpa using qm1
    go_wp2_with fail
    go_ret
    exact ⟨rfl, hw2⟩
  have dqm1 : decide ((40 : Int) < m1) = false := by simpa using qm1
  have jn : n ≤ 62 := by omega
  -- show.Right of the rule alone
  have hrow := new_cell w2 #[.int .i64 rk, .int .i64 ra, .slice P0 m0 e0, .slice P1 m1 e1] 48
  have one : RulsAt (w2.alloc (.cells #[.int .i64 rk, .int .i64 ra, .slice P0 m0 e0, .slice P1 m1 e1] 48)) (.slice (some ⟨w2.heap.size, 0, none⟩) 1 1) [⟨rk, ra, ns, cn⟩] := by
    refine ⟨_, _, rfl, by simp, fun _ => ⟨_, _, rfl, fun i x hx => ?_⟩⟩
    match i, hx with
    | 0, hx =>
      cases hx
      exact ⟨_, _, hrow 0 rfl, hrow 1 rfl, hrow 2 rfl, hrow 3 rfl, strs_below (bchain hw2 hw2.size (below_alloc _ _)) HN0.out, cnds_below (bchain hw2 hw2.size (below_alloc _ _)) HC0.out⟩
  have RR := rules_any k a _ _ _ one
  obtain ⟨may, hmay⟩ : ∃ b, rulesB k a [⟨rk, ra, ns, cn⟩] = b := ⟨_, rfl⟩
  rw [hmay] at RR
  clear one hrow hmay
  have D0 := fun W hb => decide_any k a nr ar ip x0 x1 x2 x3 x4 x5 _ L W (ruls_below (w := w) (w1 := W) hb HL.out)
  unfold decT at D0
  obtain ⟨⟨⟨r1, r2⟩, r3⟩, hr⟩ : ∃ p, decV nr ar x0 x1 x2 x3 x4 x5 k a L = p := ⟨_, rfl⟩
  rw [hr] at D0
  have Hr := Lib.hid hr
  clear hr
  go_wp2_with fail
  refine RR.mono ?_
  rintro e w2a ⟨rfl, hb2a⟩
  replace hb2a := bchain (below_alloc w2 _) (by simp) hb2a
  replace b0 : w2a.cell? ⟨w.heap.size, 0, none⟩ = some (.int .i64 k) := keep_cell hb2a b0
  replace b1 : w2a.cell? ⟨w.heap.size, 1, none⟩ = some (.int .i64 a) := keep_cell hb2a b1
  replace b2 : w2a.cell? ⟨w.heap.size, 2, none⟩ = some (.slice A0 n c0) := keep_cell hb2a b2
  replace lb : w.heap.size < w2a.heap.size := World.block_lt_of_cell? w2a _ b0
  replace p0 : w2a.cell? ⟨w.heap.size + 1, 0, none⟩ = some (.int .i64 rk) := keep_cell hb2a p0
  replace p1 : w2a.cell? ⟨w.heap.size + 1, 1, none⟩ = some (.int .i64 ra) := keep_cell hb2a p1
  replace p2 : w2a.cell? ⟨w.heap.size + 1, 2, none⟩ = some (.slice P0 m0 e0) := keep_cell hb2a p2
  replace p3 : w2a.cell? ⟨w.heap.size + 1, 3, none⟩ = some (.slice P1 m1 e1) := keep_cell hb2a p3
  replace lp : w.heap.size + 1 < w2a.heap.size := World.block_lt_of_cell? w2a _ p0
  replace d0 : w2a.cell? ⟨w.heap.size + 1 + 1, 0, none⟩ = some (.int .u32 nr) := keep_cell hb2a d0
  replace d1 : w2a.cell? ⟨w.heap.size + 1 + 1, 1, none⟩ = some (.int .u32 ar) := keep_cell hb2a d1
  replace d2 : w2a.cell? ⟨w.heap.size + 1 + 1, 2, none⟩ = some (.int .u64 ip) := keep_cell hb2a d2
  replace d3 : w2a.cell? ⟨w.heap.size + 1 + 1, 3, none⟩ = some (.int .u64 x0) := keep_cell hb2a d3
  replace d4 : w2a.cell? ⟨w.heap.size + 1 + 1, 4, none⟩ = some (.int .u64 x1) := keep_cell hb2a d4
  replace d5 : w2a.cell? ⟨w.heap.size + 1 + 1, 5, none⟩ = some (.int .u64 x2) := keep_cell hb2a d5
  replace d6 : w2a.cell? ⟨w.heap.size + 1 + 1, 6, none⟩ = some (.int .u64 x3) := keep_cell hb2a d6
  replace d7 : w2a.cell? ⟨w.heap.size + 1 + 1, 7, none⟩ = some (.int .u64 x4) := keep_cell hb2a d7
  replace d8 : w2a.cell? ⟨w.heap.size + 1 + 1, 8, none⟩ = some (.int .u64 x5) := keep_cell hb2a d8
  replace ld : w.heap.size + 1 + 1 < w2a.heap.size := World.block_lt_of_cell? w2a _ d0
  have hw2a := bchain hw2 hw2.size hb2a
  clear hb2a RR
  go_wp2_with fail
  refine (D0 _ hw2a).mono ?_
  rintro e w2b ⟨rfl, hb2b⟩
  replace b0 : w2b.cell? ⟨w.heap.size, 0, none⟩ = some (.int .i64 k) := keep_cell hb2b b0
  replace b1 : w2b.cell? ⟨w.heap.size, 1, none⟩ = some (.int .i64 a) := keep_cell hb2b b1
  replace b2 : w2b.cell? ⟨w.heap.size, 2, none⟩ = some (.slice A0 n c0) := keep_cell hb2b b2
  replace lb : w.heap.size < w2b.heap.size := World.block_lt_of_cell? w2b _ b0
  replace p0 : w2b.cell? ⟨w.heap.size + 1, 0, none⟩ = some (.int .i64 rk) := keep_cell hb2b p0
  replace p1 : w2b.cell? ⟨w.heap.size + 1, 1, none⟩ = some (.int .i64 ra) := keep_cell hb2b p1
  replace p2 : w2b.cell? ⟨w.heap.size + 1, 2, none⟩ = some (.slice P0 m0 e0) := keep_cell hb2b p2
  replace p3 : w2b.cell? ⟨w.heap.size + 1, 3, none⟩ = some (.slice P1 m1 e1) := keep_cell hb2b p3
  replace lp : w.heap.size + 1 < w2b.heap.size := World.block_lt_of_cell? w2b _ p0
  replace d0 : w2b.cell? ⟨w.heap.size + 1 + 1, 0, none⟩ = some (.int .u32 nr) := keep_cell hb2b d0
  replace d1 : w2b.cell? ⟨w.heap.size + 1 + 1, 1, none⟩ = some (.int .u32 ar) := keep_cell hb2b d1
  replace d2 : w2b.cell? ⟨w.heap.size + 1 + 1, 2, none⟩ = some (.int .u64 ip) := keep_cell hb2b d2
  replace d3 : w2b.cell? ⟨w.heap.size + 1 + 1, 3, none⟩ = some (.int .u64 x0) := keep_cell hb2b d3
  replace d4 : w2b.cell? ⟨w.heap.size + 1 + 1, 4, none⟩ = some (.int .u64 x1) := keep_cell hb2b d4
  replace d5 : w2b.cell? ⟨w.heap.size + 1 + 1, 5, none⟩ = some (.int .u64 x2) := keep_cell hb2b d5
  replace d6 : w2b.cell? ⟨w.heap.size + 1 + 1, 6, none⟩ = some (.int .u64 x3) := keep_cell hb2b d6
  replace d7 : w2b.cell? ⟨w.heap.size + 1 + 1, 7, none⟩ = some (.int .u64 x4) := keep_cell hb2b d7
  replace d8 : w2b.cell? ⟨w.heap.size + 1 + 1, 8, none⟩ = some (.int .u64 x5) := keep_cell hb2b d8
  replace ld : w.heap.size + 1 + 1 < w2b.heap.size := World.block_lt_of_cell? w2b _ d0
  have hw2b := bchain hw2a hw2a.size hb2b
  clear hb2b D0
  go_upto_region 7 with (fail)
  obtain ⟨w3, hw3⟩ : ∃ w3, w2b.alloc (.cells #[.int .i64 r1, .int .i64 r2] 30) = w3 := ⟨_, rfl⟩
  rw [hw3]
  have hb3 : Below w2b.heap.size w2b w3 := by rw [← hw3]; exact below_alloc _ _
  have u0 : w3.cell? ⟨w2b.heap.size, 0, none⟩ = some (.int .i64 r1) := by rw [← hw3]; exact new_cell w2b _ 30 0 rfl
  have u1 : w3.cell? ⟨w2b.heap.size, 1, none⟩ = some (.int .i64 r2) := by rw [← hw3]; exact new_cell w2b _ 30 1 rfl
  replace b0 : w3.cell? ⟨w.heap.size, 0, none⟩ = some (.int .i64 k) := keep_cell hb3 b0
  replace b1 : w3.cell? ⟨w.heap.size, 1, none⟩ = some (.int .i64 a) := keep_cell hb3 b1
  replace b2 : w3.cell? ⟨w.heap.size, 2, none⟩ = some (.slice A0 n c0) := keep_cell hb3 b2
  replace lb : w.heap.size < w3.heap.size := World.block_lt_of_cell? w3 _ b0
  replace p0 : w3.cell? ⟨w.heap.size + 1, 0, none⟩ = some (.int .i64 rk) := keep_cell hb3 p0
  replace p1 : w3.cell? ⟨w.heap.size + 1, 1, none⟩ = some (.int .i64 ra) := keep_cell hb3 p1
  replace p2 : w3.cell? ⟨w.heap.size + 1, 2, none⟩ = some (.slice P0 m0 e0) := keep_cell hb3 p2
  replace p3 : w3.cell? ⟨w.heap.size + 1, 3, none⟩ = some (.slice P1 m1 e1) := keep_cell hb3 p3
  replace lp : w.heap.size + 1 < w3.heap.size := World.block_lt_of_cell? w3 _ p0
  replace d0 : w3.cell? ⟨w.heap.size + 1 + 1, 0, none⟩ = some (.int .u32 nr) := keep_cell hb3 d0
  replace d1 : w3.cell? ⟨w.heap.size + 1 + 1, 1, none⟩ = some (.int .u32 ar) := keep_cell hb3 d1
  replace d2 : w3.cell? ⟨w.heap.size + 1 + 1, 2, none⟩ = some (.int .u64 ip) := keep_cell hb3 d2
  replace d3 : w3.cell? ⟨w.heap.size + 1 + 1, 3, none⟩ = some (.int .u64 x0) := keep_cell hb3 d3
  replace d4 : w3.cell? ⟨w.heap.size + 1 + 1, 4, none⟩ = some (.int .u64 x1) := keep_cell hb3 d4
  replace d5 : w3.cell? ⟨w.heap.size + 1 + 1, 5, none⟩ = some (.int .u64 x2) := keep_cell hb3 d5
  replace d6 : w3.cell? ⟨w.heap.size + 1 + 1, 6, none⟩ = some (.int .u64 x3) := keep_cell hb3 d6
  replace d7 : w3.cell? ⟨w.heap.size + 1 + 1, 7, none⟩ = some (.int .u64 x4) := keep_cell hb3 d7
  replace d8 : w3.cell? ⟨w.heap.size + 1 + 1, 8, none⟩ = some (.int .u64 x5) := keep_cell hb3 d8
  replace ld : w.heap.size + 1 + 1 < w3.heap.size := World.block_lt_of_cell? w3 _ d0
  obtain ⟨gu, hgu⟩ : ∃ gu, w2b.heap.size = gu := ⟨_, rfl⟩
  rw [hgu] at u0 u1 ⊢
  have lu : gu < w3.heap.size := World.block_lt_of_cell? w3 _ u0
  have hw3' := bchain hw2b hw2b.size hb3
  clear hw3 hgu hb3
  obtain ⟨xs, hxs, hsrc⟩ := ruls_src HL.out
  have HX := Lib.hid (show ∀ W, Below w.heap.size w W → RulCs W xs L ∧ SrcAt W 4 A0 n xs from fun W hb => ⟨hxs.below hb, hsrc.below hb⟩)
  have HO := Lib.hid (show ∀ W, Below w.heap.size w W → RulCs W [.int .i64 rk, .int .i64 ra, .slice P0 m0 e0, .slice P1 m1 e1] [⟨rk, ra, ns, cn⟩] from fun W hb => ⟨⟨rfl, rfl, strs_below hb HN0.out, cnds_below hb HC0.out⟩, trivial⟩)
  have HSx := Lib.hid hsrc
  clear hxs hsrc
  go_cut [12] (fun s wx => JoinedR k a (L ++ [⟨rk, ra, ns, cn⟩]) w3 s wx)
  case first =>
    have HXs := Lib.hid (show ∀ W, Below w3.heap.size w3 W → RulCs W (xs ++ [.int .i64 rk, .int .i64 ra, .slice P0 m0 e0, .slice P1 m1 e1]) (L ++ [⟨rk, ra, ns, cn⟩]) from fun W hb => (HX.out _ (bchain hw3' hw3'.size hb)).1.append (HO.out _ (bchain hw3' hw3'.size hb)))
    by_cases z0 : n = 0
    · as_aux_lemma =>
      subst z0
      have hxn : xs = [] := List.eq_nil_of_length_eq_zero (by simpa using HSx.out.1)
      subst hxn
      have HXn := Lib.hid (show 1 = (L ++ [(⟨rk, ra, ns, cn⟩ : Rul)]).length by simp [Hn.out])
      go_region_held3 (fun w' => w'.cell? ⟨w.heap.size, 0, none⟩ = some (.int .i64 k) ∧ w'.cell? ⟨w.heap.size, 1, none⟩ = some (.int .i64 a) ∧ w'.cell? ⟨w.heap.size, 2, none⟩ = some (.slice A0 0 c0) ∧ w'.cell? ⟨w.heap.size + 1, 0, none⟩ = some (.int .i64 rk) ∧ w'.cell? ⟨w.heap.size + 1, 1, none⟩ = some (.int .i64 ra) ∧ w'.cell? ⟨w.heap.size + 1, 2, none⟩ = some (.slice P0 m0 e0) ∧ w'.cell? ⟨w.heap.size + 1, 3, none⟩ = some (.slice P1 m1 e1))
        ((refine ⟨?_, ?_, ?_, ?_, ?_, ?_, ?_⟩ <;> first | with_reducible assumption | (refine keep_cell (W := w3) (by repeat (first | with_reducible assumption | with_reducible exact Below.refl _ _ | (with_reducible refine Below.alloc ?_ (by first | omega | (simp <;> omega) | simp) _) | (with_reducible refine Below.setCell ?_ (by first | omega | (simp <;> omega) | simp) _) | (with_reducible refine below_drewN ?_ _) | (with_reducible refine Below.drew ?_))) ?_; assumption))) (first | ((refine step_append_zero _ (by rfl) (Operand.tmp 63) (Operand.tmp 65) _ (by rfl) 48 i48 Try.underlying31 hi48 _ 0 0 (Nat.le_refl _) (by rfl) A0 c0 (by rfl) ?_)) | ((refine step_append_src _ (by rfl) (Operand.tmp 66) (Operand.tmp 68) _ (by rfl) 0 48 i48 _ 4 64 Try.underlying31 hi48 hz48 hs48 hb48 rfl (by decide) (.slice (some ⟨_, 0, none⟩) 0 0) 0 [] (by rfl) (owns_empty (by simp [hx0, hx1, hx2, hx5, hx6, hx7, hx8, Array.getElem?_push, Array.getElem_push])) (some ⟨_, 0, none⟩) 1 1 (Array.toList #[.int .i64 rk, .int .i64 ra, .slice P0 m0 e0, .slice P1 m1 e1]) (by rfl) (src_block (e := 48) (by simp [hx0, hx1, hx2, hx5, hx6, hx7, hx8, Array.getElem?_push, Array.getElem_push]) rfl (by simp [Value.oneCell'])) (by unfold maxLen; omega) (by omega) (Nat.zero_le _) ?_; intro v2 w5 hown2 hgrow2 hat2; obtain ⟨V2, q2, rfl⟩ := owns_form hown2; have hB2 : Below w3.heap.size w3 w5 := Below.trans (by repeat (first | with_reducible assumption | with_reducible exact Below.refl _ _ | (with_reducible refine Below.alloc ?_ (by first | omega | (simp <;> omega) | simp) _) | (with_reducible refine Below.setCell ?_ (by first | omega | (simp <;> omega) | simp) _) | (with_reducible refine below_drewN ?_ _) | (with_reducible refine Below.drew ?_))) (grown_below2 hgrow2 (by simp; try omega) (fun b hb => by simp [Value.ownBlock] at hb; omega)); have hs2 := hB2.size; have k0 := keep_cell hB2 b0; have k1 := keep_cell hB2 b1; have k2 := keep_cell hB2 b2; have k3 := keep_cell hB2 p0; have k4 := keep_cell hB2 p1; have k5 := keep_cell hB2 p2; have k6 := keep_cell hB2 p3; (try (have bq := hgrow2.block (w3.heap.size); simp [hx0, hx1, hx2, hx3, hx4, hx5, hx6, hx7, hx8, hx9, Array.getElem?_push, Array.getElem_push, Value.ownBlock] at bq; have bq' : w5.heap[w3.heap.size]? = some (.cells #[.int .i64 0, .int .i64 0, .slice none 0 0] 33 (0, 0)) := bq; have tq00 : w5.cell? ⟨w3.heap.size, 0, none⟩ = some (.int .i64 0) := cell_of_row w5 _ 0 _ _ _ bq'; have fq00 : w5.frozen? ⟨w3.heap.size, 0, none⟩ = false := row_frozen bq'; have tq01 : w5.cell? ⟨w3.heap.size, 1, none⟩ = some (.int .i64 0) := cell_of_row w5 _ 1 _ _ _ bq'; have fq01 : w5.frozen? ⟨w3.heap.size, 1, none⟩ = false := row_frozen bq'; have tq02 : w5.cell? ⟨w3.heap.size, 2, none⟩ = some (.slice none 0 0) := cell_of_row w5 _ 2 _ _ _ bq'; have fq02 : w5.frozen? ⟨w3.heap.size, 2, none⟩ = false := row_frozen bq'; have Bq0 := Lib.hid bq'; clear bq bq')); (try (have bq := hgrow2.block (w3.heap.size + 1); simp [hx0, hx1, hx2, hx3, hx4, hx5, hx6, hx7, hx8, hx9, Array.getElem?_push, Array.getElem_push, Value.ownBlock] at bq; have bq' : w5.heap[w3.heap.size + 1]? = some (.cells #[.int .i64 0, .int .i64 0, .slice none 0 0] 33 (0, 0)) := bq; have tq10 : w5.cell? ⟨w3.heap.size + 1, 0, none⟩ = some (.int .i64 0) := cell_of_row w5 _ 0 _ _ _ bq'; have fq10 : w5.frozen? ⟨w3.heap.size + 1, 0, none⟩ = false := row_frozen bq'; have tq11 : w5.cell? ⟨w3.heap.size + 1, 1, none⟩ = some (.int .i64 0) := cell_of_row w5 _ 1 _ _ _ bq'; have fq11 : w5.frozen? ⟨w3.heap.size + 1, 1, none⟩ = false := row_frozen bq'; have tq12 : w5.cell? ⟨w3.heap.size + 1, 2, none⟩ = some (.slice none 0 0) := cell_of_row w5 _ 2 _ _ _ bq'; have fq12 : w5.frozen? ⟨w3.heap.size + 1, 2, none⟩ = false := row_frozen bq'; have Bq1 := Lib.hid bq'; clear bq bq')); (try (have bq := hgrow2.block (w3.heap.size + 1 + 1); simp [hx0, hx1, hx2, hx3, hx4, hx5, hx6, hx7, hx8, hx9, Array.getElem?_push, Array.getElem_push, Value.ownBlock] at bq; have bq' : w5.heap[w3.heap.size + 1 + 1]? = some (.cells #[.int .i64 0, .int .i64 0, .slice none 0 0] 33 (0, 0)) := bq; have tq20 : w5.cell? ⟨w3.heap.size + 1 + 1, 0, none⟩ = some (.int .i64 0) := cell_of_row w5 _ 0 _ _ _ bq'; have fq20 : w5.frozen? ⟨w3.heap.size + 1 + 1, 0, none⟩ = false := row_frozen bq'; have tq21 : w5.cell? ⟨w3.heap.size + 1 + 1, 1, none⟩ = some (.int .i64 0) := cell_of_row w5 _ 1 _ _ _ bq'; have fq21 : w5.frozen? ⟨w3.heap.size + 1 + 1, 1, none⟩ = false := row_frozen bq'; have tq22 : w5.cell? ⟨w3.heap.size + 1 + 1, 2, none⟩ = some (.slice none 0 0) := cell_of_row w5 _ 2 _ _ _ bq'; have fq22 : w5.frozen? ⟨w3.heap.size + 1 + 1, 2, none⟩ = false := row_frozen bq'; have Bq2 := Lib.hid bq'; clear bq bq')); replace hown2 := Lib.hid hown2; clear hgrow2 hat2)))
      all_goals (go_wp2_with fail; go_meet)
      all_goals
        have ho2 : w5.ownsRow 0 48 4 (.slice V2 1 q2) 1 ([] ++ [.int .i64 rk, .int .i64 ra, .slice P0 m0 e0, .slice P1 m1 e1]) := by
          have h := hown2.out
          simpa using h
        clear hown2
        first
          | (have q := Bq0.out; exact joinedR_set q hB2 (Nat.le_refl _) HXs.out HXn.out ho2)
          | (have q := Bq1.out; exact joinedR_set q hB2 (Nat.le_succ _) HXs.out HXn.out ho2)
          | (have q := Bq2.out; exact joinedR_set q hB2 (Nat.le_succ_of_le (Nat.le_succ _)) HXs.out HXn.out ho2)
          | (have q := Bq3.out; exact joinedR_set q hB2 (Nat.le_succ_of_le (Nat.le_succ_of_le (Nat.le_succ _))) HXs.out HXn.out ho2)
          | (exact joinedR_new rfl hB2 HXs.out HXn.out ho2)

    · as_aux_lemma =>
      have HXn := Lib.hid (show n + 1 = (L ++ [(⟨rk, ra, ns, cn⟩ : Rul)]).length by simp [Hn.out])
      obtain ⟨pg, po, rfl, hpc⟩ := (HX.out _ hw3').2.2.1 (by omega)
      have HSc := Lib.hid (show ∀ W, Below w3.heap.size w3 W → ∀ (j : Nat) u, xs[j]? = some u → W.cell? ⟨pg, po + j, none⟩ = some u from fun W hb j u hu => keep_cell hb (hpc j u hu))
      clear hpc
      go_region_held3 (fun w' => w'.cell? ⟨w.heap.size, 0, none⟩ = some (.int .i64 k) ∧ w'.cell? ⟨w.heap.size, 1, none⟩ = some (.int .i64 a) ∧ w'.cell? ⟨w.heap.size, 2, none⟩ = some (.slice (some ⟨pg, po, none⟩) n c0) ∧ w'.cell? ⟨w.heap.size + 1, 0, none⟩ = some (.int .i64 rk) ∧ w'.cell? ⟨w.heap.size + 1, 1, none⟩ = some (.int .i64 ra) ∧ w'.cell? ⟨w.heap.size + 1, 2, none⟩ = some (.slice P0 m0 e0) ∧ w'.cell? ⟨w.heap.size + 1, 3, none⟩ = some (.slice P1 m1 e1))
        ((refine ⟨?_, ?_, ?_, ?_, ?_, ?_, ?_⟩ <;> first | with_reducible assumption | (refine keep_cell (W := w3) (by repeat (first | with_reducible assumption | with_reducible exact Below.refl _ _ | (with_reducible refine Below.alloc ?_ (by first | omega | (simp <;> omega) | simp) _) | (with_reducible refine Below.setCell ?_ (by first | omega | (simp <;> omega) | simp) _) | (with_reducible refine below_drewN ?_ _) | (with_reducible refine Below.drew ?_))) ?_; assumption))) (first | ((refine step_append_fresh _ (by rfl) (Operand.tmp 63) (Operand.tmp 65) _ (by rfl) 48 i48 _ 4 64 Try.underlying31 hi48 hz48 hs48 hb48 rfl _ (by rfl) ⟨pg, po, none⟩ n c0 xs (by rfl) (HSx.out.1) (fun j u hu => by rw [addr_add']; exact HSc.out _ (by repeat (first | with_reducible assumption | with_reducible exact Below.refl _ _ | (with_reducible refine Below.alloc ?_ (by first | omega | (simp <;> omega) | simp) _) | (with_reducible refine Below.setCell ?_ (by first | omega | (simp <;> omega) | simp) _) | (with_reducible refine below_drewN ?_ _) | (with_reducible refine Below.drew ?_))) j u hu) (by omega) (by unfold maxLen; omega) (by omega) _ rfl ?_; intro cap1 cs1 hcs1 htk1 hle1 hcp1)) | ((refine step_append_src _ (by rfl) (Operand.tmp 66) (Operand.tmp 68) _ (by rfl) 0 48 i48 _ 4 64 Try.underlying31 hi48 hz48 hs48 hb48 rfl (by decide) (.slice (some ⟨_, 0, none⟩) n cap1) n xs (by rfl) (owns_block (by simp [hx0, hx1, hx2, hx5, hx6, hx7, hx8, Array.getElem?_push, Array.getElem_push]) hcs1 htk1 HSx.out.1 hle1 hcp1) (some ⟨_, 0, none⟩) 1 1 (Array.toList #[.int .i64 rk, .int .i64 ra, .slice P0 m0 e0, .slice P1 m1 e1]) (by rfl) (src_block (e := 48) (by simp [hx0, hx1, hx2, hx5, hx6, hx7, hx8, Array.getElem?_push, Array.getElem_push]) rfl (by simp [Value.oneCell'])) (by unfold maxLen; omega) (by omega) (Nat.zero_le _) ?_; intro v2 w5 hown2 hgrow2 hat2; obtain ⟨V2, q2, rfl⟩ := owns_form hown2; have hB2 : Below w3.heap.size w3 w5 := Below.trans (by repeat (first | with_reducible assumption | with_reducible exact Below.refl _ _ | (with_reducible refine Below.alloc ?_ (by first | omega | (simp <;> omega) | simp) _) | (with_reducible refine Below.setCell ?_ (by first | omega | (simp <;> omega) | simp) _) | (with_reducible refine below_drewN ?_ _) | (with_reducible refine Below.drew ?_))) (grown_below2 hgrow2 (by simp; try omega) (fun b hb => by simp [Value.ownBlock] at hb; omega)); have hs2 := hB2.size; have k0 := keep_cell hB2 b0; have k1 := keep_cell hB2 b1; have k2 := keep_cell hB2 b2; have k3 := keep_cell hB2 p0; have k4 := keep_cell hB2 p1; have k5 := keep_cell hB2 p2; have k6 := keep_cell hB2 p3; (try (have bq := hgrow2.block (w3.heap.size); simp [hx0, hx1, hx2, hx3, hx4, hx5, hx6, hx7, hx8, hx9, Array.getElem?_push, Array.getElem_push, Value.ownBlock] at bq; have bq' : w5.heap[w3.heap.size]? = some (.cells #[.int .i64 0, .int .i64 0, .slice none 0 0] 33 (0, 0)) := bq; have tq00 : w5.cell? ⟨w3.heap.size, 0, none⟩ = some (.int .i64 0) := cell_of_row w5 _ 0 _ _ _ bq'; have fq00 : w5.frozen? ⟨w3.heap.size, 0, none⟩ = false := row_frozen bq'; have tq01 : w5.cell? ⟨w3.heap.size, 1, none⟩ = some (.int .i64 0) := cell_of_row w5 _ 1 _ _ _ bq'; have fq01 : w5.frozen? ⟨w3.heap.size, 1, none⟩ = false := row_frozen bq'; have tq02 : w5.cell? ⟨w3.heap.size, 2, none⟩ = some (.slice none 0 0) := cell_of_row w5 _ 2 _ _ _ bq'; have fq02 : w5.frozen? ⟨w3.heap.size, 2, none⟩ = false := row_frozen bq'; have Bq0 := Lib.hid bq'; clear bq bq')); (try (have bq := hgrow2.block (w3.heap.size + 1); simp [hx0, hx1, hx2, hx3, hx4, hx5, hx6, hx7, hx8, hx9, Array.getElem?_push, Array.getElem_push, Value.ownBlock] at bq; have bq' : w5.heap[w3.heap.size + 1]? = some (.cells #[.int .i64 0, .int .i64 0, .slice none 0 0] 33 (0, 0)) := bq; have tq10 : w5.cell? ⟨w3.heap.size + 1, 0, none⟩ = some (.int .i64 0) := cell_of_row w5 _ 0 _ _ _ bq'; have fq10 : w5.frozen? ⟨w3.heap.size + 1, 0, none⟩ = false := row_frozen bq'; have tq11 : w5.cell? ⟨w3.heap.size + 1, 1, none⟩ = some (.int .i64 0) := cell_of_row w5 _ 1 _ _ _ bq'; have fq11 : w5.frozen? ⟨w3.heap.size + 1, 1, none⟩ = false := row_frozen bq'; have tq12 : w5.cell? ⟨w3.heap.size + 1, 2, none⟩ = some (.slice none 0 0) := cell_of_row w5 _ 2 _ _ _ bq'; have fq12 : w5.frozen? ⟨w3.heap.size + 1, 2, none⟩ = false := row_frozen bq'; have Bq1 := Lib.hid bq'; clear bq bq')); (try (have bq := hgrow2.block (w3.heap.size + 1 + 1); simp [hx0, hx1, hx2, hx3, hx4, hx5, hx6, hx7, hx8, hx9, Array.getElem?_push, Array.getElem_push, Value.ownBlock] at bq; have bq' : w5.heap[w3.heap.size + 1 + 1]? = some (.cells #[.int .i64 0, .int .i64 0, .slice none 0 0] 33 (0, 0)) := bq; have tq20 : w5.cell? ⟨w3.heap.size + 1 + 1, 0, none⟩ = some (.int .i64 0) := cell_of_row w5 _ 0 _ _ _ bq'; have fq20 : w5.frozen? ⟨w3.heap.size + 1 + 1, 0, none⟩ = false := row_frozen bq'; have tq21 : w5.cell? ⟨w3.heap.size + 1 + 1, 1, none⟩ = some (.int .i64 0) := cell_of_row w5 _ 1 _ _ _ bq'; have fq21 : w5.frozen? ⟨w3.heap.size + 1 + 1, 1, none⟩ = false := row_frozen bq'; have tq22 : w5.cell? ⟨w3.heap.size + 1 + 1, 2, none⟩ = some (.slice none 0 0) := cell_of_row w5 _ 2 _ _ _ bq'; have fq22 : w5.frozen? ⟨w3.heap.size + 1 + 1, 2, none⟩ = false := row_frozen bq'; have Bq2 := Lib.hid bq'; clear bq bq')); (try (have bq := hgrow2.block (w3.heap.size + 1 + 1 + 1); simp [hx0, hx1, hx2, hx3, hx4, hx5, hx6, hx7, hx8, hx9, Array.getElem?_push, Array.getElem_push, Value.ownBlock] at bq; have bq' : w5.heap[w3.heap.size + 1 + 1 + 1]? = some (.cells #[.int .i64 0, .int .i64 0, .slice none 0 0] 33 (0, 0)) := bq; have tq30 : w5.cell? ⟨w3.heap.size + 1 + 1 + 1, 0, none⟩ = some (.int .i64 0) := cell_of_row w5 _ 0 _ _ _ bq'; have fq30 : w5.frozen? ⟨w3.heap.size + 1 + 1 + 1, 0, none⟩ = false := row_frozen bq'; have tq31 : w5.cell? ⟨w3.heap.size + 1 + 1 + 1, 1, none⟩ = some (.int .i64 0) := cell_of_row w5 _ 1 _ _ _ bq'; have fq31 : w5.frozen? ⟨w3.heap.size + 1 + 1 + 1, 1, none⟩ = false := row_frozen bq'; have tq32 : w5.cell? ⟨w3.heap.size + 1 + 1 + 1, 2, none⟩ = some (.slice none 0 0) := cell_of_row w5 _ 2 _ _ _ bq'; have fq32 : w5.frozen? ⟨w3.heap.size + 1 + 1 + 1, 2, none⟩ = false := row_frozen bq'; have Bq3 := Lib.hid bq'; clear bq bq')); replace hown2 := Lib.hid hown2; clear hgrow2 hat2)))
      all_goals (go_wp2_with fail; go_meet)
      all_goals
        have ho2 : w5.ownsRow 0 48 4 (.slice V2 (n + 1) q2) (n + 1) (xs ++ [.int .i64 rk, .int .i64 ra, .slice P0 m0 e0, .slice P1 m1 e1]) := by
          have h := hown2.out
          exact h
        clear hown2
        first
          | (have q := Bq0.out; exact joinedR_set q hB2 (Nat.le_refl _) HXs.out HXn.out ho2)
          | (have q := Bq1.out; exact joinedR_set q hB2 (Nat.le_succ _) HXs.out HXn.out ho2)
          | (have q := Bq2.out; exact joinedR_set q hB2 (Nat.le_succ_of_le (Nat.le_succ _)) HXs.out HXn.out ho2)
          | (have q := Bq3.out; exact joinedR_set q hB2 (Nat.le_succ_of_le (Nat.le_succ_of_le (Nat.le_succ _))) HXs.out HXn.out ho2)
          | (exact joinedR_new rfl hB2 HXs.out HXn.out ho2)

  case rest =>
    obtain ⟨gj, vj, rfl, j0, j1, j2, hRj, hbj⟩ := hcut
    obtain ⟨wf, hwf⟩ : ∃ wf, wf = wc := ⟨_, rfl⟩
    subst hwf
    obtain ⟨Vj, mj, cj, rfl⟩ := hRj.slice
    replace b0 := keep_cell hbj b0
    replace b1 := keep_cell hbj b1
    replace b2 := keep_cell hbj b2
    replace p0 := keep_cell hbj p0
    replace p1 := keep_cell hbj p1
    replace p2 := keep_cell hbj p2
    replace p3 := keep_cell hbj p3
    replace d0 := keep_cell hbj d0
    replace d1 := keep_cell hbj d1
    replace d2 := keep_cell hbj d2
    replace d3 := keep_cell hbj d3
    replace d4 := keep_cell hbj d4
    replace d5 := keep_cell hbj d5
    replace d6 := keep_cell hbj d6
    replace d7 := keep_cell hbj d7
    replace d8 := keep_cell hbj d8
    replace u0 := keep_cell hbj u0
    replace u1 := keep_cell hbj u1
    have lj : gj < wf.heap.size := World.block_lt_of_cell? wf _ j0
    replace lb : w.heap.size < wf.heap.size := World.block_lt_of_cell? wf _ b0
    replace lp : w.heap.size + 1 < wf.heap.size := World.block_lt_of_cell? wf _ p0
    replace ld : w.heap.size + 1 + 1 < wf.heap.size := World.block_lt_of_cell? wf _ d0
    replace lu : gu < wf.heap.size := World.block_lt_of_cell? wf _ u0
    have hwf := bchain hw3' hw3'.size hbj
    have HRj := Lib.hid hRj
    clear hbj hRj hw3'
    have HSrc := Lib.hid (show ∀ W, Below wf.heap.size wf W → SrcAt W 4 A0 n xs from fun W hb => (HX.out _ (bchain hwf hwf.size hb)).2)
    have HXs := Lib.hid (show ∀ W, Below wf.heap.size wf W → RulCs W ([.int .i64 rk, .int .i64 ra, .slice P0 m0 e0, .slice P1 m1 e1] ++ xs) ([⟨rk, ra, ns, cn⟩] ++ L) from fun W hb => (HO.out _ (bchain hwf hwf.size hb)).append (HX.out _ (bchain hwf hwf.size hb)).1)
    have HXn := Lib.hid (show 1 + n = ([(⟨rk, ra, ns, cn⟩ : Rul)] ++ L).length by simp [Hn.out]; omega)
    go_upto_region 8 with (fail)
    go_cut [13] (fun s wx => JoinedR k a ([⟨rk, ra, ns, cn⟩] ++ L) wf s wx)
    case first =>
      as_aux_lemma =>
      go_region_held3 (fun w' => w'.cell? ⟨w.heap.size, 0, none⟩ = some (.int .i64 k) ∧ w'.cell? ⟨w.heap.size, 1, none⟩ = some (.int .i64 a) ∧ w'.cell? ⟨w.heap.size, 2, none⟩ = some (.slice A0 n c0) ∧ w'.cell? ⟨w.heap.size + 1, 0, none⟩ = some (.int .i64 rk) ∧ w'.cell? ⟨w.heap.size + 1, 1, none⟩ = some (.int .i64 ra) ∧ w'.cell? ⟨w.heap.size + 1, 2, none⟩ = some (.slice P0 m0 e0) ∧ w'.cell? ⟨w.heap.size + 1, 3, none⟩ = some (.slice P1 m1 e1))
        ((refine ⟨?_, ?_, ?_, ?_, ?_, ?_, ?_⟩ <;> first | with_reducible assumption | (refine keep_cell (W := wf) (by repeat (first | with_reducible assumption | with_reducible exact Below.refl _ _ | (with_reducible refine Below.alloc ?_ (by first | omega | (simp <;> omega) | simp) _) | (with_reducible refine Below.setCell ?_ (by first | omega | (simp <;> omega) | simp) _) | (with_reducible refine below_drewN ?_ _) | (with_reducible refine Below.drew ?_))) ?_; assumption))) (first | ((refine step_append_src _ (by rfl) (Operand.tmp 74) (Operand.tmp 76) _ (by rfl) 0 48 i48 _ 4 64 Try.underlying31 hi48 hz48 hs48 hb48 rfl (by decide) (.slice (some ⟨_, 0, none⟩) 1 1) 1 [.int .i64 rk, .int .i64 ra, .slice P0 m0 e0, .slice P1 m1 e1] (by rfl) (owns_full (cs := #[.int .i64 rk, .int .i64 ra, .slice P0 m0 e0, .slice P1 m1 e1]) (by simp [hx0, hx1, hx2, hx5, hx6, hx7, hx8, Array.getElem?_push, Array.getElem_push]) rfl (by unfold maxLen; omega)) A0 n c0 xs (by rfl) (HSrc.out _ (by repeat (first | with_reducible assumption | with_reducible exact Below.refl _ _ | (with_reducible refine Below.alloc ?_ (by first | omega | (simp <;> omega) | simp) _) | (with_reducible refine Below.setCell ?_ (by first | omega | (simp <;> omega) | simp) _) | (with_reducible refine below_drewN ?_ _) | (with_reducible refine Below.drew ?_)))) (by unfold maxLen; omega) (by omega) (Nat.zero_le _) ?_; intro v2 w5 hown2 hgrow2 hat2; obtain ⟨V2, q2, rfl⟩ := owns_form hown2; have hB2 : Below wf.heap.size wf w5 := Below.trans (by repeat (first | with_reducible assumption | with_reducible exact Below.refl _ _ | (with_reducible refine Below.alloc ?_ (by first | omega | (simp <;> omega) | simp) _) | (with_reducible refine Below.setCell ?_ (by first | omega | (simp <;> omega) | simp) _) | (with_reducible refine below_drewN ?_ _) | (with_reducible refine Below.drew ?_))) (grown_below2 hgrow2 (by simp; try omega) (fun b hb => by simp [Value.ownBlock] at hb; omega)); have hs2 := hB2.size; have k0 := keep_cell hB2 b0; have k1 := keep_cell hB2 b1; have k2 := keep_cell hB2 b2; have k3 := keep_cell hB2 p0; have k4 := keep_cell hB2 p1; have k5 := keep_cell hB2 p2; have k6 := keep_cell hB2 p3; (try (have bq := hgrow2.block (wf.heap.size); simp [hx0, hx1, hx2, hx3, hx4, hx5, hx6, hx7, hx8, hx9, Array.getElem?_push, Array.getElem_push, Value.ownBlock] at bq; have bq' : w5.heap[wf.heap.size]? = some (.cells #[.int .i64 0, .int .i64 0, .slice none 0 0] 33 (0, 0)) := bq; have tq00 : w5.cell? ⟨wf.heap.size, 0, none⟩ = some (.int .i64 0) := cell_of_row w5 _ 0 _ _ _ bq'; have fq00 : w5.frozen? ⟨wf.heap.size, 0, none⟩ = false := row_frozen bq'; have tq01 : w5.cell? ⟨wf.heap.size, 1, none⟩ = some (.int .i64 0) := cell_of_row w5 _ 1 _ _ _ bq'; have fq01 : w5.frozen? ⟨wf.heap.size, 1, none⟩ = false := row_frozen bq'; have tq02 : w5.cell? ⟨wf.heap.size, 2, none⟩ = some (.slice none 0 0) := cell_of_row w5 _ 2 _ _ _ bq'; have fq02 : w5.frozen? ⟨wf.heap.size, 2, none⟩ = false := row_frozen bq'; have Bq0 := Lib.hid bq'; clear bq bq')); (try (have bq := hgrow2.block (wf.heap.size + 1); simp [hx0, hx1, hx2, hx3, hx4, hx5, hx6, hx7, hx8, hx9, Array.getElem?_push, Array.getElem_push, Value.ownBlock] at bq; have bq' : w5.heap[wf.heap.size + 1]? = some (.cells #[.int .i64 0, .int .i64 0, .slice none 0 0] 33 (0, 0)) := bq; have tq10 : w5.cell? ⟨wf.heap.size + 1, 0, none⟩ = some (.int .i64 0) := cell_of_row w5 _ 0 _ _ _ bq'; have fq10 : w5.frozen? ⟨wf.heap.size + 1, 0, none⟩ = false := row_frozen bq'; have tq11 : w5.cell? ⟨wf.heap.size + 1, 1, none⟩ = some (.int .i64 0) := cell_of_row w5 _ 1 _ _ _ bq'; have fq11 : w5.frozen? ⟨wf.heap.size + 1, 1, none⟩ = false := row_frozen bq'; have tq12 : w5.cell? ⟨wf.heap.size + 1, 2, none⟩ = some (.slice none 0 0) := cell_of_row w5 _ 2 _ _ _ bq'; have fq12 : w5.frozen? ⟨wf.heap.size + 1, 2, none⟩ = false := row_frozen bq'; have Bq1 := Lib.hid bq'; clear bq bq')); replace hown2 := Lib.hid hown2; clear hgrow2 hat2)))
      all_goals (go_wp2_with fail; go_meet)
      all_goals
        have ho2 := hown2.out
        clear hown2
        first
          | (have q := Bq0.out; exact joinedR_set q hB2 (Nat.le_refl _) HXs.out HXn.out ho2)
          | (have q := Bq1.out; exact joinedR_set q hB2 (Nat.le_succ _) HXs.out HXn.out ho2)
          | (exact joinedR_new rfl hB2 HXs.out HXn.out ho2)
    case rest =>
    clear HSrc HXs HXn HX HO HSx
    obtain ⟨gz, vz, rfl, z0, z1, z2, hRz, hbz⟩ := hcut
    obtain ⟨Vz, mz, cz, rfl⟩ := hRz.slice
    replace p0 := keep_cell hbz p0
    replace p1 := keep_cell hbz p1
    replace p2 := keep_cell hbz p2
    replace p3 := keep_cell hbz p3
    replace d0 := keep_cell hbz d0
    replace d1 := keep_cell hbz d1
    replace d2 := keep_cell hbz d2
    replace d3 := keep_cell hbz d3
    replace d4 := keep_cell hbz d4
    replace d5 := keep_cell hbz d5
    replace d6 := keep_cell hbz d6
    replace d7 := keep_cell hbz d7
    replace d8 := keep_cell hbz d8
    replace u0 := keep_cell hbz u0
    replace u1 := keep_cell hbz u1
    replace j0 := keep_cell hbz j0
    replace j1 := keep_cell hbz j1
    replace j2 := keep_cell hbz j2
    have lz : gz < wc.heap.size := World.block_lt_of_cell? wc _ z0
    replace lp : w.heap.size + 1 < wc.heap.size := World.block_lt_of_cell? wc _ p0
    replace ld : w.heap.size + 1 + 1 < wc.heap.size := World.block_lt_of_cell? wc _ d0
    replace lu : gu < wc.heap.size := World.block_lt_of_cell? wc _ u0
    replace lj : gj < wc.heap.size := World.block_lt_of_cell? wc _ j0
    have hwc := bchain hwf hwf.size hbz
    have D1 := decide_any k a nr ar ip x0 x1 x2 x3 x4 x5 _ _ wc (ruls_below hbz HRj.out)
    have D2 := fun W hb => decide_any k a nr ar ip x0 x1 x2 x3 x4 x5 _ _ W (ruls_below (w1 := W) hb hRz)
    have hlaw := first_law (nr := nr) (ar := ar) (x0 := x0) (x1 := x1) (x2 := x2) (x3 := x3) (x4 := x4) (x5 := x5) (k := k) (a := a) (L := L) (r := ⟨rk, ra, ns, cn⟩)
    unfold decT at D1 D2
    obtain ⟨⟨⟨s1, s2⟩, s3⟩, hs⟩ : ∃ p, decV nr ar x0 x1 x2 x3 x4 x5 k a (L ++ [⟨rk, ra, ns, cn⟩]) = p := ⟨_, rfl⟩
    obtain ⟨⟨⟨q1, q2⟩, q3⟩, hq⟩ : ∃ p, decV nr ar x0 x1 x2 x3 x4 x5 k a ([⟨rk, ra, ns, cn⟩] ++ L) = p := ⟨_, rfl⟩
    rw [hs] at D1 hlaw
    rw [hq] at D2 hlaw
    rw [Hr.out] at hlaw
    have Hlaw := Lib.hid hlaw
    clear hlaw hs hq hRz HRj hbz lb b0 b1 b2
    go_wp2_with fail
    refine D1.mono ?_
    rintro e w10 ⟨rfl, hb10⟩
    replace p0 := keep_cell hb10 p0
    replace p1 := keep_cell hb10 p1
    replace p2 := keep_cell hb10 p2
    replace p3 := keep_cell hb10 p3
    replace d0 := keep_cell hb10 d0
    replace d1 := keep_cell hb10 d1
    replace d2 := keep_cell hb10 d2
    replace d3 := keep_cell hb10 d3
    replace d4 := keep_cell hb10 d4
    replace d5 := keep_cell hb10 d5
    replace d6 := keep_cell hb10 d6
    replace d7 := keep_cell hb10 d7
    replace d8 := keep_cell hb10 d8
    replace u0 := keep_cell hb10 u0
    replace u1 := keep_cell hb10 u1
    replace z0 := keep_cell hb10 z0
    replace z1 := keep_cell hb10 z1
    replace z2 := keep_cell hb10 z2
    replace lp : w.heap.size + 1 < w10.heap.size := World.block_lt_of_cell? w10 _ p0
    replace ld : w.heap.size + 1 + 1 < w10.heap.size := World.block_lt_of_cell? w10 _ d0
    replace lu : gu < w10.heap.size := World.block_lt_of_cell? w10 _ u0
    replace lz : gz < w10.heap.size := World.block_lt_of_cell? w10 _ z0
    have hw10 := bchain hwc hwc.size hb10
    clear lj j0 j1 j2 D1
    go_wp2_with fail
    refine (D2 _ (bchain hb10 hb10.size (below_alloc w10 _))).mono ?_
    rintro e w11 ⟨rfl, hb11⟩
    have g0 : w11.cell? ⟨w10.heap.size, 0, none⟩ = some (.int .i64 s1) := keep_cell hb11 (new_cell w10 _ 30 0 rfl)
    have g1 : w11.cell? ⟨w10.heap.size, 1, none⟩ = some (.int .i64 s2) := keep_cell hb11 (new_cell w10 _ 30 1 rfl)
    replace hb11 := bchain (below_alloc w10 _) (by simp) hb11
    replace p0 := keep_cell hb11 p0
    replace p1 := keep_cell hb11 p1
    replace p2 := keep_cell hb11 p2
    replace p3 := keep_cell hb11 p3
    replace d0 := keep_cell hb11 d0
    replace d1 := keep_cell hb11 d1
    replace d2 := keep_cell hb11 d2
    replace d3 := keep_cell hb11 d3
    replace d4 := keep_cell hb11 d4
    replace d5 := keep_cell hb11 d5
    replace d6 := keep_cell hb11 d6
    replace d7 := keep_cell hb11 d7
    replace d8 := keep_cell hb11 d8
    replace u0 := keep_cell hb11 u0
    replace u1 := keep_cell hb11 u1
    replace lp : w.heap.size + 1 < w11.heap.size := World.block_lt_of_cell? w11 _ p0
    replace ld : w.heap.size + 1 + 1 < w11.heap.size := World.block_lt_of_cell? w11 _ d0
    replace lu : gu < w11.heap.size := World.block_lt_of_cell? w11 _ u0
    have hw11 := bchain hw10 hw10.size hb11
    clear hb10 hb11 D2 lz z0 z1 z2
    obtain ⟨gg, hgg⟩ : ∃ gg, w10.heap.size = gg := ⟨_, rfl⟩
    rw [hgg] at g0 g1 ⊢
    have lg : gg < w11.heap.size := World.block_lt_of_cell? w11 _ g0
    clear hgg
    go_upto_region 11 with (fail)
    obtain ⟨w12, hw12⟩ : ∃ w12, w11.alloc (.cells #[.int .i64 q1, .int .i64 q2] 30) = w12 := ⟨_, rfl⟩
    have hb12 : Below w11.heap.size w11 w12 := by rw [← hw12]; exact below_alloc _ _
    have h0 : w12.cell? ⟨w11.heap.size, 0, none⟩ = some (.int .i64 q1) := by rw [← hw12]; exact new_cell w11 _ 30 0 rfl
    have h1 : w12.cell? ⟨w11.heap.size, 1, none⟩ = some (.int .i64 q2) := by rw [← hw12]; exact new_cell w11 _ 30 1 rfl
    rw [hw12]
    replace p0 := keep_cell hb12 p0
    replace p1 := keep_cell hb12 p1
    replace p2 := keep_cell hb12 p2
    replace p3 := keep_cell hb12 p3
    replace d0 := keep_cell hb12 d0
    replace d1 := keep_cell hb12 d1
    replace d2 := keep_cell hb12 d2
    replace d3 := keep_cell hb12 d3
    replace d4 := keep_cell hb12 d4
    replace d5 := keep_cell hb12 d5
    replace d6 := keep_cell hb12 d6
    replace d7 := keep_cell hb12 d7
    replace d8 := keep_cell hb12 d8
    replace u0 := keep_cell hb12 u0
    replace u1 := keep_cell hb12 u1
    replace g0 := keep_cell hb12 g0
    replace g1 := keep_cell hb12 g1
    obtain ⟨gh, hgh⟩ : ∃ gh, w11.heap.size = gh := ⟨_, rfl⟩
    have hw12' := bchain hw11 hw11.size hb12
    rw [hgh] at h0 h1 ⊢
    have lh : gh < w12.heap.size := World.block_lt_of_cell? w12 _ h0
    replace lp : w.heap.size + 1 < w12.heap.size := World.block_lt_of_cell? w12 _ p0
    replace ld : w.heap.size + 1 + 1 < w12.heap.size := World.block_lt_of_cell? w12 _ d0
    replace lu : gu < w12.heap.size := World.block_lt_of_cell? w12 _ u0
    replace lg : gg < w12.heap.size := World.block_lt_of_cell? w12 _ g0
    clear hw12 hb12 hgh
    by_cases fr3 : r3 = 0
    case neg =>
      have f' : (r3 != 0) = true := by simpa using fr3
      clear fr3
      go_wp2_with fail
      go_ret
      exact ⟨rfl, hw12'⟩
    have fr3' : (r3 != 0) = false := by simpa using fr3
    have Fr3 := Lib.hid fr3
    clear fr3
    by_cases fs3 : s3 = 0
    case neg =>
      have f' : (s3 != 0) = true := by simpa using fs3
      clear fs3
      go_wp2_with fail
      go_ret
      exact ⟨rfl, hw12'⟩
    have fs3' : (s3 != 0) = false := by simpa using fs3
    have Fs3 := Lib.hid fs3
    clear fs3
    by_cases fq3 : q3 = 0
    case neg =>
      have f' : (q3 != 0) = true := by simpa using fq3
      clear fq3
      go_wp2_with fail
      go_ret
      exact ⟨rfl, hw12'⟩
    have fq3' : (q3 != 0) = false := by simpa using fq3
    have Fq3 := Lib.hid fq3
    clear fq3
    cases may with
    | false =>
      go_wp2_with fail
      go_ret
      exact ⟨rfl, hw12'⟩
    | true =>
    obtain ⟨ma, hma⟩ : ∃ ma, (ar == 3221225534) = ma := ⟨_, rfl⟩
    have hmd : decide (ar = 3221225534) = ma := by rw [← hma]; by_cases e : ar = 3221225534 <;> simp [e]
    have Hmd := Lib.hid hmd
    obtain ⟨_, _, hv1, hl1, hc1⟩ := HN0.out
    obtain ⟨_, _, hv2, hl2, hc2⟩ := HC0.out
    injection hv1 with hv1a hv1b hv1c
    subst hv1a hv1c
    injection hv2 with hv2a hv2b hv2c
    subst hv2a hv2c
    rw [Hm0.out] at hl1 hc1
    rw [Hm1.out] at hl2 hc2
    have Hc1 := Lib.hid hc1
    have Hc2 := Lib.hid hc2
    clear hv1b hv2b hc1 hc2 hmd
    go_wp2_with fail
    clear hma
    go_loopw [19, 20] (fun f i wr => AnyRel m0 (fun p b => b = (ns.take p).any fun s => (nrV s).2 && decide ((nrV s).1 = nr)) w12 f i wr) (fun _ i _ => m0 - (intOf i).toNat)
    case atStart => exact ⟨0, false, by omega, rfl, rfl, Below.refl _ _, by simp⟩
    case round =>
      obtain ⟨j, b, hj, rfl, rfl, hb, hf⟩ := hrel
      have hwr : Below w.heap.size w wr := bchain hw12' hw12'.size hb
      have p0 : wr.cell? ⟨w.heap.size + 1, 0, none⟩ = some (.int .i64 rk) := keep_cell hb p0
      have p1 : wr.cell? ⟨w.heap.size + 1, 1, none⟩ = some (.int .i64 ra) := keep_cell hb p1
      have p2 : wr.cell? ⟨w.heap.size + 1, 2, none⟩ = some (.slice P0 m0 e0) := keep_cell hb p2
      have p3 : wr.cell? ⟨w.heap.size + 1, 3, none⟩ = some (.slice P1 m1 e1) := keep_cell hb p3
      have d0 : wr.cell? ⟨w.heap.size + 1 + 1, 0, none⟩ = some (.int .u32 nr) := keep_cell hb d0
      have d1 : wr.cell? ⟨w.heap.size + 1 + 1, 1, none⟩ = some (.int .u32 ar) := keep_cell hb d1
      have d2 : wr.cell? ⟨w.heap.size + 1 + 1, 2, none⟩ = some (.int .u64 ip) := keep_cell hb d2
      have d3 : wr.cell? ⟨w.heap.size + 1 + 1, 3, none⟩ = some (.int .u64 x0) := keep_cell hb d3
      have d4 : wr.cell? ⟨w.heap.size + 1 + 1, 4, none⟩ = some (.int .u64 x1) := keep_cell hb d4
      have d5 : wr.cell? ⟨w.heap.size + 1 + 1, 5, none⟩ = some (.int .u64 x2) := keep_cell hb d5
      have d6 : wr.cell? ⟨w.heap.size + 1 + 1, 6, none⟩ = some (.int .u64 x3) := keep_cell hb d6
      have d7 : wr.cell? ⟨w.heap.size + 1 + 1, 7, none⟩ = some (.int .u64 x4) := keep_cell hb d7
      have d8 : wr.cell? ⟨w.heap.size + 1 + 1, 8, none⟩ = some (.int .u64 x5) := keep_cell hb d8
      have u0 : wr.cell? ⟨gu, 0, none⟩ = some (.int .i64 r1) := keep_cell hb u0
      have u1 : wr.cell? ⟨gu, 1, none⟩ = some (.int .i64 r2) := keep_cell hb u1
      have g0 : wr.cell? ⟨gg, 0, none⟩ = some (.int .i64 s1) := keep_cell hb g0
      have g1 : wr.cell? ⟨gg, 1, none⟩ = some (.int .i64 s2) := keep_cell hb g1
      have h0 : wr.cell? ⟨gh, 0, none⟩ = some (.int .i64 q1) := keep_cell hb h0
      have h1 : wr.cell? ⟨gh, 1, none⟩ = some (.int .i64 q2) := keep_cell hb h1
      have Hf := Lib.hid hf
      clear hf
      by_cases hlt : j < m0
      · obtain ⟨gl, o, rfl, hcell⟩ := Hc1.out (by omega)
        obtain ⟨x, hx⟩ : ∃ x, ns[j]? = some x := ⟨_, List.getElem?_eq_getElem (by rw [Hm0.out]; omega)⟩
        obtain ⟨e0_, hxs⟩ := hcell j x hx
        have e1_ : wr.cell? ⟨gl, o + j, none⟩ = some (.string x) := by rw [Nat.mul_one] at e0_; exact keep_cell hwr e0_
        have hlt' : (j : Int) < m0 := by omega
        have N := nr_any x
        unfold nrT at N
        obtain ⟨⟨v, z⟩, hv⟩ : ∃ p, nrV x = p := ⟨_, rfl⟩
        rw [hv] at N
        have ht := any_take hx (fun s => (nrV s).2 && decide ((nrV s).1 = nr))
        rw [hv] at ht
        have Ht := Lib.hid ht
        clear hcell e0_ hx hv ht
        cases b with
        | true =>
          go_wp2_with (go_at_call 11; (with_reducible refine (N _).mono ?_); rintro e w5 ⟨rfl, hb5⟩)
          go_roundw
          case rel => exact ⟨j + 1, true, by omega, by go_num, rfl, bchain hb hb.size hb5, by show true = _; rw [Ht.out, ← Hf.out]; simp⟩
          case measure => (simp [intOf] <;> omega)
        | false =>
        cases z with
        | false =>
          go_wp2_with (go_at_call 11; (with_reducible refine (N _).mono ?_); rintro e w5 ⟨rfl, hb5⟩)
          go_roundw
          case rel => exact ⟨j + 1, false, by omega, by go_num, rfl, bchain hb hb.size hb5, by show false = _; rw [Ht.out, ← Hf.out]; simp⟩
          case measure => (simp [intOf] <;> omega)
        | true =>
          by_cases hvn : v = nr
          · subst hvn
            go_wp2_with (go_at_call 11; (with_reducible refine (N _).mono ?_); rintro e w5 ⟨rfl, hb5⟩; have d0' : w5.cell? ⟨w.heap.size + 1 + 1, 0, none⟩ = some (.int .u32 v) := keep_cell hb5 d0)
            go_roundw
            case rel => exact ⟨j + 1, true, by omega, by go_num, rfl, bchain hb hb.size hb5, by show true = _; rw [Ht.out]; simp⟩
            case measure => (simp [intOf] <;> omega)
          · have hvn' : (v == nr) = false := by simpa using hvn
            have Hvn := Lib.hid hvn
            clear hvn
            go_wp2_with (go_at_call 11; (with_reducible refine (N _).mono ?_); rintro e w5 ⟨rfl, hb5⟩; have d0' : w5.cell? ⟨w.heap.size + 1 + 1, 0, none⟩ = some (.int .u32 nr) := keep_cell hb5 d0)
            go_roundw
            case rel => exact ⟨j + 1, false, by omega, by go_num, rfl, bchain hb hb.size hb5, by show false = _; rw [Ht.out, ← Hf.out]; simp [Hvn.out]⟩
            case measure => (simp [intOf] <;> omega)
      · obtain rfl : m0 = j := by omega
        have hsp : spokenB ns nr = b := by rw [Hf.out, List.take_of_length_le (by rw [Hm0.out]; exact Nat.le_refl _)]; rfl
        obtain ⟨mb, hmb⟩ : ∃ mb, (ma && b) = mb := ⟨_, rfl⟩
        have Hmb := Lib.hid hmb
        have Hsp := Lib.hid hsp
        clear hsp hmb Hf
        have hpick : ∀ W : World, True := fun _ => trivial
        cases ma <;> cases b
        all_goals
          simp only [Bool.and_true, Bool.and_false, Bool.true_and, Bool.false_and] at Hmb
          go_wp2_with fail
          obtain ⟨wb, hwb⟩ : ∃ wb, wb = wr := ⟨_, rfl⟩
          subst hwb
          go_loopw [18, 23] (fun f i wr => AnyRel m1 (fun p q => q = (mb && (cn.take p).all (holdsC x0 x1 x2 x3 x4 x5))) wb f i wr) (fun _ i _ => m1 - (intOf i).toNat)
          case atStart => exact ⟨0, _, by omega, rfl, rfl, Below.refl _ _, by rw [← Hmb.out]; simp⟩
          case round =>
            obtain ⟨i, q, hi, rfl, rfl, hb2, hf⟩ := hrel
            have hwr2 : Below w.heap.size w wr := bchain hwr hwr.size hb2
            have p0 : wr.cell? ⟨w.heap.size + 1, 0, none⟩ = some (.int .i64 rk) := keep_cell hb2 p0
            have p1 : wr.cell? ⟨w.heap.size + 1, 1, none⟩ = some (.int .i64 ra) := keep_cell hb2 p1
            have p2 : wr.cell? ⟨w.heap.size + 1, 2, none⟩ = some (.slice P0 m0 e0) := keep_cell hb2 p2
            have p3 : wr.cell? ⟨w.heap.size + 1, 3, none⟩ = some (.slice P1 m1 e1) := keep_cell hb2 p3
            have d0 : wr.cell? ⟨w.heap.size + 1 + 1, 0, none⟩ = some (.int .u32 nr) := keep_cell hb2 d0
            have d1 : wr.cell? ⟨w.heap.size + 1 + 1, 1, none⟩ = some (.int .u32 ar) := keep_cell hb2 d1
            have d2 : wr.cell? ⟨w.heap.size + 1 + 1, 2, none⟩ = some (.int .u64 ip) := keep_cell hb2 d2
            have d3 : wr.cell? ⟨w.heap.size + 1 + 1, 3, none⟩ = some (.int .u64 x0) := keep_cell hb2 d3
            have d4 : wr.cell? ⟨w.heap.size + 1 + 1, 4, none⟩ = some (.int .u64 x1) := keep_cell hb2 d4
            have d5 : wr.cell? ⟨w.heap.size + 1 + 1, 5, none⟩ = some (.int .u64 x2) := keep_cell hb2 d5
            have d6 : wr.cell? ⟨w.heap.size + 1 + 1, 6, none⟩ = some (.int .u64 x3) := keep_cell hb2 d6
            have d7 : wr.cell? ⟨w.heap.size + 1 + 1, 7, none⟩ = some (.int .u64 x4) := keep_cell hb2 d7
            have d8 : wr.cell? ⟨w.heap.size + 1 + 1, 8, none⟩ = some (.int .u64 x5) := keep_cell hb2 d8
            have u0 : wr.cell? ⟨gu, 0, none⟩ = some (.int .i64 r1) := keep_cell hb2 u0
            have u1 : wr.cell? ⟨gu, 1, none⟩ = some (.int .i64 r2) := keep_cell hb2 u1
            have g0 : wr.cell? ⟨gg, 0, none⟩ = some (.int .i64 s1) := keep_cell hb2 g0
            have g1 : wr.cell? ⟨gg, 1, none⟩ = some (.int .i64 s2) := keep_cell hb2 g1
            have h0 : wr.cell? ⟨gh, 0, none⟩ = some (.int .i64 q1) := keep_cell hb2 h0
            have h1 : wr.cell? ⟨gh, 1, none⟩ = some (.int .i64 q2) := keep_cell hb2 h1
            have Hf2 := Lib.hid hf
            clear hf
            by_cases hlt2 : i < m1
            · obtain ⟨gl, o, rfl, hcell⟩ := Hc2.out (by omega)
              obtain ⟨x, hx⟩ : ∃ x, cn[i]? = some x := ⟨_, List.getElem?_eq_getElem (by rw [Hm1.out]; omega)⟩
              obtain ⟨e0, e1, e2, e3⟩ := CndQ.below hwr2 (hcell i x hx)
              have ht := all_take hx (holdsC x0 x1 x2 x3 x4 x5)
              obtain ⟨ca, co, cm, cv⟩ := x
              have hlt' : (i : Int) < m1 := by omega
              have I := holds_any ca co cm cv nr ar ip x0 x1 x2 x3 x4 x5
              have ht : (cn.take (i + 1)).all (holdsC x0 x1 x2 x3 x4 x5) = ((cn.take i).all (holdsC x0 x1 x2 x3 x4 x5) && (rightB ca co && cmpB co (bits .and .u64 (argI ca x0 x1 x2 x3 x4 x5) cm) cv)) := ht
              obtain ⟨z, hz⟩ : ∃ z, (rightB ca co && cmpB co (bits .and .u64 (argI ca x0 x1 x2 x3 x4 x5) cm) cv) = z := ⟨_, rfl⟩
              rw [hz] at I ht
              have Ht := Lib.hid ht
              have e0' : wr.cell? ⟨gl, o + i * 4, none⟩ = some (.int .i64 ca) := e0
              have e1' : wr.cell? ⟨gl, o + i * 4 + 1, none⟩ = some (.int .i64 co) := e1
              have e2' : wr.cell? ⟨gl, o + i * 4 + 2, none⟩ = some (.int .u64 cm) := e2
              have e3' : wr.cell? ⟨gl, o + i * 4 + 3, none⟩ = some (.int .u64 cv) := e3
              clear hcell hx hz ht e0 e1 e2 e3
              go_wp2
              go_region_held3 (fun w' => w'.cell? ⟨w.heap.size + 1, 3, none⟩ = some (.slice (some ⟨gl, o, none⟩) m1 e1) ∧ w'.cell? ⟨gl, o + i * 4, none⟩ = some (.int .i64 ca) ∧ w'.cell? ⟨gl, o + i * 4 + 1, none⟩ = some (.int .i64 co) ∧ w'.cell? ⟨gl, o + i * 4 + 2, none⟩ = some (.int .u64 cm) ∧ w'.cell? ⟨gl, o + i * 4 + 3, none⟩ = some (.int .u64 cv) ∧ w'.cell? ⟨w.heap.size + 1 + 1, 0, none⟩ = some (.int .u32 nr) ∧ w'.cell? ⟨w.heap.size + 1 + 1, 1, none⟩ = some (.int .u32 ar) ∧ w'.cell? ⟨w.heap.size + 1 + 1, 2, none⟩ = some (.int .u64 ip) ∧ w'.cell? ⟨w.heap.size + 1 + 1, 3, none⟩ = some (.int .u64 x0) ∧ w'.cell? ⟨w.heap.size + 1 + 1, 4, none⟩ = some (.int .u64 x1) ∧ w'.cell? ⟨w.heap.size + 1 + 1, 5, none⟩ = some (.int .u64 x2) ∧ w'.cell? ⟨w.heap.size + 1 + 1, 6, none⟩ = some (.int .u64 x3) ∧ w'.cell? ⟨w.heap.size + 1 + 1, 7, none⟩ = some (.int .u64 x4) ∧ w'.cell? ⟨w.heap.size + 1 + 1, 8, none⟩ = some (.int .u64 x5))
                (refine ⟨?_, ?_, ?_, ?_, ?_, ?_, ?_, ?_, ?_, ?_, ?_, ?_, ?_, ?_⟩ <;> first | assumption | exact keep_cell hb7 (by assumption) | (show World.cell? wr _ = _; assumption)) (first | (go_at_call 21; refine (I _).mono ?_; rintro e w5 ⟨rfl, hb7⟩))
              cases q <;> cases z
              all_goals
                go_wp2
                go_roundw
                case rel => exact ⟨i + 1, _, by omega, by go_num, rfl, bchain hb2.drew hb2.drew.size hb7, by show _ = _; rw [Ht.out]; have := Hf2.out; revert this; cases mb <;> simp⟩
                case measure => (simp [intOf] <;> omega)
            · obtain rfl : m1 = i := by omega
              have hlast : q = (mb && cn.all (holdsC x0 x1 x2 x3 x4 x5)) := by rw [Hf2.out, List.take_of_length_le (by rw [Hm1.out]; exact Nat.le_refl _)]
              have Hlast := Lib.hid hlast
              clear hlast Hf2
              have hL3 := Hlaw.out (by exact Fr3.out) (by exact Fs3.out) (by exact Fq3.out)
              rw [Hmd.out] at hL3
              simp only [meetsB, Hsp.out] at hL3
              have Hq := Hlast.out
              rw [← Hmb.out] at Hq
              cases q
              · have hno := hL3.2 (by revert Hq; simp)
                obtain ⟨rfl, rfl⟩ : q1 = r1 ∧ q2 = r2 := by simpa using hno.1
                obtain ⟨rfl, rfl⟩ : s1 = q1 ∧ s2 = q2 := by simpa using hno.2
                clear hL3 hno Hq Hlaw
                go_wp2
                go_ret
                exact ⟨rfl, hwr2⟩
              · have hyes := hL3.1 (by revert Hq; simp)
                obtain ⟨rfl, rfl⟩ : q1 = rk ∧ q2 = ra := by simpa using hyes
                clear hL3 hyes Hq Hlaw
                go_wp2
                go_ret
                exact ⟨rfl, hwr2⟩
end Go.Proofs.Ytomcobmpojpdcaa
