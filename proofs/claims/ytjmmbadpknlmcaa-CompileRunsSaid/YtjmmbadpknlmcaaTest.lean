/- test: the instructions of a condition. Conditions: its argument is one of six; what is passed over is short. -/
import Derived.Test.YtjmmbadpknlmcaaCode
namespace Go.Proofs.Ytjmmbadpknlmcaa
open Go.RowKit
set_option linter.unusedVariables false
set_option linter.unusedSimpArgs false

def codeOf (op : Int) : Int := if op = 1 then 21 else if op = 5 then 37 else 53
/-- The lower half's test, and the instruction that tells. -/
def endL (no : Bool) (op m v a els : Int) : List Ins := loadL (16 + 8 * a) (lo m) ++ [if no then ⟨codeOf op, els, 0, lo v⟩ else ⟨codeOf op, 0, els, lo v⟩]
def yesI (m a : Int) : Int := ((loadL (16 + 8 * a) (lo m)).length : Int) + 1
def topL (no : Bool) (op m v a els : Int) : List Ins :=
  loadL (16 + 8 * a + 4) (hi m) ++ (if op = 1 then [] else [⟨37, (if no then yesI m a + els else yesI m a) + 1, 0, hi v⟩]) ++ [⟨21, 0, if no then yesI m a else yesI m a + els, hi v⟩]
def testL (no : Bool) (op m v a els : Int) : List Ins := topL no op m v a els ++ endL no op m v a els
theorem loadL_len (a m : Int) : 1 ≤ (loadL a m).length ∧ (loadL a m).length ≤ 2 := by unfold loadL; split <;> simp
theorem ownI_down {w : World} {lo lo' : Nat} {v : Value} {l : List Ins} (h : InsOwn lo w v l) (hl : lo' ≤ lo) : InsOwn lo' w v l := by
  obtain ⟨h1, h2⟩ := h
  refine ⟨h1, ?_⟩
  rcases h2 with h2 | ⟨g, cap, cur, h3, h4, h5⟩
  · exact .inl h2
  · exact .inr ⟨g, cap, cur, h3, Nat.le_trans hl h4, h5⟩
theorem own_low {w w' : World} {b : Nat} {e : TypeId} {size n : Nat} {v : Value} {xs : List Value} (h : w.ownsRow b e size v n xs) (hb : Below w.heap.size w w') : w'.ownsRow b e size v n xs := by
  obtain ⟨h1, h2⟩ := h
  refine ⟨h1, ?_⟩
  rcases h2 with h2 | ⟨g, cap, cur, h3, h4, h5, h6⟩
  · exact .inl h2
  · exact .inr ⟨g, cap, cur, h3, h4, (hb.block g (Array.getElem?_eq_some_iff.1 h5).1).trans h5, h6⟩
theorem own_at {w : World} {b g n c : Nat} {e : TypeId} {size : Nat} {A : Option Addr} {v : Value} {xs : List Value} (h : w.ownsRow b e size v n xs) {k : Nat} (hk : v.ownBlock = some k) : b ≤ k ∧ k < w.heap.size := by
  obtain ⟨h1, h2⟩ := h
  rcases h2 with ⟨rfl, _⟩ | ⟨g', cap, cur, rfl, h4, h5, h6⟩
  · cases hk
  · cases hk; exact ⟨h4, (Array.getElem?_eq_some_iff.1 h5).1⟩
/-- A row as the source of an append. -/
theorem src_own {w : World} {b n c size : Nat} {e : TypeId} {A : Option Addr} {xs : List Value} (h : w.ownsRow b e size (.slice A n c) n xs) (h1 : ∀ u ∈ xs, u.oneCell' = true) : SrcAt w size A n xs := by
  obtain ⟨hl, h2⟩ := h
  refine ⟨hl, fun h0 => ?_, h1⟩
  rcases h2 with ⟨_, h2⟩ | ⟨g, cap, cur, h3, h4, h5, h6, h7, h8, h9⟩
  · omega
  · injection h3 with h3 _ _
    subst h3
    refine ⟨g, 0, rfl, fun j u hu => ?_⟩
    rw [Nat.zero_add]
    unfold World.cell?
    rw [h5]
    show cur[j]? = some u
    rw [← h9, List.getElem?_take] at hu
    rw [← Array.getElem?_toList]
    split at hu
    · exact hu
    · cases hu
theorem rowI_cells (l : List Ins) : ∀ u ∈ rowI l, u.oneCell' = true := fun u hu => by
  unfold rowI at hu
  obtain ⟨x, _, hx⟩ := List.mem_flatMap.1 hu
  simp [Ins.cells] at hx
  rcases hx with rfl | rfl | rfl | rfl <;> rfl
theorem grownI {w w1 w2 : World} {o : Obj} {B n : Nat} {v : Value} {xs : List Value} (hB : Below B w w1) (hBw : B ≤ w.heap.size) (ho : w1.ownsRow B 70 4 v n xs) (hg : (w1.alloc o).grownBy w2 v.ownBlock) : Below B w w2 := by
  have h1 : Below B w (w1.alloc o) := hB.trans ((below_alloc w1 o).mono (Nat.le_trans hBw hB.size))
  exact ⟨hg.os.trans h1.os, hg.tape.trans h1.tape, hg.output.trans h1.output, Nat.le_trans h1.size hg.size, fun k hk => (hg.block k (by have := h1.size; omega) (fun e => by have := (own_at (g := 0) (c := 0) (A := none) ho e.symm).1; omega)).trans (h1.block k hk)⟩
theorem SrcAt.below' {w w1 : World} {size m : Nat} {A : Option Addr} {xs : List Value} (h : SrcAt w size A m xs) (hb : Below w.heap.size w w1) : SrcAt w1 size A m xs := by
  obtain ⟨h1, h2, h3⟩ := h
  refine ⟨h1, fun h0 => ?_, h3⟩
  obtain ⟨g, o, e, hc⟩ := h2 h0
  exact ⟨g, o, e, fun j u hu => keep_cell hb (hc j u hu)⟩
theorem rowI_cons (i : Ins) (l : List Ins) : rowI (i :: l) = i.cells.toList ++ rowI l := by unfold rowI; rw [List.flatMap_cons]
theorem rowI_nil : rowI [] = [] := rfl
theorem one2 (l : List Ins) {xs : List Value} (h : ∀ u ∈ xs, u.oneCell' = true) : ∀ u ∈ rowI l ++ xs, u.oneCell' = true := fun u hu => by
  rcases List.mem_append.1 hu with h' | h'
  · exact rowI_cells l u h'
  · exact h u h'
theorem grownI0 {w w1 w2 : World} {B n : Nat} {v : Value} {xs : List Value} (hB : Below B w w1) (hBw : B ≤ w.heap.size) (ho : w1.ownsRow B 70 4 v n xs) (hg : w1.grownBy w2 v.ownBlock) : Below B w w2 :=
  ⟨hg.os.trans hB.os, hg.tape.trans hB.tape, hg.output.trans hB.output, Nat.le_trans hB.size hg.size, fun k hk => (hg.block k (by have := hB.size; omega) (fun e => by have := (own_at (g := 0) (c := 0) (A := none) ho e.symm).1; omega)).trans (hB.block k hk)⟩
theorem test_end {w W3 x3 w5 w9 : World} {n : Nat} {A : Option Addr} {c : Nat} {l : List Ins} (b1 : Below w.heap.size w W3) (b2 : Below W3.heap.size W3 x3) (b3 : Below x3.heap.size x3 w5) (b4 : Below w5.heap.size w5 w9) (ho : w9.ownsRow w5.heap.size 70 4 (.slice A n c) n (rowI l)) (hn : l.length = n) : InsPost l w (.returned (.slice A n c)) w9 := by
  subst hn
  have s1 := b1.size
  have s2 := b2.size
  have s3 := b3.size
  exact ⟨A, c, rfl, ownI_down ho (by omega), ((b1.trans (b2.mono s1)).trans (b3.mono (by omega))).trans (b4.mono (by omega))⟩
def OneI (B n : Nat) (l : List Ins) (w : World) (e : Ending) (w' : World) : Prop := ∃ A c, e = .returned (.slice A n c) ∧ w'.ownsRow B 70 4 (.slice A n c) n (rowI l) ∧ Below w.heap.size w w'
theorem load_n (a m v : Int) (W : World) {n : Nat} (hn : (loadL a m).length = n) : Calls Try.prog 59 #[.agg #[.int .u32 a, .int .u32 m, .int .u32 v]] W (OneI W.heap.size n (loadL a m) W) := by
  subst hn
  exact load_any a m v W
set_option maxRecDepth 100000 in
set_option maxHeartbeats 8000000 in
theorem test_1y (m v a els : Int) (h0 : 0 ≤ a) (h5 : a ≤ 5) (he0 : 0 ≤ els) (he1 : els ≤ 200) (w : World) : Calls Try.prog 38 #[nv false false false 1 m v, .int .i64 a, .int .i64 els] w (InsPost (testL false 1 m v a els) w) := by
  have PL := fun W => place_any a h0 h5 W
  have HV := fun n W => halves_any n W
  obtain ⟨i0, hi0, hz0, hz1, hz2⟩ := info_parts info70
  have hl1 := loadL_len (16 + 8 * a) (lo m)
  have hl2 := loadL_len (16 + 8 * a + 4) (hi m)
  obtain ⟨n1, hn1⟩ : ∃ n, (loadL (16 + 8 * a) (lo m)).length = n := ⟨_, rfl⟩
  obtain ⟨n2, hn2⟩ : ∃ n, (loadL (16 + 8 * a + 4) (hi m)).length = n := ⟨_, rfl⟩
  have L1 := Lib.hid (fun W => load_n (16 + 8 * a) (lo m) (lo v) W hn1)
  have L2 := Lib.hid (fun W => load_n (16 + 8 * a + 4) (hi m) (hi v) W hn2)
  rw [hn1] at hl1
  rw [hn2] at hl2
  obtain ⟨q1, q2⟩ := hl1
  obtain ⟨q3, q4⟩ := hl2
  have Hn1 := Lib.hid hn1
  have Hn2 := Lib.hid hn2
  have hmk : ∀ W, (Instr.makeMap 121 none).run Try.prog W = .ok (.map (some W.heap.size)) (W.alloc (.map #[] 0)) := fun W => rfl
  obtain ⟨W3, hW3⟩ : ∃ W3, ((w.alloc (.cells #[.bool false, .bool false, .bool false, .int .i64 1, .int .u64 m, .int .u64 v] 88)).alloc (.cells #[.int .u32 (16 + 8 * a + 4), .int .u32 (hi m), .int .u32 (hi v)] 120)).alloc (.cells #[.int .u32 (16 + 8 * a), .int .u32 (lo m), .int .u32 (lo v)] 120) = W3 := ⟨_, rfl⟩
  have B1 := below_alloc w (.cells #[.bool false, .bool false, .bool false, .int .i64 1, .int .u64 m, .int .u64 v] 88)
  have B2 := below_alloc (w.alloc (.cells #[.bool false, .bool false, .bool false, .int .i64 1, .int .u64 m, .int .u64 v] 88)) (.cells #[.int .u32 (16 + 8 * a + 4), .int .u32 (hi m), .int .u32 (hi v)] 120)
  have B3 := below_alloc ((w.alloc (.cells #[.bool false, .bool false, .bool false, .int .i64 1, .int .u64 m, .int .u64 v] 88)).alloc (.cells #[.int .u32 (16 + 8 * a + 4), .int .u32 (hi m), .int .u32 (hi v)] 120)) (.cells #[.int .u32 (16 + 8 * a), .int .u32 (lo m), .int .u32 (lo v)] 120)
  have p0 := keep_cell B3 (keep_cell B2 (new_cell w #[.bool false, .bool false, .bool false, .int .i64 1, .int .u64 m, .int .u64 v] 88 0 rfl))
  have p1 := keep_cell B3 (keep_cell B2 (new_cell w #[.bool false, .bool false, .bool false, .int .i64 1, .int .u64 m, .int .u64 v] 88 1 rfl))
  have p2 := keep_cell B3 (keep_cell B2 (new_cell w #[.bool false, .bool false, .bool false, .int .i64 1, .int .u64 m, .int .u64 v] 88 2 rfl))
  have p3 := keep_cell B3 (keep_cell B2 (new_cell w #[.bool false, .bool false, .bool false, .int .i64 1, .int .u64 m, .int .u64 v] 88 3 rfl))
  have p4 := keep_cell B3 (keep_cell B2 (new_cell w #[.bool false, .bool false, .bool false, .int .i64 1, .int .u64 m, .int .u64 v] 88 4 rfl))
  have p5 := keep_cell B3 (keep_cell B2 (new_cell w #[.bool false, .bool false, .bool false, .int .i64 1, .int .u64 m, .int .u64 v] 88 5 rfl))
  have s0 := keep_cell B3 (new_cell (w.alloc (.cells #[.bool false, .bool false, .bool false, .int .i64 1, .int .u64 m, .int .u64 v] 88)) #[.int .u32 (16 + 8 * a + 4), .int .u32 (hi m), .int .u32 (hi v)] 120 0 rfl)
  have t0 := new_cell ((w.alloc (.cells #[.bool false, .bool false, .bool false, .int .i64 1, .int .u64 m, .int .u64 v] 88)).alloc (.cells #[.int .u32 (16 + 8 * a + 4), .int .u32 (hi m), .int .u32 (hi v)] 120)) #[.int .u32 (16 + 8 * a), .int .u32 (lo m), .int .u32 (lo v)] 120 0 rfl
  have s1 := keep_cell B3 (new_cell (w.alloc (.cells #[.bool false, .bool false, .bool false, .int .i64 1, .int .u64 m, .int .u64 v] 88)) #[.int .u32 (16 + 8 * a + 4), .int .u32 (hi m), .int .u32 (hi v)] 120 1 rfl)
  have t1 := new_cell ((w.alloc (.cells #[.bool false, .bool false, .bool false, .int .i64 1, .int .u64 m, .int .u64 v] 88)).alloc (.cells #[.int .u32 (16 + 8 * a + 4), .int .u32 (hi m), .int .u32 (hi v)] 120)) #[.int .u32 (16 + 8 * a), .int .u32 (lo m), .int .u32 (lo v)] 120 1 rfl
  have s2 := keep_cell B3 (new_cell (w.alloc (.cells #[.bool false, .bool false, .bool false, .int .i64 1, .int .u64 m, .int .u64 v] 88)) #[.int .u32 (16 + 8 * a + 4), .int .u32 (hi m), .int .u32 (hi v)] 120 2 rfl)
  have t2 := new_cell ((w.alloc (.cells #[.bool false, .bool false, .bool false, .int .i64 1, .int .u64 m, .int .u64 v] 88)).alloc (.cells #[.int .u32 (16 + 8 * a + 4), .int .u32 (hi m), .int .u32 (hi v)] 120)) #[.int .u32 (16 + 8 * a), .int .u32 (lo m), .int .u32 (lo v)] 120 2 rfl
  have hs1 : (w.alloc (.cells #[.bool false, .bool false, .bool false, .int .i64 1, .int .u64 m, .int .u64 v] 88)).heap.size = w.heap.size + 1 := by simp
  have hs2 : ((w.alloc (.cells #[.bool false, .bool false, .bool false, .int .i64 1, .int .u64 m, .int .u64 v] 88)).alloc (.cells #[.int .u32 (16 + 8 * a + 4), .int .u32 (hi m), .int .u32 (hi v)] 120)).heap.size = w.heap.size + 1 + 1 := by simp
  have hBW : Below w.heap.size w W3 := by rw [← hW3]; exact (B1.trans (B2.mono (by simp))).trans (B3.mono (by simp; omega))
  rw [hs1] at s0 s1 s2
  rw [hs2] at t0 t1 t2
  rw [hW3] at p0 p1 p2 p3 p4 p5 s0 s1 s2 t0 t1 t2
  simp only [List.getElem?_toArray, List.getElem_toArray] at p0 p1 p2 p3 p4 p5 s0 s1 s2 t0 t1 t2
  have hC0 := CodeIs.made W3
  have HB0 : Hid (∀ x1 x2 x3, (W3.alloc (.map #[] 0)).grownBy x1 (some W3.heap.size) → x1.grownBy x2 (some W3.heap.size) → x2.grownBy x3 (some W3.heap.size) → Below W3.heap.size W3 x3) := Lib.hid (fun x1 x2 x3 g1 g2 g3 => by
    have b0 := below_alloc W3 (.map #[] 0)
    have b1 := grown_below g1 b0.size (Nat.le_refl _)
    have b2 := grown_below g2 (Nat.le_trans b0.size b1.size) (Nat.le_refl _)
    have b3 := grown_below g3 (Nat.le_trans (Nat.le_trans b0.size b1.size) b2.size) (Nat.le_refl _)
    exact ((b0.trans b1).trans b2).trans b3)
  have HBW := Lib.hid hBW
  clear hn1 hn2 B1 B2 B3 hs1 hs2 hBW
  unfold nv
  go_enter Try.func38, Try.ntmps38
  go_upto_region 5 with (first
    | (go_at_call 57; refine (PL _).mono ?_; rintro e_ wp ⟨rfl, rfl⟩)
    | (go_at_call 58; refine (HV _ _).mono ?_; rintro e_ wp ⟨rfl, rfl⟩))
  try rw [hW3]
  clear hW3
  go_upto_region 6 with (first
    | (refine wpList_ins _ rfl _ _ _ rfl W3.heap.size 0 _ rfl hC0 (by omega) 1 21 rfl rfl (by decide) (by decide) ?_; intro x1 hC1 hG1)
    | (refine wpList_ins _ rfl _ _ _ rfl W3.heap.size 1 _ rfl hC1 (by omega) 5 37 rfl rfl (by decide) (by decide) ?_; intro x2 hC2 hG2)
    | (refine wpList_ins _ rfl _ _ _ rfl W3.heap.size 2 _ rfl hC2 (by omega) 6 53 rfl rfl (by decide) (by decide) ?_; intro x3 hC3 hG3; have hlk : (Instr.lookup 121 (.map (some W3.heap.size)) (.int .i64 1) false).run Try.prog x3 = .ok (.int .u16 21) x3 := hC3.look 1 (by decide); have hB3 := HB0.out x1 x2 x3 hG1 hG2 hG3; have b0 := keep_cell hB3 p0; have b1 := keep_cell hB3 p1; have b2 := keep_cell hB3 p2; have b3 := keep_cell hB3 p3; have b4 := keep_cell hB3 p4; have b5 := keep_cell hB3 p5; have u0 := keep_cell hB3 s0; have u1 := keep_cell hB3 s1; have u2 := keep_cell hB3 s2; have l0 := keep_cell hB3 t0; have l1' := keep_cell hB3 t1; have l2' := keep_cell hB3 t2; clear hG1 hG2 hG3 hC1 hC2 hC3))
  go_wp2_with (first
    | (go_at_call 59; (with_reducible refine (L1.out x3).mono ?_); rintro e_ w4 ⟨A4, c4, rfl, ho4, hb4⟩; have i2 := keep_cell hb4 b2; have i3 := keep_cell hb4 b3; have sz4 := hb4.size)
    | (at_builtin; refine wpList_append_own _ rfl _ _ 29 rfl x3.heap.size 70 i0 _ 4 8 under29 hi0 hz0 hz1 hz2 rfl (by decide) _ _ _ rfl (ho4.alloc _) ⟨w4.heap.size, 0, none⟩ 1 1 [.int .u16 21, .int .u8 0, .int .u8 els, .int .u32 (lo v)] rfl rfl (cells_new w4 #[.int .u16 21, .int .u8 0, .int .u8 els, .int .u32 (lo v)] 70) (by simp [Value.oneCell']) (by unfold maxLen; omega) (by omega) (by simp; omega) ?_; intro v5 w5 hown5 hg5 hnil5; obtain ⟨A5, c5, rfl⟩ := owns_form hown5; have hB5 := grownI hb4 (Nat.le_refl _) ho4 hg5; have d0 := keep_cell hB5 u0; have d1 := keep_cell hB5 u1; have d2 := keep_cell hB5 u2; have e2 := keep_cell hB5 b2; have e3 := keep_cell hB5 b3; have sz5 := hB5.size; go_frame)
    | (go_at_call 59; (with_reducible refine (L2.out w5).mono ?_); rintro e_ w6 ⟨A6, c6, rfl, ho6, hb6⟩; have g2 := keep_cell hb6 e2; have g3 := keep_cell hb6 e3; have sz6 := hb6.size)
    | (at_builtin; refine wpList_append_own _ rfl _ _ 29 rfl w5.heap.size 70 i0 _ 4 8 under29 hi0 hz0 hz1 hz2 rfl (by decide) _ _ _ rfl (ho6.alloc _) ⟨w6.heap.size, 0, none⟩ 1 1 [.int .u16 21, .int .u8 0, .int .u8 ((n1 : Int) + 1 + els), .int .u32 (hi v)] rfl rfl (cells_new w6 #[.int .u16 21, .int .u8 0, .int .u8 ((n1 : Int) + 1 + els), .int .u32 (hi v)] 70) (by simp [Value.oneCell']) (by unfold maxLen; omega) (by omega) (by simp; omega) ?_; intro v8 w8 hown8 hg8 hnil8; obtain ⟨A8, c8, rfl⟩ := owns_form hown8; have hB8 := grownI hb6 (Nat.le_refl _) ho6 hg8; have sz8 := hB8.size; go_frame)
    | (at_builtin; refine wpList_append_src _ rfl _ _ 29 rfl w5.heap.size 70 i0 _ 4 8 under29 hi0 hz0 hz1 hz2 rfl (by decide) _ _ _ rfl hown8 A5 (n1 + 1) c5 _ rfl ((src_own hown5 (one2 _ (by simp [Value.oneCell']))).below' hB8) (by unfold maxLen; omega) (by omega) (by omega) ?_; intro v9 w9 hown9 hg9 hat9; obtain ⟨A9, c9, rfl⟩ := owns_form hown9; go_frame))
  go_ret
  have e1 : (testL false 1 m v a els).length = n2 + 1 + (n1 + 1) := by simp [testL, topL, endL, Hn1.out, Hn2.out]; try omega
  have e2 : rowI (testL false 1 m v a els) = (rowI (loadL (16 + 8 * a + 4) (hi m)) ++ [.int .u16 21, .int .u8 0, .int .u8 ((n1 : Int) + 1 + els), .int .u32 (hi v)]) ++ (rowI (loadL (16 + 8 * a) (lo m)) ++ [.int .u16 21, .int .u8 0, .int .u8 els, .int .u32 (lo v)]) := by simp [testL, topL, endL, rowI_append, rowI_one, rowI_cons, rowI_nil, Ins.cells, yesI, codeOf, Hn1.out]
  refine test_end HBW.out hB3 hB5 (grownI0 hB8 (Nat.le_refl _) hown8 hg9) ?_ e1
  rw [e2]
  exact hown9
set_option maxRecDepth 100000 in
set_option maxHeartbeats 8000000 in
theorem test_1n (m v a els : Int) (h0 : 0 ≤ a) (h5 : a ≤ 5) (he0 : 0 ≤ els) (he1 : els ≤ 200) (w : World) : Calls Try.prog 38 #[nv false false true 1 m v, .int .i64 a, .int .i64 els] w (InsPost (testL true 1 m v a els) w) := by
  have PL := fun W => place_any a h0 h5 W
  have HV := fun n W => halves_any n W
  obtain ⟨i0, hi0, hz0, hz1, hz2⟩ := info_parts info70
  have hl1 := loadL_len (16 + 8 * a) (lo m)
  have hl2 := loadL_len (16 + 8 * a + 4) (hi m)
  obtain ⟨n1, hn1⟩ : ∃ n, (loadL (16 + 8 * a) (lo m)).length = n := ⟨_, rfl⟩
  obtain ⟨n2, hn2⟩ : ∃ n, (loadL (16 + 8 * a + 4) (hi m)).length = n := ⟨_, rfl⟩
  have L1 := Lib.hid (fun W => load_n (16 + 8 * a) (lo m) (lo v) W hn1)
  have L2 := Lib.hid (fun W => load_n (16 + 8 * a + 4) (hi m) (hi v) W hn2)
  rw [hn1] at hl1
  rw [hn2] at hl2
  obtain ⟨q1, q2⟩ := hl1
  obtain ⟨q3, q4⟩ := hl2
  have Hn1 := Lib.hid hn1
  have Hn2 := Lib.hid hn2
  have hmk : ∀ W, (Instr.makeMap 121 none).run Try.prog W = .ok (.map (some W.heap.size)) (W.alloc (.map #[] 0)) := fun W => rfl
  obtain ⟨W3, hW3⟩ : ∃ W3, ((w.alloc (.cells #[.bool false, .bool false, .bool true, .int .i64 1, .int .u64 m, .int .u64 v] 88)).alloc (.cells #[.int .u32 (16 + 8 * a + 4), .int .u32 (hi m), .int .u32 (hi v)] 120)).alloc (.cells #[.int .u32 (16 + 8 * a), .int .u32 (lo m), .int .u32 (lo v)] 120) = W3 := ⟨_, rfl⟩
  have B1 := below_alloc w (.cells #[.bool false, .bool false, .bool true, .int .i64 1, .int .u64 m, .int .u64 v] 88)
  have B2 := below_alloc (w.alloc (.cells #[.bool false, .bool false, .bool true, .int .i64 1, .int .u64 m, .int .u64 v] 88)) (.cells #[.int .u32 (16 + 8 * a + 4), .int .u32 (hi m), .int .u32 (hi v)] 120)
  have B3 := below_alloc ((w.alloc (.cells #[.bool false, .bool false, .bool true, .int .i64 1, .int .u64 m, .int .u64 v] 88)).alloc (.cells #[.int .u32 (16 + 8 * a + 4), .int .u32 (hi m), .int .u32 (hi v)] 120)) (.cells #[.int .u32 (16 + 8 * a), .int .u32 (lo m), .int .u32 (lo v)] 120)
  have p0 := keep_cell B3 (keep_cell B2 (new_cell w #[.bool false, .bool false, .bool true, .int .i64 1, .int .u64 m, .int .u64 v] 88 0 rfl))
  have p1 := keep_cell B3 (keep_cell B2 (new_cell w #[.bool false, .bool false, .bool true, .int .i64 1, .int .u64 m, .int .u64 v] 88 1 rfl))
  have p2 := keep_cell B3 (keep_cell B2 (new_cell w #[.bool false, .bool false, .bool true, .int .i64 1, .int .u64 m, .int .u64 v] 88 2 rfl))
  have p3 := keep_cell B3 (keep_cell B2 (new_cell w #[.bool false, .bool false, .bool true, .int .i64 1, .int .u64 m, .int .u64 v] 88 3 rfl))
  have p4 := keep_cell B3 (keep_cell B2 (new_cell w #[.bool false, .bool false, .bool true, .int .i64 1, .int .u64 m, .int .u64 v] 88 4 rfl))
  have p5 := keep_cell B3 (keep_cell B2 (new_cell w #[.bool false, .bool false, .bool true, .int .i64 1, .int .u64 m, .int .u64 v] 88 5 rfl))
  have s0 := keep_cell B3 (new_cell (w.alloc (.cells #[.bool false, .bool false, .bool true, .int .i64 1, .int .u64 m, .int .u64 v] 88)) #[.int .u32 (16 + 8 * a + 4), .int .u32 (hi m), .int .u32 (hi v)] 120 0 rfl)
  have t0 := new_cell ((w.alloc (.cells #[.bool false, .bool false, .bool true, .int .i64 1, .int .u64 m, .int .u64 v] 88)).alloc (.cells #[.int .u32 (16 + 8 * a + 4), .int .u32 (hi m), .int .u32 (hi v)] 120)) #[.int .u32 (16 + 8 * a), .int .u32 (lo m), .int .u32 (lo v)] 120 0 rfl
  have s1 := keep_cell B3 (new_cell (w.alloc (.cells #[.bool false, .bool false, .bool true, .int .i64 1, .int .u64 m, .int .u64 v] 88)) #[.int .u32 (16 + 8 * a + 4), .int .u32 (hi m), .int .u32 (hi v)] 120 1 rfl)
  have t1 := new_cell ((w.alloc (.cells #[.bool false, .bool false, .bool true, .int .i64 1, .int .u64 m, .int .u64 v] 88)).alloc (.cells #[.int .u32 (16 + 8 * a + 4), .int .u32 (hi m), .int .u32 (hi v)] 120)) #[.int .u32 (16 + 8 * a), .int .u32 (lo m), .int .u32 (lo v)] 120 1 rfl
  have s2 := keep_cell B3 (new_cell (w.alloc (.cells #[.bool false, .bool false, .bool true, .int .i64 1, .int .u64 m, .int .u64 v] 88)) #[.int .u32 (16 + 8 * a + 4), .int .u32 (hi m), .int .u32 (hi v)] 120 2 rfl)
  have t2 := new_cell ((w.alloc (.cells #[.bool false, .bool false, .bool true, .int .i64 1, .int .u64 m, .int .u64 v] 88)).alloc (.cells #[.int .u32 (16 + 8 * a + 4), .int .u32 (hi m), .int .u32 (hi v)] 120)) #[.int .u32 (16 + 8 * a), .int .u32 (lo m), .int .u32 (lo v)] 120 2 rfl
  have hs1 : (w.alloc (.cells #[.bool false, .bool false, .bool true, .int .i64 1, .int .u64 m, .int .u64 v] 88)).heap.size = w.heap.size + 1 := by simp
  have hs2 : ((w.alloc (.cells #[.bool false, .bool false, .bool true, .int .i64 1, .int .u64 m, .int .u64 v] 88)).alloc (.cells #[.int .u32 (16 + 8 * a + 4), .int .u32 (hi m), .int .u32 (hi v)] 120)).heap.size = w.heap.size + 1 + 1 := by simp
  have hBW : Below w.heap.size w W3 := by rw [← hW3]; exact (B1.trans (B2.mono (by simp))).trans (B3.mono (by simp; omega))
  rw [hs1] at s0 s1 s2
  rw [hs2] at t0 t1 t2
  rw [hW3] at p0 p1 p2 p3 p4 p5 s0 s1 s2 t0 t1 t2
  simp only [List.getElem?_toArray, List.getElem_toArray] at p0 p1 p2 p3 p4 p5 s0 s1 s2 t0 t1 t2
  have hC0 := CodeIs.made W3
  have HB0 : Hid (∀ x1 x2 x3, (W3.alloc (.map #[] 0)).grownBy x1 (some W3.heap.size) → x1.grownBy x2 (some W3.heap.size) → x2.grownBy x3 (some W3.heap.size) → Below W3.heap.size W3 x3) := Lib.hid (fun x1 x2 x3 g1 g2 g3 => by
    have b0 := below_alloc W3 (.map #[] 0)
    have b1 := grown_below g1 b0.size (Nat.le_refl _)
    have b2 := grown_below g2 (Nat.le_trans b0.size b1.size) (Nat.le_refl _)
    have b3 := grown_below g3 (Nat.le_trans (Nat.le_trans b0.size b1.size) b2.size) (Nat.le_refl _)
    exact ((b0.trans b1).trans b2).trans b3)
  have HBW := Lib.hid hBW
  clear hn1 hn2 B1 B2 B3 hs1 hs2 hBW
  unfold nv
  go_enter Try.func38, Try.ntmps38
  go_upto_region 5 with (first
    | (go_at_call 57; refine (PL _).mono ?_; rintro e_ wp ⟨rfl, rfl⟩)
    | (go_at_call 58; refine (HV _ _).mono ?_; rintro e_ wp ⟨rfl, rfl⟩))
  try rw [hW3]
  clear hW3
  go_upto_region 6 with (first
    | (refine wpList_ins _ rfl _ _ _ rfl W3.heap.size 0 _ rfl hC0 (by omega) 1 21 rfl rfl (by decide) (by decide) ?_; intro x1 hC1 hG1)
    | (refine wpList_ins _ rfl _ _ _ rfl W3.heap.size 1 _ rfl hC1 (by omega) 5 37 rfl rfl (by decide) (by decide) ?_; intro x2 hC2 hG2)
    | (refine wpList_ins _ rfl _ _ _ rfl W3.heap.size 2 _ rfl hC2 (by omega) 6 53 rfl rfl (by decide) (by decide) ?_; intro x3 hC3 hG3; have hlk : (Instr.lookup 121 (.map (some W3.heap.size)) (.int .i64 1) false).run Try.prog x3 = .ok (.int .u16 21) x3 := hC3.look 1 (by decide); have hB3 := HB0.out x1 x2 x3 hG1 hG2 hG3; have b0 := keep_cell hB3 p0; have b1 := keep_cell hB3 p1; have b2 := keep_cell hB3 p2; have b3 := keep_cell hB3 p3; have b4 := keep_cell hB3 p4; have b5 := keep_cell hB3 p5; have u0 := keep_cell hB3 s0; have u1 := keep_cell hB3 s1; have u2 := keep_cell hB3 s2; have l0 := keep_cell hB3 t0; have l1' := keep_cell hB3 t1; have l2' := keep_cell hB3 t2; clear hG1 hG2 hG3 hC1 hC2 hC3))
  go_wp2_with (first
    | (go_at_call 59; (with_reducible refine (L1.out x3).mono ?_); rintro e_ w4 ⟨A4, c4, rfl, ho4, hb4⟩; have i2 := keep_cell hb4 b2; have i3 := keep_cell hb4 b3; have sz4 := hb4.size)
    | (at_builtin; refine wpList_append_own _ rfl _ _ 29 rfl x3.heap.size 70 i0 _ 4 8 under29 hi0 hz0 hz1 hz2 rfl (by decide) _ _ _ rfl (ho4.alloc _) ⟨w4.heap.size, 0, none⟩ 1 1 [.int .u16 21, .int .u8 els, .int .u8 0, .int .u32 (lo v)] rfl rfl (cells_new w4 #[.int .u16 21, .int .u8 els, .int .u8 0, .int .u32 (lo v)] 70) (by simp [Value.oneCell']) (by unfold maxLen; omega) (by omega) (by simp; omega) ?_; intro v5 w5 hown5 hg5 hnil5; obtain ⟨A5, c5, rfl⟩ := owns_form hown5; have hB5 := grownI hb4 (Nat.le_refl _) ho4 hg5; have d0 := keep_cell hB5 u0; have d1 := keep_cell hB5 u1; have d2 := keep_cell hB5 u2; have e2 := keep_cell hB5 b2; have e3 := keep_cell hB5 b3; have sz5 := hB5.size; go_frame)
    | (go_at_call 59; (with_reducible refine (L2.out w5).mono ?_); rintro e_ w6 ⟨A6, c6, rfl, ho6, hb6⟩; have g2 := keep_cell hb6 e2; have g3 := keep_cell hb6 e3; have sz6 := hb6.size)
    | (at_builtin; refine wpList_append_own _ rfl _ _ 29 rfl w5.heap.size 70 i0 _ 4 8 under29 hi0 hz0 hz1 hz2 rfl (by decide) _ _ _ rfl (ho6.alloc _) ⟨w6.heap.size, 0, none⟩ 1 1 [.int .u16 21, .int .u8 0, .int .u8 ((n1 : Int) + 1), .int .u32 (hi v)] rfl rfl (cells_new w6 #[.int .u16 21, .int .u8 0, .int .u8 ((n1 : Int) + 1), .int .u32 (hi v)] 70) (by simp [Value.oneCell']) (by unfold maxLen; omega) (by omega) (by simp; omega) ?_; intro v8 w8 hown8 hg8 hnil8; obtain ⟨A8, c8, rfl⟩ := owns_form hown8; have hB8 := grownI hb6 (Nat.le_refl _) ho6 hg8; have sz8 := hB8.size; go_frame)
    | (at_builtin; refine wpList_append_src _ rfl _ _ 29 rfl w5.heap.size 70 i0 _ 4 8 under29 hi0 hz0 hz1 hz2 rfl (by decide) _ _ _ rfl hown8 A5 (n1 + 1) c5 _ rfl ((src_own hown5 (one2 _ (by simp [Value.oneCell']))).below' hB8) (by unfold maxLen; omega) (by omega) (by omega) ?_; intro v9 w9 hown9 hg9 hat9; obtain ⟨A9, c9, rfl⟩ := owns_form hown9; go_frame))
  go_ret
  have e1 : (testL true 1 m v a els).length = n2 + 1 + (n1 + 1) := by simp [testL, topL, endL, Hn1.out, Hn2.out]; try omega
  have e2 : rowI (testL true 1 m v a els) = (rowI (loadL (16 + 8 * a + 4) (hi m)) ++ [.int .u16 21, .int .u8 0, .int .u8 ((n1 : Int) + 1), .int .u32 (hi v)]) ++ (rowI (loadL (16 + 8 * a) (lo m)) ++ [.int .u16 21, .int .u8 els, .int .u8 0, .int .u32 (lo v)]) := by simp [testL, topL, endL, rowI_append, rowI_one, rowI_cons, rowI_nil, Ins.cells, yesI, codeOf, Hn1.out]
  refine test_end HBW.out hB3 hB5 (grownI0 hB8 (Nat.le_refl _) hown8 hg9) ?_ e1
  rw [e2]
  exact hown9
set_option maxRecDepth 100000 in
set_option maxHeartbeats 8000000 in
theorem test_5y (m v a els : Int) (h0 : 0 ≤ a) (h5 : a ≤ 5) (he0 : 0 ≤ els) (he1 : els ≤ 200) (w : World) : Calls Try.prog 38 #[nv false false false 5 m v, .int .i64 a, .int .i64 els] w (InsPost (testL false 5 m v a els) w) := by
  have PL := fun W => place_any a h0 h5 W
  have HV := fun n W => halves_any n W
  obtain ⟨i0, hi0, hz0, hz1, hz2⟩ := info_parts info70
  have hl1 := loadL_len (16 + 8 * a) (lo m)
  have hl2 := loadL_len (16 + 8 * a + 4) (hi m)
  obtain ⟨n1, hn1⟩ : ∃ n, (loadL (16 + 8 * a) (lo m)).length = n := ⟨_, rfl⟩
  obtain ⟨n2, hn2⟩ : ∃ n, (loadL (16 + 8 * a + 4) (hi m)).length = n := ⟨_, rfl⟩
  have L1 := Lib.hid (fun W => load_n (16 + 8 * a) (lo m) (lo v) W hn1)
  have L2 := Lib.hid (fun W => load_n (16 + 8 * a + 4) (hi m) (hi v) W hn2)
  rw [hn1] at hl1
  rw [hn2] at hl2
  obtain ⟨q1, q2⟩ := hl1
  obtain ⟨q3, q4⟩ := hl2
  have Hn1 := Lib.hid hn1
  have Hn2 := Lib.hid hn2
  have hmk : ∀ W, (Instr.makeMap 121 none).run Try.prog W = .ok (.map (some W.heap.size)) (W.alloc (.map #[] 0)) := fun W => rfl
  obtain ⟨W3, hW3⟩ : ∃ W3, ((w.alloc (.cells #[.bool false, .bool false, .bool false, .int .i64 5, .int .u64 m, .int .u64 v] 88)).alloc (.cells #[.int .u32 (16 + 8 * a + 4), .int .u32 (hi m), .int .u32 (hi v)] 120)).alloc (.cells #[.int .u32 (16 + 8 * a), .int .u32 (lo m), .int .u32 (lo v)] 120) = W3 := ⟨_, rfl⟩
  have B1 := below_alloc w (.cells #[.bool false, .bool false, .bool false, .int .i64 5, .int .u64 m, .int .u64 v] 88)
  have B2 := below_alloc (w.alloc (.cells #[.bool false, .bool false, .bool false, .int .i64 5, .int .u64 m, .int .u64 v] 88)) (.cells #[.int .u32 (16 + 8 * a + 4), .int .u32 (hi m), .int .u32 (hi v)] 120)
  have B3 := below_alloc ((w.alloc (.cells #[.bool false, .bool false, .bool false, .int .i64 5, .int .u64 m, .int .u64 v] 88)).alloc (.cells #[.int .u32 (16 + 8 * a + 4), .int .u32 (hi m), .int .u32 (hi v)] 120)) (.cells #[.int .u32 (16 + 8 * a), .int .u32 (lo m), .int .u32 (lo v)] 120)
  have p0 := keep_cell B3 (keep_cell B2 (new_cell w #[.bool false, .bool false, .bool false, .int .i64 5, .int .u64 m, .int .u64 v] 88 0 rfl))
  have p1 := keep_cell B3 (keep_cell B2 (new_cell w #[.bool false, .bool false, .bool false, .int .i64 5, .int .u64 m, .int .u64 v] 88 1 rfl))
  have p2 := keep_cell B3 (keep_cell B2 (new_cell w #[.bool false, .bool false, .bool false, .int .i64 5, .int .u64 m, .int .u64 v] 88 2 rfl))
  have p3 := keep_cell B3 (keep_cell B2 (new_cell w #[.bool false, .bool false, .bool false, .int .i64 5, .int .u64 m, .int .u64 v] 88 3 rfl))
  have p4 := keep_cell B3 (keep_cell B2 (new_cell w #[.bool false, .bool false, .bool false, .int .i64 5, .int .u64 m, .int .u64 v] 88 4 rfl))
  have p5 := keep_cell B3 (keep_cell B2 (new_cell w #[.bool false, .bool false, .bool false, .int .i64 5, .int .u64 m, .int .u64 v] 88 5 rfl))
  have s0 := keep_cell B3 (new_cell (w.alloc (.cells #[.bool false, .bool false, .bool false, .int .i64 5, .int .u64 m, .int .u64 v] 88)) #[.int .u32 (16 + 8 * a + 4), .int .u32 (hi m), .int .u32 (hi v)] 120 0 rfl)
  have t0 := new_cell ((w.alloc (.cells #[.bool false, .bool false, .bool false, .int .i64 5, .int .u64 m, .int .u64 v] 88)).alloc (.cells #[.int .u32 (16 + 8 * a + 4), .int .u32 (hi m), .int .u32 (hi v)] 120)) #[.int .u32 (16 + 8 * a), .int .u32 (lo m), .int .u32 (lo v)] 120 0 rfl
  have s1 := keep_cell B3 (new_cell (w.alloc (.cells #[.bool false, .bool false, .bool false, .int .i64 5, .int .u64 m, .int .u64 v] 88)) #[.int .u32 (16 + 8 * a + 4), .int .u32 (hi m), .int .u32 (hi v)] 120 1 rfl)
  have t1 := new_cell ((w.alloc (.cells #[.bool false, .bool false, .bool false, .int .i64 5, .int .u64 m, .int .u64 v] 88)).alloc (.cells #[.int .u32 (16 + 8 * a + 4), .int .u32 (hi m), .int .u32 (hi v)] 120)) #[.int .u32 (16 + 8 * a), .int .u32 (lo m), .int .u32 (lo v)] 120 1 rfl
  have s2 := keep_cell B3 (new_cell (w.alloc (.cells #[.bool false, .bool false, .bool false, .int .i64 5, .int .u64 m, .int .u64 v] 88)) #[.int .u32 (16 + 8 * a + 4), .int .u32 (hi m), .int .u32 (hi v)] 120 2 rfl)
  have t2 := new_cell ((w.alloc (.cells #[.bool false, .bool false, .bool false, .int .i64 5, .int .u64 m, .int .u64 v] 88)).alloc (.cells #[.int .u32 (16 + 8 * a + 4), .int .u32 (hi m), .int .u32 (hi v)] 120)) #[.int .u32 (16 + 8 * a), .int .u32 (lo m), .int .u32 (lo v)] 120 2 rfl
  have hs1 : (w.alloc (.cells #[.bool false, .bool false, .bool false, .int .i64 5, .int .u64 m, .int .u64 v] 88)).heap.size = w.heap.size + 1 := by simp
  have hs2 : ((w.alloc (.cells #[.bool false, .bool false, .bool false, .int .i64 5, .int .u64 m, .int .u64 v] 88)).alloc (.cells #[.int .u32 (16 + 8 * a + 4), .int .u32 (hi m), .int .u32 (hi v)] 120)).heap.size = w.heap.size + 1 + 1 := by simp
  have hBW : Below w.heap.size w W3 := by rw [← hW3]; exact (B1.trans (B2.mono (by simp))).trans (B3.mono (by simp; omega))
  rw [hs1] at s0 s1 s2
  rw [hs2] at t0 t1 t2
  rw [hW3] at p0 p1 p2 p3 p4 p5 s0 s1 s2 t0 t1 t2
  simp only [List.getElem?_toArray, List.getElem_toArray] at p0 p1 p2 p3 p4 p5 s0 s1 s2 t0 t1 t2
  have hC0 := CodeIs.made W3
  have HB0 : Hid (∀ x1 x2 x3, (W3.alloc (.map #[] 0)).grownBy x1 (some W3.heap.size) → x1.grownBy x2 (some W3.heap.size) → x2.grownBy x3 (some W3.heap.size) → Below W3.heap.size W3 x3) := Lib.hid (fun x1 x2 x3 g1 g2 g3 => by
    have b0 := below_alloc W3 (.map #[] 0)
    have b1 := grown_below g1 b0.size (Nat.le_refl _)
    have b2 := grown_below g2 (Nat.le_trans b0.size b1.size) (Nat.le_refl _)
    have b3 := grown_below g3 (Nat.le_trans (Nat.le_trans b0.size b1.size) b2.size) (Nat.le_refl _)
    exact ((b0.trans b1).trans b2).trans b3)
  have HBW := Lib.hid hBW
  clear hn1 hn2 B1 B2 B3 hs1 hs2 hBW
  unfold nv
  go_enter Try.func38, Try.ntmps38
  go_upto_region 5 with (first
    | (go_at_call 57; refine (PL _).mono ?_; rintro e_ wp ⟨rfl, rfl⟩)
    | (go_at_call 58; refine (HV _ _).mono ?_; rintro e_ wp ⟨rfl, rfl⟩))
  try rw [hW3]
  clear hW3
  go_upto_region 6 with (first
    | (refine wpList_ins _ rfl _ _ _ rfl W3.heap.size 0 _ rfl hC0 (by omega) 1 21 rfl rfl (by decide) (by decide) ?_; intro x1 hC1 hG1)
    | (refine wpList_ins _ rfl _ _ _ rfl W3.heap.size 1 _ rfl hC1 (by omega) 5 37 rfl rfl (by decide) (by decide) ?_; intro x2 hC2 hG2)
    | (refine wpList_ins _ rfl _ _ _ rfl W3.heap.size 2 _ rfl hC2 (by omega) 6 53 rfl rfl (by decide) (by decide) ?_; intro x3 hC3 hG3; have hlk : (Instr.lookup 121 (.map (some W3.heap.size)) (.int .i64 5) false).run Try.prog x3 = .ok (.int .u16 37) x3 := hC3.look 5 (by decide); have hB3 := HB0.out x1 x2 x3 hG1 hG2 hG3; have b0 := keep_cell hB3 p0; have b1 := keep_cell hB3 p1; have b2 := keep_cell hB3 p2; have b3 := keep_cell hB3 p3; have b4 := keep_cell hB3 p4; have b5 := keep_cell hB3 p5; have u0 := keep_cell hB3 s0; have u1 := keep_cell hB3 s1; have u2 := keep_cell hB3 s2; have l0 := keep_cell hB3 t0; have l1' := keep_cell hB3 t1; have l2' := keep_cell hB3 t2; clear hG1 hG2 hG3 hC1 hC2 hC3))
  go_wp2_with (first
    | (go_at_call 59; (with_reducible refine (L1.out x3).mono ?_); rintro e_ w4 ⟨A4, c4, rfl, ho4, hb4⟩; have i2 := keep_cell hb4 b2; have i3 := keep_cell hb4 b3; have sz4 := hb4.size)
    | (at_builtin; refine wpList_append_own _ rfl _ _ 29 rfl x3.heap.size 70 i0 _ 4 8 under29 hi0 hz0 hz1 hz2 rfl (by decide) _ _ _ rfl (ho4.alloc _) ⟨w4.heap.size, 0, none⟩ 1 1 [.int .u16 37, .int .u8 0, .int .u8 els, .int .u32 (lo v)] rfl rfl (cells_new w4 #[.int .u16 37, .int .u8 0, .int .u8 els, .int .u32 (lo v)] 70) (by simp [Value.oneCell']) (by unfold maxLen; omega) (by omega) (by simp; omega) ?_; intro v5 w5 hown5 hg5 hnil5; obtain ⟨A5, c5, rfl⟩ := owns_form hown5; have hB5 := grownI hb4 (Nat.le_refl _) ho4 hg5; have d0 := keep_cell hB5 u0; have d1 := keep_cell hB5 u1; have d2 := keep_cell hB5 u2; have e2 := keep_cell hB5 b2; have e3 := keep_cell hB5 b3; have sz5 := hB5.size; go_frame)
    | (go_at_call 59; (with_reducible refine (L2.out w5).mono ?_); rintro e_ w6 ⟨A6, c6, rfl, ho6, hb6⟩; have g2 := keep_cell hb6 e2; have g3 := keep_cell hb6 e3; have sz6 := hb6.size)
    | (at_builtin; refine wpList_append_own _ rfl _ _ 29 rfl w5.heap.size 70 i0 _ 4 8 under29 hi0 hz0 hz1 hz2 rfl (by decide) _ _ _ rfl (ho6.alloc _) ⟨w6.heap.size, 0, none⟩ 1 1 [.int .u16 37, .int .u8 (((n1 : Int) + 1) + 1), .int .u8 0, .int .u32 (hi v)] rfl rfl (cells_new w6 #[.int .u16 37, .int .u8 (((n1 : Int) + 1) + 1), .int .u8 0, .int .u32 (hi v)] 70) (by simp [Value.oneCell']) (by unfold maxLen; omega) (by omega) (by simp; omega) ?_; intro v7 w7 hown7 hg7 hnil7; obtain ⟨A7, c7, rfl⟩ := owns_form hown7; have hB7 := grownI hb6 (Nat.le_refl _) ho6 hg7; have sz7 := hB7.size; go_frame)
    | (at_builtin; refine wpList_append_own _ rfl _ _ 29 rfl w5.heap.size 70 i0 _ 4 8 under29 hi0 hz0 hz1 hz2 rfl (by decide) _ _ _ rfl (hown7.alloc _) ⟨w7.heap.size, 0, none⟩ 1 1 [.int .u16 21, .int .u8 0, .int .u8 ((n1 : Int) + 1 + els), .int .u32 (hi v)] rfl rfl (cells_new w7 #[.int .u16 21, .int .u8 0, .int .u8 ((n1 : Int) + 1 + els), .int .u32 (hi v)] 70) (by simp [Value.oneCell']) (by unfold maxLen; omega) (by omega) (by simp; omega) ?_; intro v8 w8 hown8 hg8 hnil8; obtain ⟨A8, c8, rfl⟩ := owns_form hown8; have hB8 := grownI hB7 (Nat.le_refl _) hown7 hg8; have sz8 := hB8.size; go_frame)
    | (at_builtin; refine wpList_append_src _ rfl _ _ 29 rfl w5.heap.size 70 i0 _ 4 8 under29 hi0 hz0 hz1 hz2 rfl (by decide) _ _ _ rfl hown8 A5 (n1 + 1) c5 _ rfl ((src_own hown5 (one2 _ (by simp [Value.oneCell']))).below' hB8) (by unfold maxLen; omega) (by omega) (by omega) ?_; intro v9 w9 hown9 hg9 hat9; obtain ⟨A9, c9, rfl⟩ := owns_form hown9; go_frame))
  go_ret
  have e1 : (testL false 5 m v a els).length = n2 + 1 + 1 + (n1 + 1) := by simp [testL, topL, endL, Hn1.out, Hn2.out]; try omega
  have e2 : rowI (testL false 5 m v a els) = (rowI (loadL (16 + 8 * a + 4) (hi m)) ++ [.int .u16 37, .int .u8 (((n1 : Int) + 1) + 1), .int .u8 0, .int .u32 (hi v)] ++ [.int .u16 21, .int .u8 0, .int .u8 ((n1 : Int) + 1 + els), .int .u32 (hi v)]) ++ (rowI (loadL (16 + 8 * a) (lo m)) ++ [.int .u16 37, .int .u8 0, .int .u8 els, .int .u32 (lo v)]) := by simp [testL, topL, endL, rowI_append, rowI_one, rowI_cons, rowI_nil, Ins.cells, yesI, codeOf, Hn1.out]
  refine test_end HBW.out hB3 hB5 (grownI0 hB8 (Nat.le_refl _) hown8 hg9) ?_ e1
  rw [e2]
  exact hown9
set_option maxRecDepth 100000 in
set_option maxHeartbeats 8000000 in
theorem test_5n (m v a els : Int) (h0 : 0 ≤ a) (h5 : a ≤ 5) (he0 : 0 ≤ els) (he1 : els ≤ 200) (w : World) : Calls Try.prog 38 #[nv false false true 5 m v, .int .i64 a, .int .i64 els] w (InsPost (testL true 5 m v a els) w) := by
  have PL := fun W => place_any a h0 h5 W
  have HV := fun n W => halves_any n W
  obtain ⟨i0, hi0, hz0, hz1, hz2⟩ := info_parts info70
  have hl1 := loadL_len (16 + 8 * a) (lo m)
  have hl2 := loadL_len (16 + 8 * a + 4) (hi m)
  obtain ⟨n1, hn1⟩ : ∃ n, (loadL (16 + 8 * a) (lo m)).length = n := ⟨_, rfl⟩
  obtain ⟨n2, hn2⟩ : ∃ n, (loadL (16 + 8 * a + 4) (hi m)).length = n := ⟨_, rfl⟩
  have L1 := Lib.hid (fun W => load_n (16 + 8 * a) (lo m) (lo v) W hn1)
  have L2 := Lib.hid (fun W => load_n (16 + 8 * a + 4) (hi m) (hi v) W hn2)
  rw [hn1] at hl1
  rw [hn2] at hl2
  obtain ⟨q1, q2⟩ := hl1
  obtain ⟨q3, q4⟩ := hl2
  have Hn1 := Lib.hid hn1
  have Hn2 := Lib.hid hn2
  have hmk : ∀ W, (Instr.makeMap 121 none).run Try.prog W = .ok (.map (some W.heap.size)) (W.alloc (.map #[] 0)) := fun W => rfl
  obtain ⟨W3, hW3⟩ : ∃ W3, ((w.alloc (.cells #[.bool false, .bool false, .bool true, .int .i64 5, .int .u64 m, .int .u64 v] 88)).alloc (.cells #[.int .u32 (16 + 8 * a + 4), .int .u32 (hi m), .int .u32 (hi v)] 120)).alloc (.cells #[.int .u32 (16 + 8 * a), .int .u32 (lo m), .int .u32 (lo v)] 120) = W3 := ⟨_, rfl⟩
  have B1 := below_alloc w (.cells #[.bool false, .bool false, .bool true, .int .i64 5, .int .u64 m, .int .u64 v] 88)
  have B2 := below_alloc (w.alloc (.cells #[.bool false, .bool false, .bool true, .int .i64 5, .int .u64 m, .int .u64 v] 88)) (.cells #[.int .u32 (16 + 8 * a + 4), .int .u32 (hi m), .int .u32 (hi v)] 120)
  have B3 := below_alloc ((w.alloc (.cells #[.bool false, .bool false, .bool true, .int .i64 5, .int .u64 m, .int .u64 v] 88)).alloc (.cells #[.int .u32 (16 + 8 * a + 4), .int .u32 (hi m), .int .u32 (hi v)] 120)) (.cells #[.int .u32 (16 + 8 * a), .int .u32 (lo m), .int .u32 (lo v)] 120)
  have p0 := keep_cell B3 (keep_cell B2 (new_cell w #[.bool false, .bool false, .bool true, .int .i64 5, .int .u64 m, .int .u64 v] 88 0 rfl))
  have p1 := keep_cell B3 (keep_cell B2 (new_cell w #[.bool false, .bool false, .bool true, .int .i64 5, .int .u64 m, .int .u64 v] 88 1 rfl))
  have p2 := keep_cell B3 (keep_cell B2 (new_cell w #[.bool false, .bool false, .bool true, .int .i64 5, .int .u64 m, .int .u64 v] 88 2 rfl))
  have p3 := keep_cell B3 (keep_cell B2 (new_cell w #[.bool false, .bool false, .bool true, .int .i64 5, .int .u64 m, .int .u64 v] 88 3 rfl))
  have p4 := keep_cell B3 (keep_cell B2 (new_cell w #[.bool false, .bool false, .bool true, .int .i64 5, .int .u64 m, .int .u64 v] 88 4 rfl))
  have p5 := keep_cell B3 (keep_cell B2 (new_cell w #[.bool false, .bool false, .bool true, .int .i64 5, .int .u64 m, .int .u64 v] 88 5 rfl))
  have s0 := keep_cell B3 (new_cell (w.alloc (.cells #[.bool false, .bool false, .bool true, .int .i64 5, .int .u64 m, .int .u64 v] 88)) #[.int .u32 (16 + 8 * a + 4), .int .u32 (hi m), .int .u32 (hi v)] 120 0 rfl)
  have t0 := new_cell ((w.alloc (.cells #[.bool false, .bool false, .bool true, .int .i64 5, .int .u64 m, .int .u64 v] 88)).alloc (.cells #[.int .u32 (16 + 8 * a + 4), .int .u32 (hi m), .int .u32 (hi v)] 120)) #[.int .u32 (16 + 8 * a), .int .u32 (lo m), .int .u32 (lo v)] 120 0 rfl
  have s1 := keep_cell B3 (new_cell (w.alloc (.cells #[.bool false, .bool false, .bool true, .int .i64 5, .int .u64 m, .int .u64 v] 88)) #[.int .u32 (16 + 8 * a + 4), .int .u32 (hi m), .int .u32 (hi v)] 120 1 rfl)
  have t1 := new_cell ((w.alloc (.cells #[.bool false, .bool false, .bool true, .int .i64 5, .int .u64 m, .int .u64 v] 88)).alloc (.cells #[.int .u32 (16 + 8 * a + 4), .int .u32 (hi m), .int .u32 (hi v)] 120)) #[.int .u32 (16 + 8 * a), .int .u32 (lo m), .int .u32 (lo v)] 120 1 rfl
  have s2 := keep_cell B3 (new_cell (w.alloc (.cells #[.bool false, .bool false, .bool true, .int .i64 5, .int .u64 m, .int .u64 v] 88)) #[.int .u32 (16 + 8 * a + 4), .int .u32 (hi m), .int .u32 (hi v)] 120 2 rfl)
  have t2 := new_cell ((w.alloc (.cells #[.bool false, .bool false, .bool true, .int .i64 5, .int .u64 m, .int .u64 v] 88)).alloc (.cells #[.int .u32 (16 + 8 * a + 4), .int .u32 (hi m), .int .u32 (hi v)] 120)) #[.int .u32 (16 + 8 * a), .int .u32 (lo m), .int .u32 (lo v)] 120 2 rfl
  have hs1 : (w.alloc (.cells #[.bool false, .bool false, .bool true, .int .i64 5, .int .u64 m, .int .u64 v] 88)).heap.size = w.heap.size + 1 := by simp
  have hs2 : ((w.alloc (.cells #[.bool false, .bool false, .bool true, .int .i64 5, .int .u64 m, .int .u64 v] 88)).alloc (.cells #[.int .u32 (16 + 8 * a + 4), .int .u32 (hi m), .int .u32 (hi v)] 120)).heap.size = w.heap.size + 1 + 1 := by simp
  have hBW : Below w.heap.size w W3 := by rw [← hW3]; exact (B1.trans (B2.mono (by simp))).trans (B3.mono (by simp; omega))
  rw [hs1] at s0 s1 s2
  rw [hs2] at t0 t1 t2
  rw [hW3] at p0 p1 p2 p3 p4 p5 s0 s1 s2 t0 t1 t2
  simp only [List.getElem?_toArray, List.getElem_toArray] at p0 p1 p2 p3 p4 p5 s0 s1 s2 t0 t1 t2
  have hC0 := CodeIs.made W3
  have HB0 : Hid (∀ x1 x2 x3, (W3.alloc (.map #[] 0)).grownBy x1 (some W3.heap.size) → x1.grownBy x2 (some W3.heap.size) → x2.grownBy x3 (some W3.heap.size) → Below W3.heap.size W3 x3) := Lib.hid (fun x1 x2 x3 g1 g2 g3 => by
    have b0 := below_alloc W3 (.map #[] 0)
    have b1 := grown_below g1 b0.size (Nat.le_refl _)
    have b2 := grown_below g2 (Nat.le_trans b0.size b1.size) (Nat.le_refl _)
    have b3 := grown_below g3 (Nat.le_trans (Nat.le_trans b0.size b1.size) b2.size) (Nat.le_refl _)
    exact ((b0.trans b1).trans b2).trans b3)
  have HBW := Lib.hid hBW
  clear hn1 hn2 B1 B2 B3 hs1 hs2 hBW
  unfold nv
  go_enter Try.func38, Try.ntmps38
  go_upto_region 5 with (first
    | (go_at_call 57; refine (PL _).mono ?_; rintro e_ wp ⟨rfl, rfl⟩)
    | (go_at_call 58; refine (HV _ _).mono ?_; rintro e_ wp ⟨rfl, rfl⟩))
  try rw [hW3]
  clear hW3
  go_upto_region 6 with (first
    | (refine wpList_ins _ rfl _ _ _ rfl W3.heap.size 0 _ rfl hC0 (by omega) 1 21 rfl rfl (by decide) (by decide) ?_; intro x1 hC1 hG1)
    | (refine wpList_ins _ rfl _ _ _ rfl W3.heap.size 1 _ rfl hC1 (by omega) 5 37 rfl rfl (by decide) (by decide) ?_; intro x2 hC2 hG2)
    | (refine wpList_ins _ rfl _ _ _ rfl W3.heap.size 2 _ rfl hC2 (by omega) 6 53 rfl rfl (by decide) (by decide) ?_; intro x3 hC3 hG3; have hlk : (Instr.lookup 121 (.map (some W3.heap.size)) (.int .i64 5) false).run Try.prog x3 = .ok (.int .u16 37) x3 := hC3.look 5 (by decide); have hB3 := HB0.out x1 x2 x3 hG1 hG2 hG3; have b0 := keep_cell hB3 p0; have b1 := keep_cell hB3 p1; have b2 := keep_cell hB3 p2; have b3 := keep_cell hB3 p3; have b4 := keep_cell hB3 p4; have b5 := keep_cell hB3 p5; have u0 := keep_cell hB3 s0; have u1 := keep_cell hB3 s1; have u2 := keep_cell hB3 s2; have l0 := keep_cell hB3 t0; have l1' := keep_cell hB3 t1; have l2' := keep_cell hB3 t2; clear hG1 hG2 hG3 hC1 hC2 hC3))
  go_wp2_with (first
    | (go_at_call 59; (with_reducible refine (L1.out x3).mono ?_); rintro e_ w4 ⟨A4, c4, rfl, ho4, hb4⟩; have i2 := keep_cell hb4 b2; have i3 := keep_cell hb4 b3; have sz4 := hb4.size)
    | (at_builtin; refine wpList_append_own _ rfl _ _ 29 rfl x3.heap.size 70 i0 _ 4 8 under29 hi0 hz0 hz1 hz2 rfl (by decide) _ _ _ rfl (ho4.alloc _) ⟨w4.heap.size, 0, none⟩ 1 1 [.int .u16 37, .int .u8 els, .int .u8 0, .int .u32 (lo v)] rfl rfl (cells_new w4 #[.int .u16 37, .int .u8 els, .int .u8 0, .int .u32 (lo v)] 70) (by simp [Value.oneCell']) (by unfold maxLen; omega) (by omega) (by simp; omega) ?_; intro v5 w5 hown5 hg5 hnil5; obtain ⟨A5, c5, rfl⟩ := owns_form hown5; have hB5 := grownI hb4 (Nat.le_refl _) ho4 hg5; have d0 := keep_cell hB5 u0; have d1 := keep_cell hB5 u1; have d2 := keep_cell hB5 u2; have e2 := keep_cell hB5 b2; have e3 := keep_cell hB5 b3; have sz5 := hB5.size; go_frame)
    | (go_at_call 59; (with_reducible refine (L2.out w5).mono ?_); rintro e_ w6 ⟨A6, c6, rfl, ho6, hb6⟩; have g2 := keep_cell hb6 e2; have g3 := keep_cell hb6 e3; have sz6 := hb6.size)
    | (at_builtin; refine wpList_append_own _ rfl _ _ 29 rfl w5.heap.size 70 i0 _ 4 8 under29 hi0 hz0 hz1 hz2 rfl (by decide) _ _ _ rfl (ho6.alloc _) ⟨w6.heap.size, 0, none⟩ 1 1 [.int .u16 37, .int .u8 (((n1 : Int) + 1 + els) + 1), .int .u8 0, .int .u32 (hi v)] rfl rfl (cells_new w6 #[.int .u16 37, .int .u8 (((n1 : Int) + 1 + els) + 1), .int .u8 0, .int .u32 (hi v)] 70) (by simp [Value.oneCell']) (by unfold maxLen; omega) (by omega) (by simp; omega) ?_; intro v7 w7 hown7 hg7 hnil7; obtain ⟨A7, c7, rfl⟩ := owns_form hown7; have hB7 := grownI hb6 (Nat.le_refl _) ho6 hg7; have sz7 := hB7.size; go_frame)
    | (at_builtin; refine wpList_append_own _ rfl _ _ 29 rfl w5.heap.size 70 i0 _ 4 8 under29 hi0 hz0 hz1 hz2 rfl (by decide) _ _ _ rfl (hown7.alloc _) ⟨w7.heap.size, 0, none⟩ 1 1 [.int .u16 21, .int .u8 0, .int .u8 ((n1 : Int) + 1), .int .u32 (hi v)] rfl rfl (cells_new w7 #[.int .u16 21, .int .u8 0, .int .u8 ((n1 : Int) + 1), .int .u32 (hi v)] 70) (by simp [Value.oneCell']) (by unfold maxLen; omega) (by omega) (by simp; omega) ?_; intro v8 w8 hown8 hg8 hnil8; obtain ⟨A8, c8, rfl⟩ := owns_form hown8; have hB8 := grownI hB7 (Nat.le_refl _) hown7 hg8; have sz8 := hB8.size; go_frame)
    | (at_builtin; refine wpList_append_src _ rfl _ _ 29 rfl w5.heap.size 70 i0 _ 4 8 under29 hi0 hz0 hz1 hz2 rfl (by decide) _ _ _ rfl hown8 A5 (n1 + 1) c5 _ rfl ((src_own hown5 (one2 _ (by simp [Value.oneCell']))).below' hB8) (by unfold maxLen; omega) (by omega) (by omega) ?_; intro v9 w9 hown9 hg9 hat9; obtain ⟨A9, c9, rfl⟩ := owns_form hown9; go_frame))
  go_ret
  have e1 : (testL true 5 m v a els).length = n2 + 1 + 1 + (n1 + 1) := by simp [testL, topL, endL, Hn1.out, Hn2.out]; try omega
  have e2 : rowI (testL true 5 m v a els) = (rowI (loadL (16 + 8 * a + 4) (hi m)) ++ [.int .u16 37, .int .u8 (((n1 : Int) + 1 + els) + 1), .int .u8 0, .int .u32 (hi v)] ++ [.int .u16 21, .int .u8 0, .int .u8 ((n1 : Int) + 1), .int .u32 (hi v)]) ++ (rowI (loadL (16 + 8 * a) (lo m)) ++ [.int .u16 37, .int .u8 els, .int .u8 0, .int .u32 (lo v)]) := by simp [testL, topL, endL, rowI_append, rowI_one, rowI_cons, rowI_nil, Ins.cells, yesI, codeOf, Hn1.out]
  refine test_end HBW.out hB3 hB5 (grownI0 hB8 (Nat.le_refl _) hown8 hg9) ?_ e1
  rw [e2]
  exact hown9
set_option maxRecDepth 100000 in
set_option maxHeartbeats 8000000 in
theorem test_6y (m v a els : Int) (h0 : 0 ≤ a) (h5 : a ≤ 5) (he0 : 0 ≤ els) (he1 : els ≤ 200) (w : World) : Calls Try.prog 38 #[nv false false false 6 m v, .int .i64 a, .int .i64 els] w (InsPost (testL false 6 m v a els) w) := by
  have PL := fun W => place_any a h0 h5 W
  have HV := fun n W => halves_any n W
  obtain ⟨i0, hi0, hz0, hz1, hz2⟩ := info_parts info70
  have hl1 := loadL_len (16 + 8 * a) (lo m)
  have hl2 := loadL_len (16 + 8 * a + 4) (hi m)
  obtain ⟨n1, hn1⟩ : ∃ n, (loadL (16 + 8 * a) (lo m)).length = n := ⟨_, rfl⟩
  obtain ⟨n2, hn2⟩ : ∃ n, (loadL (16 + 8 * a + 4) (hi m)).length = n := ⟨_, rfl⟩
  have L1 := Lib.hid (fun W => load_n (16 + 8 * a) (lo m) (lo v) W hn1)
  have L2 := Lib.hid (fun W => load_n (16 + 8 * a + 4) (hi m) (hi v) W hn2)
  rw [hn1] at hl1
  rw [hn2] at hl2
  obtain ⟨q1, q2⟩ := hl1
  obtain ⟨q3, q4⟩ := hl2
  have Hn1 := Lib.hid hn1
  have Hn2 := Lib.hid hn2
  have hmk : ∀ W, (Instr.makeMap 121 none).run Try.prog W = .ok (.map (some W.heap.size)) (W.alloc (.map #[] 0)) := fun W => rfl
  obtain ⟨W3, hW3⟩ : ∃ W3, ((w.alloc (.cells #[.bool false, .bool false, .bool false, .int .i64 6, .int .u64 m, .int .u64 v] 88)).alloc (.cells #[.int .u32 (16 + 8 * a + 4), .int .u32 (hi m), .int .u32 (hi v)] 120)).alloc (.cells #[.int .u32 (16 + 8 * a), .int .u32 (lo m), .int .u32 (lo v)] 120) = W3 := ⟨_, rfl⟩
  have B1 := below_alloc w (.cells #[.bool false, .bool false, .bool false, .int .i64 6, .int .u64 m, .int .u64 v] 88)
  have B2 := below_alloc (w.alloc (.cells #[.bool false, .bool false, .bool false, .int .i64 6, .int .u64 m, .int .u64 v] 88)) (.cells #[.int .u32 (16 + 8 * a + 4), .int .u32 (hi m), .int .u32 (hi v)] 120)
  have B3 := below_alloc ((w.alloc (.cells #[.bool false, .bool false, .bool false, .int .i64 6, .int .u64 m, .int .u64 v] 88)).alloc (.cells #[.int .u32 (16 + 8 * a + 4), .int .u32 (hi m), .int .u32 (hi v)] 120)) (.cells #[.int .u32 (16 + 8 * a), .int .u32 (lo m), .int .u32 (lo v)] 120)
  have p0 := keep_cell B3 (keep_cell B2 (new_cell w #[.bool false, .bool false, .bool false, .int .i64 6, .int .u64 m, .int .u64 v] 88 0 rfl))
  have p1 := keep_cell B3 (keep_cell B2 (new_cell w #[.bool false, .bool false, .bool false, .int .i64 6, .int .u64 m, .int .u64 v] 88 1 rfl))
  have p2 := keep_cell B3 (keep_cell B2 (new_cell w #[.bool false, .bool false, .bool false, .int .i64 6, .int .u64 m, .int .u64 v] 88 2 rfl))
  have p3 := keep_cell B3 (keep_cell B2 (new_cell w #[.bool false, .bool false, .bool false, .int .i64 6, .int .u64 m, .int .u64 v] 88 3 rfl))
  have p4 := keep_cell B3 (keep_cell B2 (new_cell w #[.bool false, .bool false, .bool false, .int .i64 6, .int .u64 m, .int .u64 v] 88 4 rfl))
  have p5 := keep_cell B3 (keep_cell B2 (new_cell w #[.bool false, .bool false, .bool false, .int .i64 6, .int .u64 m, .int .u64 v] 88 5 rfl))
  have s0 := keep_cell B3 (new_cell (w.alloc (.cells #[.bool false, .bool false, .bool false, .int .i64 6, .int .u64 m, .int .u64 v] 88)) #[.int .u32 (16 + 8 * a + 4), .int .u32 (hi m), .int .u32 (hi v)] 120 0 rfl)
  have t0 := new_cell ((w.alloc (.cells #[.bool false, .bool false, .bool false, .int .i64 6, .int .u64 m, .int .u64 v] 88)).alloc (.cells #[.int .u32 (16 + 8 * a + 4), .int .u32 (hi m), .int .u32 (hi v)] 120)) #[.int .u32 (16 + 8 * a), .int .u32 (lo m), .int .u32 (lo v)] 120 0 rfl
  have s1 := keep_cell B3 (new_cell (w.alloc (.cells #[.bool false, .bool false, .bool false, .int .i64 6, .int .u64 m, .int .u64 v] 88)) #[.int .u32 (16 + 8 * a + 4), .int .u32 (hi m), .int .u32 (hi v)] 120 1 rfl)
  have t1 := new_cell ((w.alloc (.cells #[.bool false, .bool false, .bool false, .int .i64 6, .int .u64 m, .int .u64 v] 88)).alloc (.cells #[.int .u32 (16 + 8 * a + 4), .int .u32 (hi m), .int .u32 (hi v)] 120)) #[.int .u32 (16 + 8 * a), .int .u32 (lo m), .int .u32 (lo v)] 120 1 rfl
  have s2 := keep_cell B3 (new_cell (w.alloc (.cells #[.bool false, .bool false, .bool false, .int .i64 6, .int .u64 m, .int .u64 v] 88)) #[.int .u32 (16 + 8 * a + 4), .int .u32 (hi m), .int .u32 (hi v)] 120 2 rfl)
  have t2 := new_cell ((w.alloc (.cells #[.bool false, .bool false, .bool false, .int .i64 6, .int .u64 m, .int .u64 v] 88)).alloc (.cells #[.int .u32 (16 + 8 * a + 4), .int .u32 (hi m), .int .u32 (hi v)] 120)) #[.int .u32 (16 + 8 * a), .int .u32 (lo m), .int .u32 (lo v)] 120 2 rfl
  have hs1 : (w.alloc (.cells #[.bool false, .bool false, .bool false, .int .i64 6, .int .u64 m, .int .u64 v] 88)).heap.size = w.heap.size + 1 := by simp
  have hs2 : ((w.alloc (.cells #[.bool false, .bool false, .bool false, .int .i64 6, .int .u64 m, .int .u64 v] 88)).alloc (.cells #[.int .u32 (16 + 8 * a + 4), .int .u32 (hi m), .int .u32 (hi v)] 120)).heap.size = w.heap.size + 1 + 1 := by simp
  have hBW : Below w.heap.size w W3 := by rw [← hW3]; exact (B1.trans (B2.mono (by simp))).trans (B3.mono (by simp; omega))
  rw [hs1] at s0 s1 s2
  rw [hs2] at t0 t1 t2
  rw [hW3] at p0 p1 p2 p3 p4 p5 s0 s1 s2 t0 t1 t2
  simp only [List.getElem?_toArray, List.getElem_toArray] at p0 p1 p2 p3 p4 p5 s0 s1 s2 t0 t1 t2
  have hC0 := CodeIs.made W3
  have HB0 : Hid (∀ x1 x2 x3, (W3.alloc (.map #[] 0)).grownBy x1 (some W3.heap.size) → x1.grownBy x2 (some W3.heap.size) → x2.grownBy x3 (some W3.heap.size) → Below W3.heap.size W3 x3) := Lib.hid (fun x1 x2 x3 g1 g2 g3 => by
    have b0 := below_alloc W3 (.map #[] 0)
    have b1 := grown_below g1 b0.size (Nat.le_refl _)
    have b2 := grown_below g2 (Nat.le_trans b0.size b1.size) (Nat.le_refl _)
    have b3 := grown_below g3 (Nat.le_trans (Nat.le_trans b0.size b1.size) b2.size) (Nat.le_refl _)
    exact ((b0.trans b1).trans b2).trans b3)
  have HBW := Lib.hid hBW
  clear hn1 hn2 B1 B2 B3 hs1 hs2 hBW
  unfold nv
  go_enter Try.func38, Try.ntmps38
  go_upto_region 5 with (first
    | (go_at_call 57; refine (PL _).mono ?_; rintro e_ wp ⟨rfl, rfl⟩)
    | (go_at_call 58; refine (HV _ _).mono ?_; rintro e_ wp ⟨rfl, rfl⟩))
  try rw [hW3]
  clear hW3
  go_upto_region 6 with (first
    | (refine wpList_ins _ rfl _ _ _ rfl W3.heap.size 0 _ rfl hC0 (by omega) 1 21 rfl rfl (by decide) (by decide) ?_; intro x1 hC1 hG1)
    | (refine wpList_ins _ rfl _ _ _ rfl W3.heap.size 1 _ rfl hC1 (by omega) 5 37 rfl rfl (by decide) (by decide) ?_; intro x2 hC2 hG2)
    | (refine wpList_ins _ rfl _ _ _ rfl W3.heap.size 2 _ rfl hC2 (by omega) 6 53 rfl rfl (by decide) (by decide) ?_; intro x3 hC3 hG3; have hlk : (Instr.lookup 121 (.map (some W3.heap.size)) (.int .i64 6) false).run Try.prog x3 = .ok (.int .u16 53) x3 := hC3.look 6 (by decide); have hB3 := HB0.out x1 x2 x3 hG1 hG2 hG3; have b0 := keep_cell hB3 p0; have b1 := keep_cell hB3 p1; have b2 := keep_cell hB3 p2; have b3 := keep_cell hB3 p3; have b4 := keep_cell hB3 p4; have b5 := keep_cell hB3 p5; have u0 := keep_cell hB3 s0; have u1 := keep_cell hB3 s1; have u2 := keep_cell hB3 s2; have l0 := keep_cell hB3 t0; have l1' := keep_cell hB3 t1; have l2' := keep_cell hB3 t2; clear hG1 hG2 hG3 hC1 hC2 hC3))
  go_wp2_with (first
    | (go_at_call 59; (with_reducible refine (L1.out x3).mono ?_); rintro e_ w4 ⟨A4, c4, rfl, ho4, hb4⟩; have i2 := keep_cell hb4 b2; have i3 := keep_cell hb4 b3; have sz4 := hb4.size)
    | (at_builtin; refine wpList_append_own _ rfl _ _ 29 rfl x3.heap.size 70 i0 _ 4 8 under29 hi0 hz0 hz1 hz2 rfl (by decide) _ _ _ rfl (ho4.alloc _) ⟨w4.heap.size, 0, none⟩ 1 1 [.int .u16 53, .int .u8 0, .int .u8 els, .int .u32 (lo v)] rfl rfl (cells_new w4 #[.int .u16 53, .int .u8 0, .int .u8 els, .int .u32 (lo v)] 70) (by simp [Value.oneCell']) (by unfold maxLen; omega) (by omega) (by simp; omega) ?_; intro v5 w5 hown5 hg5 hnil5; obtain ⟨A5, c5, rfl⟩ := owns_form hown5; have hB5 := grownI hb4 (Nat.le_refl _) ho4 hg5; have d0 := keep_cell hB5 u0; have d1 := keep_cell hB5 u1; have d2 := keep_cell hB5 u2; have e2 := keep_cell hB5 b2; have e3 := keep_cell hB5 b3; have sz5 := hB5.size; go_frame)
    | (go_at_call 59; (with_reducible refine (L2.out w5).mono ?_); rintro e_ w6 ⟨A6, c6, rfl, ho6, hb6⟩; have g2 := keep_cell hb6 e2; have g3 := keep_cell hb6 e3; have sz6 := hb6.size)
    | (at_builtin; refine wpList_append_own _ rfl _ _ 29 rfl w5.heap.size 70 i0 _ 4 8 under29 hi0 hz0 hz1 hz2 rfl (by decide) _ _ _ rfl (ho6.alloc _) ⟨w6.heap.size, 0, none⟩ 1 1 [.int .u16 37, .int .u8 (((n1 : Int) + 1) + 1), .int .u8 0, .int .u32 (hi v)] rfl rfl (cells_new w6 #[.int .u16 37, .int .u8 (((n1 : Int) + 1) + 1), .int .u8 0, .int .u32 (hi v)] 70) (by simp [Value.oneCell']) (by unfold maxLen; omega) (by omega) (by simp; omega) ?_; intro v7 w7 hown7 hg7 hnil7; obtain ⟨A7, c7, rfl⟩ := owns_form hown7; have hB7 := grownI hb6 (Nat.le_refl _) ho6 hg7; have sz7 := hB7.size; go_frame)
    | (at_builtin; refine wpList_append_own _ rfl _ _ 29 rfl w5.heap.size 70 i0 _ 4 8 under29 hi0 hz0 hz1 hz2 rfl (by decide) _ _ _ rfl (hown7.alloc _) ⟨w7.heap.size, 0, none⟩ 1 1 [.int .u16 21, .int .u8 0, .int .u8 ((n1 : Int) + 1 + els), .int .u32 (hi v)] rfl rfl (cells_new w7 #[.int .u16 21, .int .u8 0, .int .u8 ((n1 : Int) + 1 + els), .int .u32 (hi v)] 70) (by simp [Value.oneCell']) (by unfold maxLen; omega) (by omega) (by simp; omega) ?_; intro v8 w8 hown8 hg8 hnil8; obtain ⟨A8, c8, rfl⟩ := owns_form hown8; have hB8 := grownI hB7 (Nat.le_refl _) hown7 hg8; have sz8 := hB8.size; go_frame)
    | (at_builtin; refine wpList_append_src _ rfl _ _ 29 rfl w5.heap.size 70 i0 _ 4 8 under29 hi0 hz0 hz1 hz2 rfl (by decide) _ _ _ rfl hown8 A5 (n1 + 1) c5 _ rfl ((src_own hown5 (one2 _ (by simp [Value.oneCell']))).below' hB8) (by unfold maxLen; omega) (by omega) (by omega) ?_; intro v9 w9 hown9 hg9 hat9; obtain ⟨A9, c9, rfl⟩ := owns_form hown9; go_frame))
  go_ret
  have e1 : (testL false 6 m v a els).length = n2 + 1 + 1 + (n1 + 1) := by simp [testL, topL, endL, Hn1.out, Hn2.out]; try omega
  have e2 : rowI (testL false 6 m v a els) = (rowI (loadL (16 + 8 * a + 4) (hi m)) ++ [.int .u16 37, .int .u8 (((n1 : Int) + 1) + 1), .int .u8 0, .int .u32 (hi v)] ++ [.int .u16 21, .int .u8 0, .int .u8 ((n1 : Int) + 1 + els), .int .u32 (hi v)]) ++ (rowI (loadL (16 + 8 * a) (lo m)) ++ [.int .u16 53, .int .u8 0, .int .u8 els, .int .u32 (lo v)]) := by simp [testL, topL, endL, rowI_append, rowI_one, rowI_cons, rowI_nil, Ins.cells, yesI, codeOf, Hn1.out]
  refine test_end HBW.out hB3 hB5 (grownI0 hB8 (Nat.le_refl _) hown8 hg9) ?_ e1
  rw [e2]
  exact hown9
set_option maxRecDepth 100000 in
set_option maxHeartbeats 8000000 in
theorem test_6n (m v a els : Int) (h0 : 0 ≤ a) (h5 : a ≤ 5) (he0 : 0 ≤ els) (he1 : els ≤ 200) (w : World) : Calls Try.prog 38 #[nv false false true 6 m v, .int .i64 a, .int .i64 els] w (InsPost (testL true 6 m v a els) w) := by
  have PL := fun W => place_any a h0 h5 W
  have HV := fun n W => halves_any n W
  obtain ⟨i0, hi0, hz0, hz1, hz2⟩ := info_parts info70
  have hl1 := loadL_len (16 + 8 * a) (lo m)
  have hl2 := loadL_len (16 + 8 * a + 4) (hi m)
  obtain ⟨n1, hn1⟩ : ∃ n, (loadL (16 + 8 * a) (lo m)).length = n := ⟨_, rfl⟩
  obtain ⟨n2, hn2⟩ : ∃ n, (loadL (16 + 8 * a + 4) (hi m)).length = n := ⟨_, rfl⟩
  have L1 := Lib.hid (fun W => load_n (16 + 8 * a) (lo m) (lo v) W hn1)
  have L2 := Lib.hid (fun W => load_n (16 + 8 * a + 4) (hi m) (hi v) W hn2)
  rw [hn1] at hl1
  rw [hn2] at hl2
  obtain ⟨q1, q2⟩ := hl1
  obtain ⟨q3, q4⟩ := hl2
  have Hn1 := Lib.hid hn1
  have Hn2 := Lib.hid hn2
  have hmk : ∀ W, (Instr.makeMap 121 none).run Try.prog W = .ok (.map (some W.heap.size)) (W.alloc (.map #[] 0)) := fun W => rfl
  obtain ⟨W3, hW3⟩ : ∃ W3, ((w.alloc (.cells #[.bool false, .bool false, .bool true, .int .i64 6, .int .u64 m, .int .u64 v] 88)).alloc (.cells #[.int .u32 (16 + 8 * a + 4), .int .u32 (hi m), .int .u32 (hi v)] 120)).alloc (.cells #[.int .u32 (16 + 8 * a), .int .u32 (lo m), .int .u32 (lo v)] 120) = W3 := ⟨_, rfl⟩
  have B1 := below_alloc w (.cells #[.bool false, .bool false, .bool true, .int .i64 6, .int .u64 m, .int .u64 v] 88)
  have B2 := below_alloc (w.alloc (.cells #[.bool false, .bool false, .bool true, .int .i64 6, .int .u64 m, .int .u64 v] 88)) (.cells #[.int .u32 (16 + 8 * a + 4), .int .u32 (hi m), .int .u32 (hi v)] 120)
  have B3 := below_alloc ((w.alloc (.cells #[.bool false, .bool false, .bool true, .int .i64 6, .int .u64 m, .int .u64 v] 88)).alloc (.cells #[.int .u32 (16 + 8 * a + 4), .int .u32 (hi m), .int .u32 (hi v)] 120)) (.cells #[.int .u32 (16 + 8 * a), .int .u32 (lo m), .int .u32 (lo v)] 120)
  have p0 := keep_cell B3 (keep_cell B2 (new_cell w #[.bool false, .bool false, .bool true, .int .i64 6, .int .u64 m, .int .u64 v] 88 0 rfl))
  have p1 := keep_cell B3 (keep_cell B2 (new_cell w #[.bool false, .bool false, .bool true, .int .i64 6, .int .u64 m, .int .u64 v] 88 1 rfl))
  have p2 := keep_cell B3 (keep_cell B2 (new_cell w #[.bool false, .bool false, .bool true, .int .i64 6, .int .u64 m, .int .u64 v] 88 2 rfl))
  have p3 := keep_cell B3 (keep_cell B2 (new_cell w #[.bool false, .bool false, .bool true, .int .i64 6, .int .u64 m, .int .u64 v] 88 3 rfl))
  have p4 := keep_cell B3 (keep_cell B2 (new_cell w #[.bool false, .bool false, .bool true, .int .i64 6, .int .u64 m, .int .u64 v] 88 4 rfl))
  have p5 := keep_cell B3 (keep_cell B2 (new_cell w #[.bool false, .bool false, .bool true, .int .i64 6, .int .u64 m, .int .u64 v] 88 5 rfl))
  have s0 := keep_cell B3 (new_cell (w.alloc (.cells #[.bool false, .bool false, .bool true, .int .i64 6, .int .u64 m, .int .u64 v] 88)) #[.int .u32 (16 + 8 * a + 4), .int .u32 (hi m), .int .u32 (hi v)] 120 0 rfl)
  have t0 := new_cell ((w.alloc (.cells #[.bool false, .bool false, .bool true, .int .i64 6, .int .u64 m, .int .u64 v] 88)).alloc (.cells #[.int .u32 (16 + 8 * a + 4), .int .u32 (hi m), .int .u32 (hi v)] 120)) #[.int .u32 (16 + 8 * a), .int .u32 (lo m), .int .u32 (lo v)] 120 0 rfl
  have s1 := keep_cell B3 (new_cell (w.alloc (.cells #[.bool false, .bool false, .bool true, .int .i64 6, .int .u64 m, .int .u64 v] 88)) #[.int .u32 (16 + 8 * a + 4), .int .u32 (hi m), .int .u32 (hi v)] 120 1 rfl)
  have t1 := new_cell ((w.alloc (.cells #[.bool false, .bool false, .bool true, .int .i64 6, .int .u64 m, .int .u64 v] 88)).alloc (.cells #[.int .u32 (16 + 8 * a + 4), .int .u32 (hi m), .int .u32 (hi v)] 120)) #[.int .u32 (16 + 8 * a), .int .u32 (lo m), .int .u32 (lo v)] 120 1 rfl
  have s2 := keep_cell B3 (new_cell (w.alloc (.cells #[.bool false, .bool false, .bool true, .int .i64 6, .int .u64 m, .int .u64 v] 88)) #[.int .u32 (16 + 8 * a + 4), .int .u32 (hi m), .int .u32 (hi v)] 120 2 rfl)
  have t2 := new_cell ((w.alloc (.cells #[.bool false, .bool false, .bool true, .int .i64 6, .int .u64 m, .int .u64 v] 88)).alloc (.cells #[.int .u32 (16 + 8 * a + 4), .int .u32 (hi m), .int .u32 (hi v)] 120)) #[.int .u32 (16 + 8 * a), .int .u32 (lo m), .int .u32 (lo v)] 120 2 rfl
  have hs1 : (w.alloc (.cells #[.bool false, .bool false, .bool true, .int .i64 6, .int .u64 m, .int .u64 v] 88)).heap.size = w.heap.size + 1 := by simp
  have hs2 : ((w.alloc (.cells #[.bool false, .bool false, .bool true, .int .i64 6, .int .u64 m, .int .u64 v] 88)).alloc (.cells #[.int .u32 (16 + 8 * a + 4), .int .u32 (hi m), .int .u32 (hi v)] 120)).heap.size = w.heap.size + 1 + 1 := by simp
  have hBW : Below w.heap.size w W3 := by rw [← hW3]; exact (B1.trans (B2.mono (by simp))).trans (B3.mono (by simp; omega))
  rw [hs1] at s0 s1 s2
  rw [hs2] at t0 t1 t2
  rw [hW3] at p0 p1 p2 p3 p4 p5 s0 s1 s2 t0 t1 t2
  simp only [List.getElem?_toArray, List.getElem_toArray] at p0 p1 p2 p3 p4 p5 s0 s1 s2 t0 t1 t2
  have hC0 := CodeIs.made W3
  have HB0 : Hid (∀ x1 x2 x3, (W3.alloc (.map #[] 0)).grownBy x1 (some W3.heap.size) → x1.grownBy x2 (some W3.heap.size) → x2.grownBy x3 (some W3.heap.size) → Below W3.heap.size W3 x3) := Lib.hid (fun x1 x2 x3 g1 g2 g3 => by
    have b0 := below_alloc W3 (.map #[] 0)
    have b1 := grown_below g1 b0.size (Nat.le_refl _)
    have b2 := grown_below g2 (Nat.le_trans b0.size b1.size) (Nat.le_refl _)
    have b3 := grown_below g3 (Nat.le_trans (Nat.le_trans b0.size b1.size) b2.size) (Nat.le_refl _)
    exact ((b0.trans b1).trans b2).trans b3)
  have HBW := Lib.hid hBW
  clear hn1 hn2 B1 B2 B3 hs1 hs2 hBW
  unfold nv
  go_enter Try.func38, Try.ntmps38
  go_upto_region 5 with (first
    | (go_at_call 57; refine (PL _).mono ?_; rintro e_ wp ⟨rfl, rfl⟩)
    | (go_at_call 58; refine (HV _ _).mono ?_; rintro e_ wp ⟨rfl, rfl⟩))
  try rw [hW3]
  clear hW3
  go_upto_region 6 with (first
    | (refine wpList_ins _ rfl _ _ _ rfl W3.heap.size 0 _ rfl hC0 (by omega) 1 21 rfl rfl (by decide) (by decide) ?_; intro x1 hC1 hG1)
    | (refine wpList_ins _ rfl _ _ _ rfl W3.heap.size 1 _ rfl hC1 (by omega) 5 37 rfl rfl (by decide) (by decide) ?_; intro x2 hC2 hG2)
    | (refine wpList_ins _ rfl _ _ _ rfl W3.heap.size 2 _ rfl hC2 (by omega) 6 53 rfl rfl (by decide) (by decide) ?_; intro x3 hC3 hG3; have hlk : (Instr.lookup 121 (.map (some W3.heap.size)) (.int .i64 6) false).run Try.prog x3 = .ok (.int .u16 53) x3 := hC3.look 6 (by decide); have hB3 := HB0.out x1 x2 x3 hG1 hG2 hG3; have b0 := keep_cell hB3 p0; have b1 := keep_cell hB3 p1; have b2 := keep_cell hB3 p2; have b3 := keep_cell hB3 p3; have b4 := keep_cell hB3 p4; have b5 := keep_cell hB3 p5; have u0 := keep_cell hB3 s0; have u1 := keep_cell hB3 s1; have u2 := keep_cell hB3 s2; have l0 := keep_cell hB3 t0; have l1' := keep_cell hB3 t1; have l2' := keep_cell hB3 t2; clear hG1 hG2 hG3 hC1 hC2 hC3))
  go_wp2_with (first
    | (go_at_call 59; (with_reducible refine (L1.out x3).mono ?_); rintro e_ w4 ⟨A4, c4, rfl, ho4, hb4⟩; have i2 := keep_cell hb4 b2; have i3 := keep_cell hb4 b3; have sz4 := hb4.size)
    | (at_builtin; refine wpList_append_own _ rfl _ _ 29 rfl x3.heap.size 70 i0 _ 4 8 under29 hi0 hz0 hz1 hz2 rfl (by decide) _ _ _ rfl (ho4.alloc _) ⟨w4.heap.size, 0, none⟩ 1 1 [.int .u16 53, .int .u8 els, .int .u8 0, .int .u32 (lo v)] rfl rfl (cells_new w4 #[.int .u16 53, .int .u8 els, .int .u8 0, .int .u32 (lo v)] 70) (by simp [Value.oneCell']) (by unfold maxLen; omega) (by omega) (by simp; omega) ?_; intro v5 w5 hown5 hg5 hnil5; obtain ⟨A5, c5, rfl⟩ := owns_form hown5; have hB5 := grownI hb4 (Nat.le_refl _) ho4 hg5; have d0 := keep_cell hB5 u0; have d1 := keep_cell hB5 u1; have d2 := keep_cell hB5 u2; have e2 := keep_cell hB5 b2; have e3 := keep_cell hB5 b3; have sz5 := hB5.size; go_frame)
    | (go_at_call 59; (with_reducible refine (L2.out w5).mono ?_); rintro e_ w6 ⟨A6, c6, rfl, ho6, hb6⟩; have g2 := keep_cell hb6 e2; have g3 := keep_cell hb6 e3; have sz6 := hb6.size)
    | (at_builtin; refine wpList_append_own _ rfl _ _ 29 rfl w5.heap.size 70 i0 _ 4 8 under29 hi0 hz0 hz1 hz2 rfl (by decide) _ _ _ rfl (ho6.alloc _) ⟨w6.heap.size, 0, none⟩ 1 1 [.int .u16 37, .int .u8 (((n1 : Int) + 1 + els) + 1), .int .u8 0, .int .u32 (hi v)] rfl rfl (cells_new w6 #[.int .u16 37, .int .u8 (((n1 : Int) + 1 + els) + 1), .int .u8 0, .int .u32 (hi v)] 70) (by simp [Value.oneCell']) (by unfold maxLen; omega) (by omega) (by simp; omega) ?_; intro v7 w7 hown7 hg7 hnil7; obtain ⟨A7, c7, rfl⟩ := owns_form hown7; have hB7 := grownI hb6 (Nat.le_refl _) ho6 hg7; have sz7 := hB7.size; go_frame)
    | (at_builtin; refine wpList_append_own _ rfl _ _ 29 rfl w5.heap.size 70 i0 _ 4 8 under29 hi0 hz0 hz1 hz2 rfl (by decide) _ _ _ rfl (hown7.alloc _) ⟨w7.heap.size, 0, none⟩ 1 1 [.int .u16 21, .int .u8 0, .int .u8 ((n1 : Int) + 1), .int .u32 (hi v)] rfl rfl (cells_new w7 #[.int .u16 21, .int .u8 0, .int .u8 ((n1 : Int) + 1), .int .u32 (hi v)] 70) (by simp [Value.oneCell']) (by unfold maxLen; omega) (by omega) (by simp; omega) ?_; intro v8 w8 hown8 hg8 hnil8; obtain ⟨A8, c8, rfl⟩ := owns_form hown8; have hB8 := grownI hB7 (Nat.le_refl _) hown7 hg8; have sz8 := hB8.size; go_frame)
    | (at_builtin; refine wpList_append_src _ rfl _ _ 29 rfl w5.heap.size 70 i0 _ 4 8 under29 hi0 hz0 hz1 hz2 rfl (by decide) _ _ _ rfl hown8 A5 (n1 + 1) c5 _ rfl ((src_own hown5 (one2 _ (by simp [Value.oneCell']))).below' hB8) (by unfold maxLen; omega) (by omega) (by omega) ?_; intro v9 w9 hown9 hg9 hat9; obtain ⟨A9, c9, rfl⟩ := owns_form hown9; go_frame))
  go_ret
  have e1 : (testL true 6 m v a els).length = n2 + 1 + 1 + (n1 + 1) := by simp [testL, topL, endL, Hn1.out, Hn2.out]; try omega
  have e2 : rowI (testL true 6 m v a els) = (rowI (loadL (16 + 8 * a + 4) (hi m)) ++ [.int .u16 37, .int .u8 (((n1 : Int) + 1 + els) + 1), .int .u8 0, .int .u32 (hi v)] ++ [.int .u16 21, .int .u8 0, .int .u8 ((n1 : Int) + 1), .int .u32 (hi v)]) ++ (rowI (loadL (16 + 8 * a) (lo m)) ++ [.int .u16 53, .int .u8 els, .int .u8 0, .int .u32 (lo v)]) := by simp [testL, topL, endL, rowI_append, rowI_one, rowI_cons, rowI_nil, Ins.cells, yesI, codeOf, Hn1.out]
  refine test_end HBW.out hB3 hB5 (grownI0 hB8 (Nat.le_refl _) hown8 hg9) ?_ e1
  rw [e2]
  exact hown9
/-- A condition in one form that tells of some numbers and not of others. -/
def Sound (op : Int) : Prop := op = 1 ∨ op = 5 ∨ op = 6
theorem test_any (no : Bool) (op m v a els : Int) (hop : Sound op) (h0 : 0 ≤ a) (h5 : a ≤ 5) (he0 : 0 ≤ els) (he1 : els ≤ 200) (w : World) : Calls Try.prog 38 #[nv false false no op m v, .int .i64 a, .int .i64 els] w (InsPost (testL no op m v a els) w) := by
  rcases hop with rfl | rfl | rfl <;> cases no
  · exact test_1y m v a els h0 h5 he0 he1 w
  · exact test_1n m v a els h0 h5 he0 he1 w
  · exact test_5y m v a els h0 h5 he0 he1 w
  · exact test_5n m v a els h0 h5 he0 he1 w
  · exact test_6y m v a els h0 h5 he0 he1 w
  · exact test_6n m v a els h0 h5 he0 he1 w
end Go.Proofs.Ytjmmbadpknlmcaa
