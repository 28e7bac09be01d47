/- What rules say of a call, twice. Condition: the rules can be read. -/
import Derived.Test.YtjmmbadpknlmcaaMeets
import Derived.Test.YtjmmbadpknlmcaaCheck
namespace Go.Proofs.Ytjmmbadpknlmcaa
open Go.RowKit
attribute [local go_sem ↓] Go.wp_at_zero Go.wp_at_succ
set_option linter.unusedVariables false
set_option linter.unusedSimpArgs false

def decL (nr x0 x1 x2 x3 x4 x5 k a : Int) : List Rul → Int × Int
  | [] => (k, a)
  | r :: L => if meetsB nr x0 x1 x2 x3 x4 x5 r then (r.k, r.a) else decL nr x0 x1 x2 x3 x4 x5 k a L
theorem decL_at {nr x0 x1 x2 x3 x4 x5 k a : Int} {L : List Rul} {j : Nat} {x : Rul} (h : L[j]? = some x) : decL nr x0 x1 x2 x3 x4 x5 k a (L.drop j) = if meetsB nr x0 x1 x2 x3 x4 x5 x then (x.k, x.a) else decL nr x0 x1 x2 x3 x4 x5 k a (L.drop (j + 1)) := by
  have hl := (List.getElem?_eq_some_iff.1 h).1
  rw [List.drop_eq_getElem_cons hl, (List.getElem?_eq_some_iff.1 h).2]
  rfl
/-- What is decided: the act, the error. -/
def decV (nr ar x0 x1 x2 x3 x4 x5 k a : Int) (L : List Rul) : (Int × Int) × Int :=
  if (checkV k a L).1 = 0 then (if ar = 3221225534 then (decL nr x0 x1 x2 x3 x4 x5 k a L, 0) else ((1, 0), 0)) else ((0, 0), (checkV k a L).1)
def decT (p : (Int × Int) × Int) : Value := .tuple #[.agg #[.int .i64 p.1.1, .int .i64 p.1.2], .int .i64 p.2]

theorem loose_new (w : World) (cs : Array Value) (t : TypeId) (j : Nat) : (w.alloc (.cells cs t)).frozen? ⟨w.heap.size, j, none⟩ = false := by
  have h : (w.alloc (.cells cs t)).heap[w.heap.size]? = some (.cells cs t (0, 0)) := heap_alloc_new w _
  simp only [World.frozen?]
  rw [h]
  simp
theorem keep_loose {w w1 : World} {p : Addr} {v : Value} (hb : Below w.heap.size w w1) (hc : w.cell? p = some v) (h : w.frozen? p = false) : w1.frozen? p = false := (hb.frozen (World.block_lt_of_cell? w p hc)).trans h
theorem three_boxes (w : World) (k a : Int) (A0 : Option Addr) (n c0 : Nat) (nr ar ip x0 x1 x2 x3 x4 x5 : Int) :
    Below w.heap.size w (((w.alloc (.cells #[.int .i64 k, .int .i64 a, .slice A0 n c0] 26)).alloc (.cells #[.int .u32 nr, .int .u32 ar, .int .u64 ip, .int .u64 x0, .int .u64 x1, .int .u64 x2, .int .u64 x3, .int .u64 x4, .int .u64 x5] 48)).alloc (.cells #[.int .i64 0, .int .i64 0] 23)) := by
  have h0 := below_alloc w (.cells #[.int .i64 k, .int .i64 a, .slice A0 n c0] 26)
  have h1 := bchain h0 h0.size (below_alloc _ (.cells #[.int .u32 nr, .int .u32 ar, .int .u64 ip, .int .u64 x0, .int .u64 x1, .int .u64 x2, .int .u64 x3, .int .u64 x4, .int .u64 x5] 48))
  exact bchain h1 h1.size (below_alloc _ _)
theorem third_cell (w : World) (k a : Int) (A0 : Option Addr) (n c0 : Nat) (nr ar ip x0 x1 x2 x3 x4 x5 : Int) (i : Nat) (v : Value) (hi : (#[.int .i64 0, .int .i64 0] : Array Value)[i]? = some v) :
    World.cell? (((w.alloc (.cells #[.int .i64 k, .int .i64 a, .slice A0 n c0] 26)).alloc (.cells #[.int .u32 nr, .int .u32 ar, .int .u64 ip, .int .u64 x0, .int .u64 x1, .int .u64 x2, .int .u64 x3, .int .u64 x4, .int .u64 x5] 48)).alloc (.cells #[.int .i64 0, .int .i64 0] 23)) ⟨w.heap.size + 1 + 1, i, none⟩ = some v := by
  have h := new_cell ((w.alloc (.cells #[.int .i64 k, .int .i64 a, .slice A0 n c0] 26)).alloc (.cells #[.int .u32 nr, .int .u32 ar, .int .u64 ip, .int .u64 x0, .int .u64 x1, .int .u64 x2, .int .u64 x3, .int .u64 x4, .int .u64 x5] 48)) #[.int .i64 0, .int .i64 0] 23 i hi
  have e : ((w.alloc (.cells #[.int .i64 k, .int .i64 a, .slice A0 n c0] 26)).alloc (.cells #[.int .u32 nr, .int .u32 ar, .int .u64 ip, .int .u64 x0, .int .u64 x1, .int .u64 x2, .int .u64 x3, .int .u64 x4, .int .u64 x5] 48)).heap.size = w.heap.size + 1 + 1 := by simp
  rwa [e] at h
theorem third_loose (w : World) (k a : Int) (A0 : Option Addr) (n c0 : Nat) (nr ar ip x0 x1 x2 x3 x4 x5 : Int) (i : Nat) :
    World.frozen? (((w.alloc (.cells #[.int .i64 k, .int .i64 a, .slice A0 n c0] 26)).alloc (.cells #[.int .u32 nr, .int .u32 ar, .int .u64 ip, .int .u64 x0, .int .u64 x1, .int .u64 x2, .int .u64 x3, .int .u64 x4, .int .u64 x5] 48)).alloc (.cells #[.int .i64 0, .int .i64 0] 23)) ⟨w.heap.size + 1 + 1, i, none⟩ = false := by
  have h := loose_new ((w.alloc (.cells #[.int .i64 k, .int .i64 a, .slice A0 n c0] 26)).alloc (.cells #[.int .u32 nr, .int .u32 ar, .int .u64 ip, .int .u64 x0, .int .u64 x1, .int .u64 x2, .int .u64 x3, .int .u64 x4, .int .u64 x5] 48)) #[.int .i64 0, .int .i64 0] 23 i
  have e : ((w.alloc (.cells #[.int .i64 k, .int .i64 a, .slice A0 n c0] 26)).alloc (.cells #[.int .u32 nr, .int .u32 ar, .int .u64 ip, .int .u64 x0, .int .u64 x1, .int .u64 x2, .int .u64 x3, .int .u64 x4, .int .u64 x5] 48)).heap.size = w.heap.size + 1 + 1 := by simp
  rwa [e] at h

set_option maxRecDepth 100000 in
set_option maxHeartbeats 4000000 in
theorem decide_any (k a nr ar ip x0 x1 x2 x3 x4 x5 : Int) (lv : Value) (L : List Rul) (w : World) (hL : RulsAt w lv L) :
    Calls Try.prog 16 #[.agg #[.int .i64 k, .int .i64 a, lv], .agg #[.int .u32 nr, .int .u32 ar, .int .u64 ip, .int .u64 x0, .int .u64 x1, .int .u64 x2, .int .u64 x3, .int .u64 x4, .int .u64 x5]] w (Ret (decT (decV nr ar x0 x1 x2 x3 x4 x5 k a L)) w) := by
  obtain ⟨A0, c0, rfl⟩ := hL.form
  have hbox := three_boxes w k a A0 L.length c0 nr ar ip x0 x1 x2 x3 x4 x5
  have K := check_any k a _ L _ (ruls_below hbox hL)
  obtain ⟨A, c, hv, hnl, hnc⟩ := hL
  cases hv
  obtain ⟨F, hF⟩ : ∃ F, decV nr ar x0 x1 x2 x3 x4 x5 k a L = F := ⟨_, rfl⟩
  rw [hF]
  unfold decV at hF
  unfold pairT at K
  obtain ⟨⟨ev, iv⟩, hcv⟩ : ∃ p, checkV k a L = p := ⟨_, rfl⟩
  rw [hcv] at K hF
  obtain ⟨n, hnn⟩ : ∃ n, L.length = n := ⟨_, rfl⟩
  rw [hnn] at hnl hnc hbox K ⊢
  have HF := Lib.hid hF
  have Hnc := Lib.hid hnc
  clear hF hnc hcv
  go_enter Try.func16, Try.ntmps16
  by_cases hev : ev = 0
  case neg =>
    go_wp2_with (go_at_call 18; refine K.mono ?_; rintro e wa ⟨rfl, hb1⟩; have b0 : wa.cell? ⟨w.heap.size, 0, none⟩ = some (.int .i64 k) := keep_cell hb1 (by go_keep); have b1 : wa.cell? ⟨w.heap.size, 1, none⟩ = some (.int .i64 a) := keep_cell hb1 (by go_keep); have b2 : wa.cell? ⟨w.heap.size, 2, none⟩ = some (.slice A0 n c0) := keep_cell hb1 (by go_keep); have d0 : wa.cell? ⟨w.heap.size + 1, 0, none⟩ = some (.int .u32 nr) := keep_cell hb1 (by go_keep); have d1 : wa.cell? ⟨w.heap.size + 1, 1, none⟩ = some (.int .u32 ar) := keep_cell hb1 (by go_keep); have d2 : wa.cell? ⟨w.heap.size + 1, 2, none⟩ = some (.int .u64 ip) := keep_cell hb1 (by go_keep); have d3 : wa.cell? ⟨w.heap.size + 1, 3, none⟩ = some (.int .u64 x0) := keep_cell hb1 (by go_keep); have d4 : wa.cell? ⟨w.heap.size + 1, 4, none⟩ = some (.int .u64 x1) := keep_cell hb1 (by go_keep); have d5 : wa.cell? ⟨w.heap.size + 1, 5, none⟩ = some (.int .u64 x2) := keep_cell hb1 (by go_keep); have d6 : wa.cell? ⟨w.heap.size + 1, 6, none⟩ = some (.int .u64 x3) := keep_cell hb1 (by go_keep); have d7 : wa.cell? ⟨w.heap.size + 1, 7, none⟩ = some (.int .u64 x4) := keep_cell hb1 (by go_keep); have d8 : wa.cell? ⟨w.heap.size + 1, 8, none⟩ = some (.int .u64 x5) := keep_cell hb1 (by go_keep); have r0 : wa.cell? ⟨w.heap.size + 1 + 1, 0, none⟩ = some (.int .i64 0) := keep_cell hb1 (third_cell w k a A0 n c0 nr ar ip x0 x1 x2 x3 x4 x5 0 _ rfl); have r1 : wa.cell? ⟨w.heap.size + 1 + 1, 1, none⟩ = some (.int .i64 0) := keep_cell hb1 (third_cell w k a A0 n c0 nr ar ip x0 x1 x2 x3 x4 x5 1 _ rfl); have z0 : wa.frozen? ⟨w.heap.size + 1 + 1, 0, none⟩ = false := keep_loose hb1 (third_cell w k a A0 n c0 nr ar ip x0 x1 x2 x3 x4 x5 0 _ rfl) (third_loose w k a A0 n c0 nr ar ip x0 x1 x2 x3 x4 x5 0); have z1 : wa.frozen? ⟨w.heap.size + 1 + 1, 1, none⟩ = false := keep_loose hb1 (third_cell w k a A0 n c0 nr ar ip x0 x1 x2 x3 x4 x5 1 _ rfl) (third_loose w k a A0 n c0 nr ar ip x0 x1 x2 x3 x4 x5 1))
    refine bodyPost_ret (v := .tuple #[.agg #[.int .i64 0, .int .i64 0], .int .i64 ev]) (by simp [results, Try.results16, go_sem, r0, r1]) rfl ⟨by rw [← HF.out]; simp [decT, hev], ?_⟩
    have hwa := bchain hbox hbox.size hb1
    exact (hwa.setCell (by simp; try omega) _).setCell (by simp; try omega) _
  subst hev
  have hF2 : (if ar = 3221225534 then (decL nr x0 x1 x2 x3 x4 x5 k a L, (0 : Int)) else ((1, 0), 0)) = F := by rw [← HF.out]; simp
  by_cases har : ar = 3221225534
  case neg =>
    rw [if_neg har] at hF2
    subst hF2
    go_wp2_with (go_at_call 18; refine K.mono ?_; rintro e wa ⟨rfl, hb1⟩; have b0 : wa.cell? ⟨w.heap.size, 0, none⟩ = some (.int .i64 k) := keep_cell hb1 (by go_keep); have b1 : wa.cell? ⟨w.heap.size, 1, none⟩ = some (.int .i64 a) := keep_cell hb1 (by go_keep); have b2 : wa.cell? ⟨w.heap.size, 2, none⟩ = some (.slice A0 n c0) := keep_cell hb1 (by go_keep); have d0 : wa.cell? ⟨w.heap.size + 1, 0, none⟩ = some (.int .u32 nr) := keep_cell hb1 (by go_keep); have d1 : wa.cell? ⟨w.heap.size + 1, 1, none⟩ = some (.int .u32 ar) := keep_cell hb1 (by go_keep); have d2 : wa.cell? ⟨w.heap.size + 1, 2, none⟩ = some (.int .u64 ip) := keep_cell hb1 (by go_keep); have d3 : wa.cell? ⟨w.heap.size + 1, 3, none⟩ = some (.int .u64 x0) := keep_cell hb1 (by go_keep); have d4 : wa.cell? ⟨w.heap.size + 1, 4, none⟩ = some (.int .u64 x1) := keep_cell hb1 (by go_keep); have d5 : wa.cell? ⟨w.heap.size + 1, 5, none⟩ = some (.int .u64 x2) := keep_cell hb1 (by go_keep); have d6 : wa.cell? ⟨w.heap.size + 1, 6, none⟩ = some (.int .u64 x3) := keep_cell hb1 (by go_keep); have d7 : wa.cell? ⟨w.heap.size + 1, 7, none⟩ = some (.int .u64 x4) := keep_cell hb1 (by go_keep); have d8 : wa.cell? ⟨w.heap.size + 1, 8, none⟩ = some (.int .u64 x5) := keep_cell hb1 (by go_keep); have r0 : wa.cell? ⟨w.heap.size + 1 + 1, 0, none⟩ = some (.int .i64 0) := keep_cell hb1 (third_cell w k a A0 n c0 nr ar ip x0 x1 x2 x3 x4 x5 0 _ rfl); have r1 : wa.cell? ⟨w.heap.size + 1 + 1, 1, none⟩ = some (.int .i64 0) := keep_cell hb1 (third_cell w k a A0 n c0 nr ar ip x0 x1 x2 x3 x4 x5 1 _ rfl); have z0 : wa.frozen? ⟨w.heap.size + 1 + 1, 0, none⟩ = false := keep_loose hb1 (third_cell w k a A0 n c0 nr ar ip x0 x1 x2 x3 x4 x5 0 _ rfl) (third_loose w k a A0 n c0 nr ar ip x0 x1 x2 x3 x4 x5 0); have z1 : wa.frozen? ⟨w.heap.size + 1 + 1, 1, none⟩ = false := keep_loose hb1 (third_cell w k a A0 n c0 nr ar ip x0 x1 x2 x3 x4 x5 1 _ rfl) (third_loose w k a A0 n c0 nr ar ip x0 x1 x2 x3 x4 x5 1))
    refine bodyPost_ret (v := .tuple #[.agg #[.int .i64 1, .int .i64 0], .int .i64 0]) (by simp [results, Try.results16, go_sem, r0, r1]) rfl ⟨rfl, ?_⟩
    have hwa := bchain hbox hbox.size hb1
    exact (hwa.setCell (by simp; try omega) _).setCell (by simp; try omega) _
  rw [if_pos har] at hF2
  have hA : (ar != 3221225534) = false := by simp [har]
  clear har
  have HF2 := Lib.hid hF2
  clear hF2 HF
  go_wp2_with (go_at_call 18; refine K.mono ?_; rintro e wa ⟨rfl, hb1⟩; have b0 : wa.cell? ⟨w.heap.size, 0, none⟩ = some (.int .i64 k) := keep_cell hb1 (by go_keep); have b1 : wa.cell? ⟨w.heap.size, 1, none⟩ = some (.int .i64 a) := keep_cell hb1 (by go_keep); have b2 : wa.cell? ⟨w.heap.size, 2, none⟩ = some (.slice A0 n c0) := keep_cell hb1 (by go_keep); have d0 : wa.cell? ⟨w.heap.size + 1, 0, none⟩ = some (.int .u32 nr) := keep_cell hb1 (by go_keep); have d1 : wa.cell? ⟨w.heap.size + 1, 1, none⟩ = some (.int .u32 ar) := keep_cell hb1 (by go_keep); have d2 : wa.cell? ⟨w.heap.size + 1, 2, none⟩ = some (.int .u64 ip) := keep_cell hb1 (by go_keep); have d3 : wa.cell? ⟨w.heap.size + 1, 3, none⟩ = some (.int .u64 x0) := keep_cell hb1 (by go_keep); have d4 : wa.cell? ⟨w.heap.size + 1, 4, none⟩ = some (.int .u64 x1) := keep_cell hb1 (by go_keep); have d5 : wa.cell? ⟨w.heap.size + 1, 5, none⟩ = some (.int .u64 x2) := keep_cell hb1 (by go_keep); have d6 : wa.cell? ⟨w.heap.size + 1, 6, none⟩ = some (.int .u64 x3) := keep_cell hb1 (by go_keep); have d7 : wa.cell? ⟨w.heap.size + 1, 7, none⟩ = some (.int .u64 x4) := keep_cell hb1 (by go_keep); have d8 : wa.cell? ⟨w.heap.size + 1, 8, none⟩ = some (.int .u64 x5) := keep_cell hb1 (by go_keep); have r0 : wa.cell? ⟨w.heap.size + 1 + 1, 0, none⟩ = some (.int .i64 0) := keep_cell hb1 (third_cell w k a A0 n c0 nr ar ip x0 x1 x2 x3 x4 x5 0 _ rfl); have r1 : wa.cell? ⟨w.heap.size + 1 + 1, 1, none⟩ = some (.int .i64 0) := keep_cell hb1 (third_cell w k a A0 n c0 nr ar ip x0 x1 x2 x3 x4 x5 1 _ rfl); have z0 : wa.frozen? ⟨w.heap.size + 1 + 1, 0, none⟩ = false := keep_loose hb1 (third_cell w k a A0 n c0 nr ar ip x0 x1 x2 x3 x4 x5 0 _ rfl) (third_loose w k a A0 n c0 nr ar ip x0 x1 x2 x3 x4 x5 0); have z1 : wa.frozen? ⟨w.heap.size + 1 + 1, 1, none⟩ = false := keep_loose hb1 (third_cell w k a A0 n c0 nr ar ip x0 x1 x2 x3 x4 x5 1 _ rfl) (third_loose w k a A0 n c0 nr ar ip x0 x1 x2 x3 x4 x5 1))
  have hwa : Below w.heap.size w wa := bchain hbox hbox.size hb1
  clear hb1 hbox K
  go_loopw [26] (fun i wr => LR n wa (fun j => decL nr x0 x1 x2 x3 x4 x5 k a L = decL nr x0 x1 x2 x3 x4 x5 k a (L.drop j)) i wr) (fun i _ => n - (intOf i).toNat)
  case atStart => exact ⟨0, by omega, rfl, Below.refl _ _, rfl⟩
  case round =>
    obtain ⟨j, hj, rfl, hb, hf⟩ := hrel
    have hwr : Below w.heap.size w wr := bchain hwa hwa.size hb
    have z0 : wr.frozen? ⟨w.heap.size + 1 + 1, 0, none⟩ = false := keep_loose hb (r0) (z0)
    have z1 : wr.frozen? ⟨w.heap.size + 1 + 1, 1, none⟩ = false := keep_loose hb (r1) (z1)
    have b0 : wr.cell? ⟨w.heap.size, 0, none⟩ = some (.int .i64 k) := keep_cell hb b0
    have b1 : wr.cell? ⟨w.heap.size, 1, none⟩ = some (.int .i64 a) := keep_cell hb b1
    have b2 : wr.cell? ⟨w.heap.size, 2, none⟩ = some (.slice A0 n c0) := keep_cell hb b2
    have d0 : wr.cell? ⟨w.heap.size + 1, 0, none⟩ = some (.int .u32 nr) := keep_cell hb d0
    have d1 : wr.cell? ⟨w.heap.size + 1, 1, none⟩ = some (.int .u32 ar) := keep_cell hb d1
    have d2 : wr.cell? ⟨w.heap.size + 1, 2, none⟩ = some (.int .u64 ip) := keep_cell hb d2
    have d3 : wr.cell? ⟨w.heap.size + 1, 3, none⟩ = some (.int .u64 x0) := keep_cell hb d3
    have d4 : wr.cell? ⟨w.heap.size + 1, 4, none⟩ = some (.int .u64 x1) := keep_cell hb d4
    have d5 : wr.cell? ⟨w.heap.size + 1, 5, none⟩ = some (.int .u64 x2) := keep_cell hb d5
    have d6 : wr.cell? ⟨w.heap.size + 1, 6, none⟩ = some (.int .u64 x3) := keep_cell hb d6
    have d7 : wr.cell? ⟨w.heap.size + 1, 7, none⟩ = some (.int .u64 x4) := keep_cell hb d7
    have d8 : wr.cell? ⟨w.heap.size + 1, 8, none⟩ = some (.int .u64 x5) := keep_cell hb d8
    have r0 : wr.cell? ⟨w.heap.size + 1 + 1, 0, none⟩ = some (.int .i64 0) := keep_cell hb r0
    have r1 : wr.cell? ⟨w.heap.size + 1 + 1, 1, none⟩ = some (.int .i64 0) := keep_cell hb r1
    by_cases hlt : j < n
    case neg =>
      obtain rfl : j = n := by omega
      rw [List.drop_eq_nil_of_le (by omega)] at hf
      have hlast : ((k, a), (0 : Int)) = F := by rw [← HF2.out, hf]; rfl
      subst hlast
      clear hf
      go_wp2
      refine bodyPost_ret (v := .tuple #[.agg #[.int .i64 k, .int .i64 a], .int .i64 0]) (by simp [results, Try.results16, go_sem, r0, r1]) rfl ⟨rfl, ?_⟩
      exact (hwr.setCell (by simp; try omega) _).setCell (by simp; try omega) _
    obtain ⟨gl, o, rfl, hcell⟩ := Hnc.out (by omega)
    obtain ⟨x, hx⟩ : ∃ x, L[j]? = some x := ⟨_, List.getElem?_eq_getElem (by omega)⟩
    obtain ⟨nv, cv, e0, e1, e2, e3, hns, hcs⟩ := RulQ.below hwr (hcell j x hx)
    rw [decL_at hx] at hf
    have hlt' : (j : Int) < n := by omega
    obtain ⟨rk, ra, ns, cs⟩ := x
    have e0' : wr.cell? ⟨gl, o + j * 4, none⟩ = some (.int .i64 rk) := e0
    have e1' : wr.cell? ⟨gl, o + j * 4 + 1, none⟩ = some (.int .i64 ra) := e1
    have e2' : wr.cell? ⟨gl, o + j * 4 + 2, none⟩ = some nv := e2
    have e3' : wr.cell? ⟨gl, o + j * 4 + 3, none⟩ = some cv := e3
    have hns' : StrsAt wr nv ns := hns
    have hcs' : CndsAt wr cv cs := hcs
    have hf : decL nr x0 x1 x2 x3 x4 x5 k a L = if meetsB nr x0 x1 x2 x3 x4 x5 ⟨rk, ra, ns, cs⟩ then (rk, ra) else decL nr x0 x1 x2 x3 x4 x5 k a (L.drop (j + 1)) := hf
    obtain ⟨A1, c1, rfl⟩ := hns'.form
    obtain ⟨A2, c2, rfl⟩ := hcs'.form
    obtain ⟨z, hz⟩ : ∃ z, meetsB nr x0 x1 x2 x3 x4 x5 ⟨rk, ra, ns, cs⟩ = z := ⟨_, rfl⟩
    rw [hz] at hf
    have Hf := Lib.hid hf
    have hal := below_alloc wr (.cells #[.int .i64 rk, .int .i64 ra, .slice A1 ns.length c1, .slice A2 cs.length c2] 44)
    have hal2 := bchain hwr hwr.size hal
    have hal3 := bchain hb hb.size hal
    have M := meets_any rk ra nr ar ip x0 x1 x2 x3 x4 x5 _ _ ns cs _ (strs_below hal hns') (cnds_below hal hcs')
    rw [hz] at M
    have q0 := keep_cell hal d0
    have q1 := keep_cell hal d1
    have q2 := keep_cell hal d2
    have q3 := keep_cell hal d3
    have q4 := keep_cell hal d4
    have q5 := keep_cell hal d5
    have q6 := keep_cell hal d6
    have q7 := keep_cell hal d7
    have q8 := keep_cell hal d8
    have s0 := new_cell wr #[.int .i64 rk, .int .i64 ra, .slice A1 ns.length c1, .slice A2 cs.length c2] 44 0 rfl
    have s1 := new_cell wr #[.int .i64 rk, .int .i64 ra, .slice A1 ns.length c1, .slice A2 cs.length c2] 44 1 rfl
    have r0' := keep_cell hal r0
    have r1' := keep_cell hal r1
    have z0' := keep_loose hal r0 z0
    have z1' := keep_loose hal r1 z1
    clear hns hcs e0 e1 e2 e3 hcell hx hns' hcs' hz hf
    cases z with
    | false =>
      go_wp2_with (go_at_call 29; (with_reducible refine M.mono ?_); rintro e w5 ⟨rfl, hb5⟩)
      go_roundw
      case rel => exact ⟨j + 1, by omega, by go_num, bchain hal3 hal3.size hb5, by show _ = decL nr x0 x1 x2 x3 x4 x5 k a (L.drop (j + 1)); rw [Hf.out]; simp⟩
      case measure => (simp [intOf] <;> omega)
    | true =>
      have hlast : ((rk, ra), (0 : Int)) = F := by rw [← HF2.out, Hf.out]; simp
      subst hlast
      go_wp2_with (go_at_call 29; (with_reducible refine M.mono ?_); rintro e w5 ⟨rfl, hb5⟩; have t0 := keep_cell hb5 s0; have t1 := keep_cell hb5 s1; have u0 := keep_cell hb5 r0'; have u1 := keep_cell hb5 r1'; have y0 := keep_loose hb5 r0' z0'; have y1 := keep_loose hb5 r1' z1')
      refine bodyPost_ret (v := .tuple #[.agg #[.int .i64 rk, .int .i64 ra], .int .i64 0]) (by simp [results, Try.results16, go_sem, u0, u1]) rfl ⟨rfl, ?_⟩
      have hw5 := bchain hal2 hal2.size hb5
      exact (hw5.setCell (by simp; try omega) _).setCell (by simp; try omega) _
end Go.Proofs.Ytjmmbadpknlmcaa
