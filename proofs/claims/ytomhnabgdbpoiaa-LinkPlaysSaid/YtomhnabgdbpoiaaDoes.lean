/- An op at both links: they answer alike, and hold the same rows behind it. Conditions: both lie in memory apart from each other; the op's frame can be read. -/
import Derived.Test.YtomhnabgdbpoiaaRTwice
import Derived.Test.YtomhnabgdbpoiaaRSpoil
import Derived.Test.YtomhnabgdbpoiaaOps
import Derived.Deep.RegionHeld3
namespace Go.Proofs.Ytomhnabgdbpoiaa
open Go.RowKit
attribute [local go_sem ↓] Go.wp_at_zero Go.wp_at_succ
set_option linter.unusedVariables false
set_option linter.unusedSimpArgs false

/-- Both links, apart from each other and from all that lay before w0. -/
structure Two (w0 w : World) (g r : Nat) (s1 s2 : St) (F G : Nat → Prop) : Prop where
  a : LinkAt w g s1 F
  b : R.LinkAt w r s2 G
  sa : Since w0 w F
  sb : Since w0 w G
  dis : ∀ k, F k → ¬ G k
section
variable {w0 w w' : World} {g r : Nat} {s1 s2 s' : St} {F G D : Nat → Prop}
theorem Two.left (h : Two w0 w g r s1 s2 F G) (hp : LinkPost w g F D s' w') : ∃ F', Two w0 w' g r s' s2 F' G ∧ Upto F w w' ∧ ∀ k, F' k → (F k ∧ ¬ D k) ∨ (w.heap.size ≤ k ∧ k < w'.heap.size) := by
  obtain ⟨F', hL, hU, hF⟩ := hp
  have s1' := h.sa.step hU hF
  refine ⟨F', ⟨hL, h.b.keep hU (fun k hG hF => h.dis k hF hG), s1', ⟨s1'.1, fun k hk => ⟨(h.sb.2 k hk).1, Nat.lt_of_lt_of_le (h.sb.2 k hk).2 hU.size⟩⟩, fun k hk hg => ?_⟩, hU, hF⟩
  rcases hF k hk with h1 | h1
  · exact h.dis k h1.1 hg
  · have := (h.sb.2 k hg).2
    omega
theorem Two.right (h : Two w0 w g r s1 s2 F G) (hp : R.LinkPost w r G D s' w') : ∃ G', Two w0 w' g r s1 s' F G' ∧ Upto G w w' ∧ ∀ k, G' k → (G k ∧ ¬ D k) ∨ (w.heap.size ≤ k ∧ k < w'.heap.size) := by
  obtain ⟨G', hL, hU, hF⟩ := hp
  have s1' := h.sb.step hU hF
  refine ⟨G', ⟨h.a.keep hU (fun k hF hG => h.dis k hF hG), hL, ⟨s1'.1, fun k hk => ⟨(h.sa.2 k hk).1, Nat.lt_of_lt_of_le (h.sa.2 k hk).2 hU.size⟩⟩, s1', fun k hk hg => ?_⟩, hU, hF⟩
  rcases hF k hg with h1 | h1
  · exact h.dis k hk h1.1
  · have := (h.sa.2 k hk).2
    omega
theorem Two.goes (h : Two w0 w g r s1 s2 F G) (hU : Upto (fun _ => False) w w') : Two w0 w' g r s1 s2 F G :=
  ⟨h.a.keep hU (fun _ _ h => h), h.b.keep hU (fun _ _ h => h), ⟨h.sa.1.trans hU (fun _ h => h.elim), fun k hk => ⟨(h.sa.2 k hk).1, Nat.lt_of_lt_of_le (h.sa.2 k hk).2 hU.size⟩⟩, ⟨h.sb.1.trans hU (fun _ h => h.elim), fun k hk => ⟨(h.sb.2 k hk).1, Nat.lt_of_lt_of_le (h.sb.2 k hk).2 hU.size⟩⟩, h.dis⟩
theorem Two.farA (h : Two w0 w g r s1 s2 F G) {k : Nat} (hk : w.heap.size ≤ k) : ¬ F k := fun hF => by have := (h.sa.2 k hF).2; omega
theorem Two.farB (h : Two w0 w g r s1 s2 F G) {k : Nat} (hk : w.heap.size ≤ k) : ¬ G k := fun hF => by have := (h.sb.2 k hF).2; omega
end
def BothEnd (w0 : World) (g r : Nat) (e : Ending) (w' : World) : Prop := e = .returned (.bool true) ∧ ∃ st F G, Two w0 w' g r st st F G

set_option maxRecDepth 100000 in
set_option maxHeartbeats 4000000 in
theorem does_send0 (w0 w : World) (g r : Nat) (st : St) (F G : Nat → Prop) (hT : Two w0 w g r st st F G) (j bit : Int) (up : Bool) (A : Option Addr) (n c : Nat) (bs : List Int) (hB : ∀ w1, Below w0.heap.size w0 w1 → BytesIn w1 (.slice A n c) bs) (jr : j < 9223372036854775808) :
    Calls Try.prog 17 #[.pointer (some ⟨g, 0, none⟩), .pointer (some ⟨r, 0, none⟩), .agg #[.int .i64 0, .int .i64 j, .int .i64 bit, .bool up, .slice A n c]] w (BothEnd w0 g r) := by
  have HB := Lib.hid hB
  have hT0 : Two w0 (w.alloc (.cells #[.int .i64 0, .int .i64 j, .int .i64 bit, .bool up, .slice A n c] 39)) g r st st F G := hT.goes ((Upto.refl _ w).alloc _)
  have nF : ¬ F w.heap.size := hT.farA (Nat.le_refl _)
  have nG : ¬ G w.heap.size := hT.farB (Nat.le_refl _)
  have hblk : (w.alloc (.cells #[.int .i64 0, .int .i64 j, .int .i64 bit, .bool up, .slice A n c] 39)).heap[w.heap.size]? = some (.cells #[.int .i64 0, .int .i64 j, .int .i64 bit, .bool up, .slice A n c] 39 (0, 0)) := heap_alloc_new w _
  clear hB hT
  
  go_enter Try.func17, Try.ntmps17
  go_wp2
  obtain ⟨bx, hbx⟩ : ∃ bx, w.heap.size = bx := ⟨_, rfl⟩
  obtain ⟨wA, hwA⟩ : ∃ wA, w.alloc (.cells #[.int .i64 0, .int .i64 j, .int .i64 bit, .bool up, .slice A n c] 39) = wA := ⟨_, rfl⟩
  rw [hwA, hbx] at hblk ⊢
  rw [hwA] at hT0
  rw [hbx] at nF nG
  have HT := Lib.hid hT0
  have HTd := Lib.hid (hT0.goes ((Upto.refl _ wA).drew))
  clear hT0 hwA hbx
  have d3 : wA.cell? ⟨bx, 3, none⟩ = some (.bool up) := cell_of_row wA bx 3 _ _ _ hblk
  have d4 : wA.cell? ⟨bx, 4, none⟩ = some (.slice A n c) := cell_of_row wA bx 4 _ _ _ hblk
  clear hblk
  go_region_held3 (fun w' => w'.cell? ⟨bx, 3, none⟩ = some (.bool up) ∧ w'.cell? ⟨bx, 4, none⟩ = some (.slice A n c))
    ((refine ⟨?_, ?_⟩ <;> assumption)) (first | (go_at_call 9; first | (have tk := hR1; (with_reducible refine (send_any g st F up (.slice A n c) bs v1 (by exact hR1.out.a) (by exact HB.out v1 hR1.out.sa.below)).mono ?_); rintro e v2 ⟨rfl, hq2⟩; obtain ⟨F2, hR2, hV2, _⟩ := Two.left hR1.out hq2; have q3 : v2.cell? ⟨bx, 3, none⟩ = some (.bool up) := hV2.cell nF p3; have q4 : v2.cell? ⟨bx, 4, none⟩ = some (.slice A n c) := hV2.cell nF p4; replace hR2 := Lib.hid hR2; clear hq2 hV2) | ((with_reducible refine (send_any g st F up (.slice A n c) bs wA.drew (by exact HTd.out.a) (by exact HB.out wA.drew HTd.out.sa.below)).mono ?_); rintro e w1 ⟨rfl, hp1⟩; obtain ⟨F1, hT1, hU1, _⟩ := Two.left HTd.out hp1; have p3 : w1.cell? ⟨bx, 3, none⟩ = some (.bool up) := hU1.cell nF d3; have p4 : w1.cell? ⟨bx, 4, none⟩ = some (.slice A n c) := hU1.cell nF d4; replace hT1 := Lib.hid hT1; clear hp1 hU1)) | (go_at_call 22; first | (have tk := hT1; (with_reducible refine (R.send_any r st G up (.slice A n c) bs w1 (by exact hT1.out.b) (by exact HB.out w1 hT1.out.sa.below)).mono ?_); rintro e w2 ⟨rfl, hp2⟩; obtain ⟨G2, hT2, hU2, _⟩ := Two.right hT1.out hp2; have q3 : w2.cell? ⟨bx, 3, none⟩ = some (.bool up) := hU2.cell nG p3; have q4 : w2.cell? ⟨bx, 4, none⟩ = some (.slice A n c) := hU2.cell nG p4; replace hT2 := Lib.hid hT2; clear hp2 hU2) | ((with_reducible refine (R.send_any r st G up (.slice A n c) bs wA.drew (by exact HTd.out.b) (by exact HB.out wA.drew HTd.out.sa.below)).mono ?_); rintro e v1 ⟨rfl, hq1⟩; obtain ⟨G1, hR1, hV1, _⟩ := Two.right HTd.out hq1; have p3 : v1.cell? ⟨bx, 3, none⟩ = some (.bool up) := hV1.cell nG d3; have p4 : v1.cell? ⟨bx, 4, none⟩ = some (.slice A n c) := hV1.cell nG d4; replace hR1 := Lib.hid hR1; clear hq1 hV1)))
  go_wp2
  go_ret
  exact ⟨by simp, _, _, _, hT2.out⟩

set_option maxRecDepth 100000 in
set_option maxHeartbeats 4000000 in
theorem does_send1 (w0 w : World) (g r : Nat) (st : St) (F G : Nat → Prop) (hT : Two w0 w g r st st F G) (j bit : Int) (up : Bool) (A : Option Addr) (n c : Nat) (bs : List Int) (hB : ∀ w1, Below w0.heap.size w0 w1 → BytesIn w1 (.slice A n c) bs) (jr : j < 9223372036854775808) :
    Calls Try.prog 17 #[.pointer (some ⟨g, 0, none⟩), .pointer (some ⟨r, 0, none⟩), .agg #[.int .i64 1, .int .i64 j, .int .i64 bit, .bool up, .slice A n c]] w (BothEnd w0 g r) := by
  have HB := Lib.hid hB
  have hT0 : Two w0 (w.alloc (.cells #[.int .i64 1, .int .i64 j, .int .i64 bit, .bool up, .slice A n c] 39)) g r st st F G := hT.goes ((Upto.refl _ w).alloc _)
  have nF : ¬ F w.heap.size := hT.farA (Nat.le_refl _)
  have nG : ¬ G w.heap.size := hT.farB (Nat.le_refl _)
  have hblk : (w.alloc (.cells #[.int .i64 1, .int .i64 j, .int .i64 bit, .bool up, .slice A n c] 39)).heap[w.heap.size]? = some (.cells #[.int .i64 1, .int .i64 j, .int .i64 bit, .bool up, .slice A n c] 39 (0, 0)) := heap_alloc_new w _
  clear hB hT
  
  go_enter Try.func17, Try.ntmps17
  go_wp2
  obtain ⟨bx, hbx⟩ : ∃ bx, w.heap.size = bx := ⟨_, rfl⟩
  obtain ⟨wA, hwA⟩ : ∃ wA, w.alloc (.cells #[.int .i64 1, .int .i64 j, .int .i64 bit, .bool up, .slice A n c] 39) = wA := ⟨_, rfl⟩
  rw [hwA, hbx] at hblk ⊢
  rw [hwA] at hT0
  rw [hbx] at nF nG
  have HT := Lib.hid hT0
  have HTd := Lib.hid (hT0.goes ((Upto.refl _ wA).drew))
  clear hT0 hwA hbx
  have d3 : wA.cell? ⟨bx, 3, none⟩ = some (.bool up) := cell_of_row wA bx 3 _ _ _ hblk
  have d4 : wA.cell? ⟨bx, 4, none⟩ = some (.slice A n c) := cell_of_row wA bx 4 _ _ _ hblk
  clear hblk
  go_region_held3 (fun w' => w'.cell? ⟨bx, 3, none⟩ = some (.bool up) ∧ w'.cell? ⟨bx, 4, none⟩ = some (.slice A n c))
    ((refine ⟨?_, ?_⟩ <;> assumption)) (first | (go_at_call 9; first | (have tk := hR1; (with_reducible refine (send_any g st F up (.slice A n c) bs v1 (by exact hR1.out.a) (by exact HB.out v1 hR1.out.sa.below)).mono ?_); rintro e v2 ⟨rfl, hq2⟩; obtain ⟨F2, hR2, hV2, _⟩ := Two.left hR1.out hq2; have q3 : v2.cell? ⟨bx, 3, none⟩ = some (.bool up) := hV2.cell nF p3; have q4 : v2.cell? ⟨bx, 4, none⟩ = some (.slice A n c) := hV2.cell nF p4; replace hR2 := Lib.hid hR2; clear hq2 hV2) | ((with_reducible refine (send_any g st F up (.slice A n c) bs wA.drew (by exact HTd.out.a) (by exact HB.out wA.drew HTd.out.sa.below)).mono ?_); rintro e w1 ⟨rfl, hp1⟩; obtain ⟨F1, hT1, hU1, _⟩ := Two.left HTd.out hp1; have p3 : w1.cell? ⟨bx, 3, none⟩ = some (.bool up) := hU1.cell nF d3; have p4 : w1.cell? ⟨bx, 4, none⟩ = some (.slice A n c) := hU1.cell nF d4; replace hT1 := Lib.hid hT1; clear hp1 hU1)) | (go_at_call 22; first | (have tk := hT1; (with_reducible refine (R.send_any r st G up (.slice A n c) bs w1 (by exact hT1.out.b) (by exact HB.out w1 hT1.out.sa.below)).mono ?_); rintro e w2 ⟨rfl, hp2⟩; obtain ⟨G2, hT2, hU2, _⟩ := Two.right hT1.out hp2; have q3 : w2.cell? ⟨bx, 3, none⟩ = some (.bool up) := hU2.cell nG p3; have q4 : w2.cell? ⟨bx, 4, none⟩ = some (.slice A n c) := hU2.cell nG p4; replace hT2 := Lib.hid hT2; clear hp2 hU2) | ((with_reducible refine (R.send_any r st G up (.slice A n c) bs wA.drew (by exact HTd.out.b) (by exact HB.out wA.drew HTd.out.sa.below)).mono ?_); rintro e v1 ⟨rfl, hq1⟩; obtain ⟨G1, hR1, hV1, _⟩ := Two.right HTd.out hq1; have p3 : v1.cell? ⟨bx, 3, none⟩ = some (.bool up) := hV1.cell nG d3; have p4 : v1.cell? ⟨bx, 4, none⟩ = some (.slice A n c) := hV1.cell nG d4; replace hR1 := Lib.hid hR1; clear hq1 hV1)))
  go_wp2
  go_ret
  exact ⟨by simp, _, _, _, hT2.out⟩

set_option maxRecDepth 100000 in
set_option maxHeartbeats 4000000 in
theorem does_drop (w0 w : World) (g r : Nat) (st : St) (F G : Nat → Prop) (hT : Two w0 w g r st st F G) (j bit : Int) (up : Bool) (A : Option Addr) (n c : Nat) (bs : List Int) (hB : ∀ w1, Below w0.heap.size w0 w1 → BytesIn w1 (.slice A n c) bs) (jr : j < 9223372036854775808) :
    Calls Try.prog 17 #[.pointer (some ⟨g, 0, none⟩), .pointer (some ⟨r, 0, none⟩), .agg #[.int .i64 3, .int .i64 j, .int .i64 bit, .bool up, .slice A n c]] w (BothEnd w0 g r) := by
  have HB := Lib.hid hB
  have hT0 : Two w0 (w.alloc (.cells #[.int .i64 3, .int .i64 j, .int .i64 bit, .bool up, .slice A n c] 39)) g r st st F G := hT.goes ((Upto.refl _ w).alloc _)
  have nF : ¬ F w.heap.size := hT.farA (Nat.le_refl _)
  have nG : ¬ G w.heap.size := hT.farB (Nat.le_refl _)
  have hblk : (w.alloc (.cells #[.int .i64 3, .int .i64 j, .int .i64 bit, .bool up, .slice A n c] 39)).heap[w.heap.size]? = some (.cells #[.int .i64 3, .int .i64 j, .int .i64 bit, .bool up, .slice A n c] 39 (0, 0)) := heap_alloc_new w _
  clear hB hT
  
  go_enter Try.func17, Try.ntmps17
  go_wp2
  obtain ⟨bx, hbx⟩ : ∃ bx, w.heap.size = bx := ⟨_, rfl⟩
  obtain ⟨wA, hwA⟩ : ∃ wA, w.alloc (.cells #[.int .i64 3, .int .i64 j, .int .i64 bit, .bool up, .slice A n c] 39) = wA := ⟨_, rfl⟩
  rw [hwA, hbx] at hblk ⊢
  rw [hwA] at hT0
  rw [hbx] at nF nG
  have HT := Lib.hid hT0
  have HTd := Lib.hid (hT0.goes ((Upto.refl _ wA).drew))
  clear hT0 hwA hbx
  have d1 : wA.cell? ⟨bx, 1, none⟩ = some (.int .i64 j) := cell_of_row wA bx 1 _ _ _ hblk
  clear hblk
  go_region_held3 (fun w' => w'.cell? ⟨bx, 1, none⟩ = some (.int .i64 j))
    (assumption) (first | (go_at_call 13; first | (have tk := hR1; (with_reducible refine (drop_any g st F v1 (by exact hR1.out.a) j jr).mono ?_); rintro e v2 ⟨rfl, hq2⟩; obtain ⟨F2, hR2, hV2, _⟩ := Two.left hR1.out hq2; have q1 : v2.cell? ⟨bx, 1, none⟩ = some (.int .i64 j) := hV2.cell nF p1; replace hR2 := Lib.hid hR2; clear hq2 hV2) | ((with_reducible refine (drop_any g st F wA.drew (by exact HTd.out.a) j jr).mono ?_); rintro e w1 ⟨rfl, hp1⟩; obtain ⟨F1, hT1, hU1, _⟩ := Two.left HTd.out hp1; have p1 : w1.cell? ⟨bx, 1, none⟩ = some (.int .i64 j) := hU1.cell nF d1; replace hT1 := Lib.hid hT1; clear hp1 hU1)) | (go_at_call 24; first | (have tk := hT1; (with_reducible refine (R.drop_any r st G w1 (by exact hT1.out.b) j jr).mono ?_); rintro e w2 ⟨rfl, hp2⟩; obtain ⟨G2, hT2, hU2, _⟩ := Two.right hT1.out hp2; have q1 : w2.cell? ⟨bx, 1, none⟩ = some (.int .i64 j) := hU2.cell nG p1; replace hT2 := Lib.hid hT2; clear hp2 hU2) | ((with_reducible refine (R.drop_any r st G wA.drew (by exact HTd.out.b) j jr).mono ?_); rintro e v1 ⟨rfl, hq1⟩; obtain ⟨G1, hR1, hV1, _⟩ := Two.right HTd.out hq1; have p1 : v1.cell? ⟨bx, 1, none⟩ = some (.int .i64 j) := hV1.cell nG d1; replace hR1 := Lib.hid hR1; clear hq1 hV1)))
  go_wp2
  go_ret
  exact ⟨by simp, _, _, _, hT2.out⟩

set_option maxRecDepth 100000 in
set_option maxHeartbeats 4000000 in
theorem does_twice (w0 w : World) (g r : Nat) (st : St) (F G : Nat → Prop) (hT : Two w0 w g r st st F G) (j bit : Int) (up : Bool) (A : Option Addr) (n c : Nat) (bs : List Int) (hB : ∀ w1, Below w0.heap.size w0 w1 → BytesIn w1 (.slice A n c) bs) (jr : j < 9223372036854775808) :
    Calls Try.prog 17 #[.pointer (some ⟨g, 0, none⟩), .pointer (some ⟨r, 0, none⟩), .agg #[.int .i64 4, .int .i64 j, .int .i64 bit, .bool up, .slice A n c]] w (BothEnd w0 g r) := by
  have HB := Lib.hid hB
  have hT0 : Two w0 (w.alloc (.cells #[.int .i64 4, .int .i64 j, .int .i64 bit, .bool up, .slice A n c] 39)) g r st st F G := hT.goes ((Upto.refl _ w).alloc _)
  have nF : ¬ F w.heap.size := hT.farA (Nat.le_refl _)
  have nG : ¬ G w.heap.size := hT.farB (Nat.le_refl _)
  have hblk : (w.alloc (.cells #[.int .i64 4, .int .i64 j, .int .i64 bit, .bool up, .slice A n c] 39)).heap[w.heap.size]? = some (.cells #[.int .i64 4, .int .i64 j, .int .i64 bit, .bool up, .slice A n c] 39 (0, 0)) := heap_alloc_new w _
  clear hB hT
  
  go_enter Try.func17, Try.ntmps17
  go_wp2
  obtain ⟨bx, hbx⟩ : ∃ bx, w.heap.size = bx := ⟨_, rfl⟩
  obtain ⟨wA, hwA⟩ : ∃ wA, w.alloc (.cells #[.int .i64 4, .int .i64 j, .int .i64 bit, .bool up, .slice A n c] 39) = wA := ⟨_, rfl⟩
  rw [hwA, hbx] at hblk ⊢
  rw [hwA] at hT0
  rw [hbx] at nF nG
  have HT := Lib.hid hT0
  have HTd := Lib.hid (hT0.goes ((Upto.refl _ wA).drew))
  clear hT0 hwA hbx
  have d1 : wA.cell? ⟨bx, 1, none⟩ = some (.int .i64 j) := cell_of_row wA bx 1 _ _ _ hblk
  clear hblk
  go_region_held3 (fun w' => w'.cell? ⟨bx, 1, none⟩ = some (.int .i64 j))
    (assumption) (first | (go_at_call 14; first | (have tk := hR1; (with_reducible refine (twice_any g st F v1 (by exact hR1.out.a) j jr).mono ?_); rintro e v2 ⟨rfl, hq2⟩; obtain ⟨F2, hR2, hV2, _⟩ := Two.left hR1.out hq2; have q1 : v2.cell? ⟨bx, 1, none⟩ = some (.int .i64 j) := hV2.cell nF p1; replace hR2 := Lib.hid hR2; clear hq2 hV2) | ((with_reducible refine (twice_any g st F wA.drew (by exact HTd.out.a) j jr).mono ?_); rintro e w1 ⟨rfl, hp1⟩; obtain ⟨F1, hT1, hU1, _⟩ := Two.left HTd.out hp1; have p1 : w1.cell? ⟨bx, 1, none⟩ = some (.int .i64 j) := hU1.cell nF d1; replace hT1 := Lib.hid hT1; clear hp1 hU1)) | (go_at_call 25; first | (have tk := hT1; (with_reducible refine (R.twice_any r st G w1 (by exact hT1.out.b) j jr).mono ?_); rintro e w2 ⟨rfl, hp2⟩; obtain ⟨G2, hT2, hU2, _⟩ := Two.right hT1.out hp2; have q1 : w2.cell? ⟨bx, 1, none⟩ = some (.int .i64 j) := hU2.cell nG p1; replace hT2 := Lib.hid hT2; clear hp2 hU2) | ((with_reducible refine (R.twice_any r st G wA.drew (by exact HTd.out.b) j jr).mono ?_); rintro e v1 ⟨rfl, hq1⟩; obtain ⟨G1, hR1, hV1, _⟩ := Two.right HTd.out hq1; have p1 : v1.cell? ⟨bx, 1, none⟩ = some (.int .i64 j) := hV1.cell nG d1; replace hR1 := Lib.hid hR1; clear hq1 hV1)))
  go_wp2
  go_ret
  exact ⟨by simp, _, _, _, hT2.out⟩

set_option maxRecDepth 100000 in
set_option maxHeartbeats 4000000 in
theorem does_spoil (w0 w : World) (g r : Nat) (st : St) (F G : Nat → Prop) (hT : Two w0 w g r st st F G) (j bit : Int) (up : Bool) (A : Option Addr) (n c : Nat) (bs : List Int) (hB : ∀ w1, Below w0.heap.size w0 w1 → BytesIn w1 (.slice A n c) bs) (jr : j < 9223372036854775808) :
    Calls Try.prog 17 #[.pointer (some ⟨g, 0, none⟩), .pointer (some ⟨r, 0, none⟩), .agg #[.int .i64 5, .int .i64 j, .int .i64 bit, .bool up, .slice A n c]] w (BothEnd w0 g r) := by
  have HB := Lib.hid hB
  have hT0 : Two w0 (w.alloc (.cells #[.int .i64 5, .int .i64 j, .int .i64 bit, .bool up, .slice A n c] 39)) g r st st F G := hT.goes ((Upto.refl _ w).alloc _)
  have nF : ¬ F w.heap.size := hT.farA (Nat.le_refl _)
  have nG : ¬ G w.heap.size := hT.farB (Nat.le_refl _)
  have hblk : (w.alloc (.cells #[.int .i64 5, .int .i64 j, .int .i64 bit, .bool up, .slice A n c] 39)).heap[w.heap.size]? = some (.cells #[.int .i64 5, .int .i64 j, .int .i64 bit, .bool up, .slice A n c] 39 (0, 0)) := heap_alloc_new w _
  clear hB hT
  
  go_enter Try.func17, Try.ntmps17
  go_wp2
  obtain ⟨bx, hbx⟩ : ∃ bx, w.heap.size = bx := ⟨_, rfl⟩
  obtain ⟨wA, hwA⟩ : ∃ wA, w.alloc (.cells #[.int .i64 5, .int .i64 j, .int .i64 bit, .bool up, .slice A n c] 39) = wA := ⟨_, rfl⟩
  rw [hwA, hbx] at hblk ⊢
  rw [hwA] at hT0
  rw [hbx] at nF nG
  have HT := Lib.hid hT0
  have HTd := Lib.hid (hT0.goes ((Upto.refl _ wA).drew))
  clear hT0 hwA hbx
  have d1 : wA.cell? ⟨bx, 1, none⟩ = some (.int .i64 j) := cell_of_row wA bx 1 _ _ _ hblk
  have d2 : wA.cell? ⟨bx, 2, none⟩ = some (.int .i64 bit) := cell_of_row wA bx 2 _ _ _ hblk
  clear hblk
  go_region_held3 (fun w' => w'.cell? ⟨bx, 1, none⟩ = some (.int .i64 j) ∧ w'.cell? ⟨bx, 2, none⟩ = some (.int .i64 bit))
    ((refine ⟨?_, ?_⟩ <;> assumption)) (first | (go_at_call 15; first | (have tk := hR1; (with_reducible refine (spoil_any g st F v1 (by exact hR1.out.a) j bit jr).mono ?_); rintro e v2 ⟨rfl, hq2⟩; obtain ⟨F2, hR2, hV2, _⟩ := Two.left hR1.out hq2; have q1 : v2.cell? ⟨bx, 1, none⟩ = some (.int .i64 j) := hV2.cell nF p1; have q2 : v2.cell? ⟨bx, 2, none⟩ = some (.int .i64 bit) := hV2.cell nF p2; replace hR2 := Lib.hid hR2; clear hq2 hV2) | ((with_reducible refine (spoil_any g st F wA.drew (by exact HTd.out.a) j bit jr).mono ?_); rintro e w1 ⟨rfl, hp1⟩; obtain ⟨F1, hT1, hU1, _⟩ := Two.left HTd.out hp1; have p1 : w1.cell? ⟨bx, 1, none⟩ = some (.int .i64 j) := hU1.cell nF d1; have p2 : w1.cell? ⟨bx, 2, none⟩ = some (.int .i64 bit) := hU1.cell nF d2; replace hT1 := Lib.hid hT1; clear hp1 hU1)) | (go_at_call 26; first | (have tk := hT1; (with_reducible refine (R.spoil_any r st G w1 (by exact hT1.out.b) j bit jr).mono ?_); rintro e w2 ⟨rfl, hp2⟩; obtain ⟨G2, hT2, hU2, _⟩ := Two.right hT1.out hp2; have q1 : w2.cell? ⟨bx, 1, none⟩ = some (.int .i64 j) := hU2.cell nG p1; have q2 : w2.cell? ⟨bx, 2, none⟩ = some (.int .i64 bit) := hU2.cell nG p2; replace hT2 := Lib.hid hT2; clear hp2 hU2) | ((with_reducible refine (R.spoil_any r st G wA.drew (by exact HTd.out.b) j bit jr).mono ?_); rintro e v1 ⟨rfl, hq1⟩; obtain ⟨G1, hR1, hV1, _⟩ := Two.right HTd.out hq1; have p1 : v1.cell? ⟨bx, 1, none⟩ = some (.int .i64 j) := hV1.cell nG d1; have p2 : v1.cell? ⟨bx, 2, none⟩ = some (.int .i64 bit) := hV1.cell nG d2; replace hR1 := Lib.hid hR1; clear hq1 hV1)))
  go_wp2
  go_ret
  exact ⟨by simp, _, _, _, hT2.out⟩

set_option maxRecDepth 100000 in
set_option maxHeartbeats 4000000 in
theorem does_clear (w0 w : World) (g r : Nat) (st : St) (F G : Nat → Prop) (hT : Two w0 w g r st st F G) (j bit : Int) (up : Bool) (A : Option Addr) (n c : Nat) (bs : List Int) (hB : ∀ w1, Below w0.heap.size w0 w1 → BytesIn w1 (.slice A n c) bs) (jr : j < 9223372036854775808) :
    Calls Try.prog 17 #[.pointer (some ⟨g, 0, none⟩), .pointer (some ⟨r, 0, none⟩), .agg #[.int .i64 6, .int .i64 j, .int .i64 bit, .bool up, .slice A n c]] w (BothEnd w0 g r) := by
  have HB := Lib.hid hB
  have hT0 : Two w0 (w.alloc (.cells #[.int .i64 6, .int .i64 j, .int .i64 bit, .bool up, .slice A n c] 39)) g r st st F G := hT.goes ((Upto.refl _ w).alloc _)
  have nF : ¬ F w.heap.size := hT.farA (Nat.le_refl _)
  have nG : ¬ G w.heap.size := hT.farB (Nat.le_refl _)
  have hblk : (w.alloc (.cells #[.int .i64 6, .int .i64 j, .int .i64 bit, .bool up, .slice A n c] 39)).heap[w.heap.size]? = some (.cells #[.int .i64 6, .int .i64 j, .int .i64 bit, .bool up, .slice A n c] 39 (0, 0)) := heap_alloc_new w _
  clear hB hT
  go_enter Try.func17, Try.ntmps17
  go_wp2_with (first
    | (go_at_call 16; refine (clear_any g st F _ hT0.a).mono ?_; rintro e w1 ⟨rfl, hp1⟩; obtain ⟨F1, hT1, hU1, _⟩ := hT0.left hp1; replace hT1 := Lib.hid hT1; clear hp1 hU1)
    | (go_at_call 27; refine (R.clear_any r st G _ hT1.out.b).mono ?_; rintro e w2 ⟨rfl, hp2⟩; obtain ⟨G2, hT2, hU2, _⟩ := hT1.out.right hp2; replace hT2 := Lib.hid hT2; clear hp2 hU2))
  go_ret
  exact ⟨by simp, _, _, _, hT2.out⟩

set_option maxRecDepth 100000 in
set_option maxHeartbeats 4000000 in
theorem does_none (w0 w : World) (g r : Nat) (st : St) (F G : Nat → Prop) (hT : Two w0 w g r st st F G) (d j bit : Int) (up : Bool) (A : Option Addr) (n c : Nat) (bs : List Int) (hB : ∀ w1, Below w0.heap.size w0 w1 → BytesIn w1 (.slice A n c) bs) (jr : j < 9223372036854775808) (h0 : (d == 0) = false) (h1 : (d == 1) = false) (h2 : (d == 2) = false) (h3 : (d == 3) = false) (h4 : (d == 4) = false) (h5 : (d == 5) = false) (h6 : (d == 6) = false) :
    Calls Try.prog 17 #[.pointer (some ⟨g, 0, none⟩), .pointer (some ⟨r, 0, none⟩), .agg #[.int .i64 d, .int .i64 j, .int .i64 bit, .bool up, .slice A n c]] w (BothEnd w0 g r) := by
  have HB := Lib.hid hB
  have hT0 : Two w0 (w.alloc (.cells #[.int .i64 d, .int .i64 j, .int .i64 bit, .bool up, .slice A n c] 39)) g r st st F G := hT.goes ((Upto.refl _ w).alloc _)
  have nF : ¬ F w.heap.size := hT.farA (Nat.le_refl _)
  have nG : ¬ G w.heap.size := hT.farB (Nat.le_refl _)
  have hblk : (w.alloc (.cells #[.int .i64 d, .int .i64 j, .int .i64 bit, .bool up, .slice A n c] 39)).heap[w.heap.size]? = some (.cells #[.int .i64 d, .int .i64 j, .int .i64 bit, .bool up, .slice A n c] 39 (0, 0)) := heap_alloc_new w _
  clear hB hT
  go_enter Try.func17, Try.ntmps17
  go_wp2
  go_ret
  exact ⟨by simp, _, _, _, hT0⟩

theorem conv_nil (w : World) : (convert 30 9 (.slice none 0 0)).run Try.prog w = .ok (.string ⟨#[]⟩) w := by kernel_rfl
theorem same_str (s : ByteArray) : (s.toList == s.toList) = true := by simp

namespace R
def TakesIs (w : World) (g : Nat) (F : Nat → Prop) (bs : List Int) (st' : St) (e : Ending) (w' : World) : Prop :=
  ∃ (gb c : Nat), e = .returned (.tuple #[.slice (some ⟨gb, 0, none⟩) bs.length c, .bool true]) ∧ Frm w' (.slice (some ⟨gb, 0, none⟩) bs.length c) gb bs ∧ 0 < bs.length ∧ bs.length ≤ 1024 ∧ F gb ∧ LinkPost w g F (Gone gb) st' w'
theorem take_is (g : Nat) (st : St) (F : Nat → Prop) (w : World) (hL : LinkAt w g st F) (up : Bool) (k : Nat) (bs : List Int) (st' : St) (h1 : (st up)[k]? = some bs) (h2 : upd st up ((st up).take k ++ (st up).drop (k + 1)) = st') :
    Calls Try.prog 23 #[.pointer (some ⟨g, 0, none⟩), .bool up, .int .i64 k] w (TakesIs w g F bs st') := by
  refine (take_any g st F w hL up k).mono ?_
  rintro e w' (⟨n, hn, hlt, fv, gb, bs', rfl, hbs, hF, h0, h3, hFg, hP⟩ | ⟨h, _⟩)
  · obtain rfl : k = n := by omega
    obtain rfl : bs = bs' := by rw [h1] at hbs; exact Option.some.inj hbs
    obtain ⟨c, rfl, _⟩ := frm_form hF
    subst h2
    exact ⟨gb, c, rfl, hF, h0, h3, hFg, hP⟩
  · have := (List.getElem?_eq_some_iff.1 h1).1
    omega
theorem take_none (g : Nat) (st : St) (F : Nat → Prop) (w : World) (hL : LinkAt w g st F) (up : Bool) (k : Int) (hk : k < 0 ∨ ((st up).length : Int) ≤ k) : Calls Try.prog 23 #[.pointer (some ⟨g, 0, none⟩), .bool up, .int .i64 k] w (Same (.tuple #[.slice none 0 0, .bool false]) w) := by
  refine (take_any g st F w hL up k).mono ?_
  rintro e w' (⟨n, hn, hlt, _⟩ | ⟨_, h⟩)
  · omega
  · exact h
end R
theorem take_nought (g : Nat) (st : St) (F : Nat → Prop) (w : World) (hL : LinkAt w g st F) (up : Bool) (k : Int) (hk : k < 0 ∨ ((st up).length : Int) ≤ k) : Calls Try.prog 10 #[.pointer (some ⟨g, 0, none⟩), .bool up, .int .i64 k] w (Same (.tuple #[.slice none 0 0, .bool false]) w) := by
  refine (take_any g st F w hL up k).mono ?_
  rintro e w' (⟨n, hn, hlt, _⟩ | ⟨_, h⟩)
  · omega
  · exact h

set_option maxRecDepth 100000 in
set_option maxHeartbeats 4000000 in
theorem does_take_no (w0 w : World) (g r : Nat) (st : St) (F G : Nat → Prop) (hT : Two w0 w g r st st F G) (j bit : Int) (up : Bool) (A : Option Addr) (n c : Nat) (bs : List Int) (hB : ∀ w1, Below w0.heap.size w0 w1 → BytesIn w1 (.slice A n c) bs) (jr : j < 9223372036854775808) (hno : j < 0 ∨ ((st up).length : Int) ≤ j) :
    Calls Try.prog 17 #[.pointer (some ⟨g, 0, none⟩), .pointer (some ⟨r, 0, none⟩), .agg #[.int .i64 2, .int .i64 j, .int .i64 bit, .bool up, .slice A n c]] w (BothEnd w0 g r) := by
  have HB := Lib.hid hB
  have hT0 : Two w0 (w.alloc (.cells #[.int .i64 2, .int .i64 j, .int .i64 bit, .bool up, .slice A n c] 39)) g r st st F G := hT.goes ((Upto.refl _ w).alloc _)
  have nF : ¬ F w.heap.size := hT.farA (Nat.le_refl _)
  have nG : ¬ G w.heap.size := hT.farB (Nat.le_refl _)
  have hblk : (w.alloc (.cells #[.int .i64 2, .int .i64 j, .int .i64 bit, .bool up, .slice A n c] 39)).heap[w.heap.size]? = some (.cells #[.int .i64 2, .int .i64 j, .int .i64 bit, .bool up, .slice A n c] 39 (0, 0)) := heap_alloc_new w _
  clear hB hT
  have N1 := take_nought g st F _ hT0.a up j hno
  have N2 := R.take_none r st G _ hT0.b up j hno
  have cn := conv_nil
  clear hno
  go_enter Try.func17, Try.ntmps17
  go_wp2_with (first
    | (go_at_call 10; refine N1.mono ?_; rintro e w1 ⟨rfl, rfl⟩)
    | (go_at_call 23; refine N2.mono ?_; rintro e w1 ⟨rfl, rfl⟩))
  go_ret
  exact ⟨by simp, _, _, _, hT0⟩

set_option maxRecDepth 100000 in
set_option maxHeartbeats 4000000 in
theorem does_take_yes (w0 w : World) (g r : Nat) (st : St) (F G : Nat → Prop) (hT : Two w0 w g r st st F G) (j : Nat) (bit : Int) (up : Bool) (A : Option Addr) (n c : Nat) (bs fr : List Int) (hB : ∀ w1, Below w0.heap.size w0 w1 → BytesIn w1 (.slice A n c) bs) (hbs : (st up)[j]? = some fr) :
    Calls Try.prog 17 #[.pointer (some ⟨g, 0, none⟩), .pointer (some ⟨r, 0, none⟩), .agg #[.int .i64 2, .int .i64 j, .int .i64 bit, .bool up, .slice A n c]] w (BothEnd w0 g r) := by
  have HB := Lib.hid hB
  have hT0 : Two w0 (w.alloc (.cells #[.int .i64 2, .int .i64 j, .int .i64 bit, .bool up, .slice A n c] 39)) g r st st F G := hT.goes ((Upto.refl _ w).alloc _)
  have nF : ¬ F w.heap.size := hT.farA (Nat.le_refl _)
  have nG : ¬ G w.heap.size := hT.farB (Nat.le_refl _)
  have hblk : (w.alloc (.cells #[.int .i64 2, .int .i64 j, .int .i64 bit, .bool up, .slice A n c] 39)).heap[w.heap.size]? = some (.cells #[.int .i64 2, .int .i64 j, .int .i64 bit, .bool up, .slice A n c] 39 (0, 0)) := heap_alloc_new w _
  clear hB hT
  have c1 : (w.alloc (.cells #[.int .i64 2, .int .i64 j, .int .i64 bit, .bool up, .slice A n c] 39)).cell? ⟨w.heap.size, 1, none⟩ = some (.int .i64 j) := cell_of_row _ w.heap.size 1 _ _ _ hblk
  have c3 : (w.alloc (.cells #[.int .i64 2, .int .i64 j, .int .i64 bit, .bool up, .slice A n c] 39)).cell? ⟨w.heap.size, 3, none⟩ = some (.bool up) := cell_of_row _ w.heap.size 3 _ _ _ hblk
  obtain ⟨st', hst⟩ : ∃ st', upd st up ((st up).take j ++ (st up).drop (j + 1)) = st' := ⟨_, rfl⟩
  have T1 := Lib.hid (take_is g st F _ hT0.a up j fr st' hbs hst)
  have T2 := Lib.hid (show ∀ W F1, Two w0 W g r st' st F1 G → Calls Try.prog 23 #[.pointer (some ⟨r, 0, none⟩), .bool up, .int .i64 j] W (R.TakesIs W r G fr st') from fun W F1 h => R.take_is r st G _ h.b up j fr st' hbs hst)
  have HT := Lib.hid hT0
  have Hc1 := Lib.hid c1
  have Hc3 := Lib.hid c3
  clear hbs hst hblk hT0 c1 c3
  go_enter Try.func17, Try.ntmps17
  go_wp2_with (first
    | (go_at_call 10; refine T1.out.mono ?_; rintro e w1 ⟨gb, cb, rfl, hF1, _, _, hgF, hp1⟩; obtain ⟨F1, hT1, hU1, _⟩ := HT.out.left hp1; have p1 : w1.cell? ⟨w.heap.size, 1, none⟩ = some (.int .i64 j) := hU1.cell nF Hc1.out; have p3 : w1.cell? ⟨w.heap.size, 3, none⟩ = some (.bool up) := hU1.cell nF Hc3.out; replace hT1 := Lib.hid hT1; clear hp1)
    | (go_at_call 23; refine (T2.out _ _ hT1.out).mono ?_; rintro e w2 ⟨gb2, cb2, rfl, hF2, _, _, _, hp2⟩; obtain ⟨G2, hT2, hU2, _⟩ := hT1.out.right hp2; have v1 := Frm.conv (hF1.upto hU2 (HT.out.dis _ hgF)) rfl; have v2 := hF2.conv rfl; replace hT2 := Lib.hid hT2; clear hp2))
  go_ret
  exact ⟨by simp, _, _, _, hT2.out⟩

theorem does_any (w0 w : World) (g r : Nat) (st : St) (F G : Nat → Prop) (hT : Two w0 w g r st st F G) (d j bit : Int) (up : Bool) (sv : Value) (bs : List Int) (hB : ∀ w1, Below w0.heap.size w0 w1 → BytesIn w1 sv bs) (jr : j < 9223372036854775808) :
    Calls Try.prog 17 #[.pointer (some ⟨g, 0, none⟩), .pointer (some ⟨r, 0, none⟩), .agg #[.int .i64 d, .int .i64 j, .int .i64 bit, .bool up, sv]] w (BothEnd w0 g r) := by
  obtain ⟨A, c, rfl, _⟩ := hB w0 (Below.refl _ _)
  by_cases h0 : d = 0
  · subst h0; exact does_send0 w0 w g r st F G hT j bit up A _ c bs hB jr
  by_cases h1 : d = 1
  · subst h1; exact does_send1 w0 w g r st F G hT j bit up A _ c bs hB jr
  by_cases h2 : d = 2
  · subst h2
    by_cases hj : 0 ≤ j ∧ j < (st up).length
    · obtain ⟨k, rfl⟩ := Int.eq_ofNat_of_zero_le hj.1
      exact does_take_yes w0 w g r st F G hT k bit up A _ c bs _ hB (List.getElem?_eq_getElem (by omega))
    · exact does_take_no w0 w g r st F G hT j bit up A _ c bs hB jr (by omega)
  by_cases h3 : d = 3
  · subst h3; exact does_drop w0 w g r st F G hT j bit up A _ c bs hB jr
  by_cases h4 : d = 4
  · subst h4; exact does_twice w0 w g r st F G hT j bit up A _ c bs hB jr
  by_cases h5 : d = 5
  · subst h5; exact does_spoil w0 w g r st F G hT j bit up A _ c bs hB jr
  by_cases h6 : d = 6
  · subst h6; exact does_clear w0 w g r st F G hT j bit up A _ c bs hB jr
  exact does_none w0 w g r st F G hT d j bit up A _ c bs hB jr (by simpa using h0) (by simpa using h1) (by simpa using h2) (by simpa using h3) (by simpa using h4) (by simpa using h5) (by simpa using h6)
end Go.Proofs.Ytomhnabgdbpoiaa
