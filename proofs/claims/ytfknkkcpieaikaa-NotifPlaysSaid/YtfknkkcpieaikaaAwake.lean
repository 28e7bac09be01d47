/- awake: it answers true. No conditions. -/
import Derived.Test.YtfknkkcpieaikaaPlay
namespace Go.Proofs.Ytfknkkcpieaikaa
open Go.RowKit
set_option linter.unusedVariables false
set_option linter.unusedSimpArgs false

def N0 : Tb := ⟨2, 3, 7, 0, []⟩
def N1 : Tb := ⟨2, 3, 8, 0, [⟨7, 1, 1, 3, 0, 0⟩]⟩
def N2 : Tb := ⟨2, 3, 8, 0, [⟨7, 1, 2, 3, 0, 0⟩]⟩
def N3 : Tb := ⟨2, 3, 8, 0, [⟨7, 1, 3, 3, 1, 0⟩]⟩
theorem n1 : addT N0 1 = (7, 0, N1) := rfl
theorem n2 : sendT N1 = (⟨7, 1, 2, 3, 0, 0⟩, true, N2) := rfl
theorem n3 : replyT N2 0 7 1 0 = (0, N3) := rfl
theorem n4 : endedT N3 1 = (⟨7, 1, 3, 3, 1, 0⟩, true, rmT N3 7) := rfl
theorem a1 (b B : Nat) (P : Int → Nat) (w : World) (h : TabAt w b B P N0) : Calls Try.prog 21 #[.pointer (some ⟨b, 0, none⟩), .int .i64 1] w (TPost b B P N0.L N1 (.tuple #[.int .u64 7, .int .i64 0]) w) := by
  have := add_any b B P N0 1 w h
  rwa [n1] at this
theorem a2 (b B : Nat) (P : Int → Nat) (w : World) (h : TabAt w b B P N1) : Calls Try.prog 22 #[.pointer (some ⟨b, 0, none⟩)] w (TPost b B P N1.L N2 (.tuple #[.agg #[.int .u64 7, .int .i64 1, .int .i64 2, .int .i64 3, .int .i64 0, .int .i64 0], .bool true]) w) := by
  have := send_any b B P N1 w h
  rwa [n2] at this
theorem a3 (b B : Nat) (P : Int → Nat) (w : World) (h : TabAt w b B P N2) : Calls Try.prog 16 #[.pointer (some ⟨b, 0, none⟩), .int .u64 0, .int .u64 7, .agg #[.int .i64 1, .int .i64 0]] w (TPost b B P N2.L N3 (.int .i64 0) w) := by
  have := reply_any b B P N2 0 7 1 0 w (U64.of (by decide) (by decide)) h
  rwa [n3] at this
theorem a4 (b B : Nat) (P : Int → Nat) (w : World) (h : TabAt w b B P N3) : Calls Try.prog 12 #[.pointer (some ⟨b, 0, none⟩), .int .i64 1] w (TPost b B P N3.L (rmT N3 7) (.tuple #[.agg #[.int .u64 7, .int .i64 1, .int .i64 3, .int .i64 3, .int .i64 1, .int .i64 0], .bool true]) w) := by
  have := ended_any b B P N3 1 w h
  rwa [n4] at this
/-- What a call leaves, seen from below. -/
theorem TPost.low {b B lo : Nat} {P : Int → Nat} {L : List Ent} {T' : Tb} {w w' : World} (h : ∃ P', TabAt w' b B P' T' ∧ Upto (Own b B P L) w w' ∧ ∀ x ∈ T'.L, Own b B P L (P' x.id) ∨ w.heap.size ≤ P' x.id) (hl : ∀ k, Own b B P L k → lo ≤ k) (hlo : lo ≤ w.heap.size) :
    ∃ P', TabAt w' b B P' T' ∧ Upto (Own b B P L) w w' ∧ (∀ k, Own b B P' T'.L k → lo ≤ k) ∧ Below lo w w' ∧ ∀ k, Own b B P' T'.L k → Own b B P L k ∨ w.heap.size ≤ k := by
  obtain ⟨P', hT, hu, hx⟩ := h
  refine ⟨P', hT, hu, fun k hk => ?_, hu.toBelow hlo hl, fun k hk => by
    rcases hk with hk | hk | ⟨x, hx', hk⟩
    · exact .inl (.inl hk)
    · exact .inl (.inr (.inl hk))
    · rw [hk]; exact hx x hx'⟩
  rcases hk with hk | hk | ⟨x, hx', hk⟩
  · exact hl k (.inl hk)
  · exact hl k (.inr (.inl hk))
  · rw [hk]
    rcases hx x hx' with h1 | h1
    · exact hl _ h1
    · omega
set_option maxRecDepth 100000 in
set_option maxHeartbeats 4000000 in
theorem awake_any (w : World) : Calls Try.prog 8 #[] w (Ret (.bool true) w) := by
  have N := new_ok 2 3 7 rfl (by decide) (by decide) w
  go_enter Try.func8, Try.ntmps8
  go_wp2_with (first
    | (go_at_call 9; refine N.mono ?_; rintro e_ w1 ⟨b, B, rfl, hb1, hB1, hT1, hk1⟩; have h1 := hT1 (fun _ => 0); have l1 : ∀ k, Own b B (fun _ => 0) N0.L k → w.heap.size ≤ k := (fun k hk => by rcases hk with hk | hk | ⟨x, hx, _⟩; (rw [hk]; exact hb1); (rw [hk]; exact hB1); (simp [N0] at hx)))
    | (go_at_call 21; refine (a1 b B _ _ h1).mono ?_; rintro e_ w2 ⟨rfl, hp2⟩; obtain ⟨P2, h2, u2, l2, k2, _⟩ := TPost.low hp2 l1 hk1.size)
    | (go_at_call 22; refine (a2 b B _ _ h2).mono ?_; rintro e_ w3 ⟨rfl, hp3⟩; obtain ⟨P3, h3, u3, l3, k3, _⟩ := TPost.low hp3 l2 (Nat.le_trans hk1.size k2.size))
    | (go_at_call 16; refine (a3 b B _ _ (h3.below (below_alloc _ _))).mono ?_; rintro e_ w4 ⟨rfl, hp4⟩; obtain ⟨P4, h4, u4, l4, k4, x4⟩ := TPost.low hp4 l3 (Nat.le_trans (Nat.le_trans (Nat.le_trans hk1.size k2.size) k3.size) (below_alloc _ _).size); have c4 : w4.cell? ⟨w3.heap.size, 2, none⟩ = some (.int .i64 2) := u4.cell (fun h => by have := h3.lt h; simp at this) (new_cell w3 _ 37 2 rfl))
    | (go_at_call 12; refine (a4 b B _ _ h4).mono ?_; rintro e_ w5 ⟨rfl, hp5⟩; have hlo4 : w.heap.size ≤ w4.heap.size := (Nat.le_trans (Nat.le_trans (Nat.le_trans (Nat.le_trans hk1.size k2.size) k3.size) (below_alloc _ _).size) k4.size); have hw3 : w3.heap.size < w4.heap.size := World.block_lt_of_cell? _ _ c4; obtain ⟨P5, h5, u5, l5, k5, _⟩ := TPost.low hp5 l4 hlo4; have c5 : w5.cell? ⟨w3.heap.size, 2, none⟩ = some (.int .i64 2) := u5.cell (fun h => by rcases x4 _ h with e | e; (have := h3.lt e; simp at this); (first | (simp at e; done) | (simp at e; omega))) c4; have c6 : ∀ o, (w5.alloc o).cell? ⟨w3.heap.size, 2, none⟩ = some (.int .i64 2) := (fun o => keep_cell (below_alloc w5 o) c5); have c7 := new_cell w5 #[.int .u64 7, .int .i64 1, .int .i64 3, .int .i64 3, .int .i64 1, .int .i64 0] 37 4 rfl))
  go_ret
  exact ⟨rfl, (((((hk1.trans k2).trans k3).alloc (Nat.le_trans (Nat.le_trans hk1.size k2.size) k3.size) _).trans k4).trans k5).alloc (Nat.le_trans hlo4 k5.size) _⟩
end Go.Proofs.Ytfknkkcpieaikaa
