/- A table, and blocks beside it that stand: scripts, rows. Condition: the table can be read. -/
import Derived.Test.YtfknkkcpieaikaaStand
namespace Go.Proofs.Ytfknkkcpieaikaa
open Go.RowKit
set_option linter.unusedVariables false
set_option linter.unusedSimpArgs false

/-- The block of a row beside K. -/
def orK (K : Nat → Obj → Prop) (v : Value) (w : World) : Nat → Obj → Prop := fun k o => K k o ∨ (v.ownBlock = some k ∧ w.heap[k]? = some o)
abbrev K0 : Nat → Obj → Prop := fun _ _ => False
section
variable {w1 wr w' w3 w4 : World} {b B : Nat} {T T' : Tb} {K : Nat → Obj → Prop} {r : Value} {id : Int}
theorem Side.run {f : Nat} {args : Array Value} {R : Ending → Prop} (h : Side w1 b B T K wr) (hc : ∀ P, TabAt wr b B P T → (∀ k o, K k o → wr.heap[k]? = some o ∧ ¬ Own b B P T.L k) → Calls Try.prog f args wr (fun e w' => R e ∧ ∃ P', TabAt w' b B P' T' ∧ Upto (Own b B P T.L) wr w' ∧ ∀ x ∈ T'.L, Own b B P T.L (P' x.id) ∨ wr.heap.size ≤ P' x.id)) :
    Calls Try.prog f args wr (fun e w' => R e ∧ Side w1 b B T' K w') := by
  obtain ⟨P, hT, ho, hl, hK⟩ := h
  refine (hc P hT hK).mono ?_
  rintro e w' ⟨hR, P', hT', hu, hx⟩
  have hown : ∀ k, Own b B P' T'.L k → Own b B P T.L k ∨ wr.heap.size ≤ k := fun k hk => by
    rcases hk with hk | hk | ⟨x, hx', hk⟩
    · exact .inl (.inl hk)
    · exact .inl (.inr (.inl hk))
    · rw [hk]; exact hx x hx'
  refine ⟨hR, P', hT', fun k hk => ?_, hl.trans hu (fun k hk => .inr (ho k hk)), fun k o hk => ?_⟩
  · rcases hown k hk with h1 | h1
    · exact ho k h1
    · have := hl.size; omega
  · obtain ⟨h1, h2⟩ := hK k o hk
    have hlt := (Array.getElem?_eq_some_iff.1 h1).1
    refine ⟨(hu.block k hlt h2).trans h1, fun h3 => ?_⟩
    rcases hown k h3 with h4 | h4
    · exact h2 h4
    · omega
theorem Side.play {lv : Value} {L : List Opn} (h : Side w1 b B T K wr) (hL : ∀ W, (∀ k o, K k o → W.heap[k]? = some o) → OpsAt W lv L) :
    Calls Try.prog 10 #[.pointer (some ⟨b, 0, none⟩), lv] wr (fun e w' => (∃ A n c, e = .returned (.slice A n c)) ∧ Side w1 b B (playL T (L.take 200)).2 K w') :=
  h.run (R := fun e => ∃ A n c, e = .returned (.slice A n c)) (fun P hT hK => (play_any (Own b B P T.L) b B P T lv L wr hT (fun k hk => .inl hk) (fun W hW => hL W (fun k o hk => (hW.block k (Array.getElem?_eq_some_iff.1 (hK k o hk).1).1 (hK k o hk).2).trans (hK k o hk).1))).mono (by
    rintro e w' ⟨A, n, c, rfl, _, hin⟩
    exact ⟨⟨A, n, c, rfl⟩, hin.left⟩))
theorem Side.still (h : Side w1 b B T K wr) (hu : Upto F0 wr w') : Side w1 b B T K w' := by
  obtain ⟨P, hT, ho, hl, hK⟩ := h
  exact ⟨P, hT.upto hu (fun _ _ h => h), ho, hl.trans hu (fun _ h => h.elim), fun k o hk => ⟨(hu.block k (Array.getElem?_eq_some_iff.1 (hK k o hk).1).1 (fun h => h)).trans (hK k o hk).1, (hK k o hk).2⟩⟩
theorem Side.drewN (h : Side w1 b B T K wr) (q : Nat) : Side w1 b B T K (wr.drewN q) := h.still (drewN_upto F0 wr q)
theorem Side.get_st (hU : U64 id) (h : Side w1 b B T K wr) : Calls Try.prog 11 #[.pointer (some ⟨b, 0, none⟩), .int .u64 id] wr (fun e w' => e = .returned (.tuple #[entV ((getL T.L id).getD Ent.nil), .bool (getL T.L id).isSome]) ∧ Below wr.heap.size wr w') := by
  obtain ⟨P, hT, ho, hl, hK⟩ := h
  exact get_any b B P T id wr hU hT
theorem Side.row {e : TypeId} {sz n : Nat} {v : Value} {xs : List Value} (h : Side w1 b B T K w3) (hu : Upto F0 w3 w4) (hrow : w4.ownsRow w3.heap.size e sz v n xs) : Side w1 b B T (orK K v w4) w4 := by
  have h2 := h.still hu
  obtain ⟨P, hT, ho, hl, hK⟩ := h
  refine ⟨P, hT.upto hu (fun _ _ h => h), ho, hl.trans hu (fun _ h => h.elim), fun k o hk => ?_⟩
  rcases hk with hk | ⟨hk, hk2⟩
  · exact ⟨(hu.block k (Array.getElem?_eq_some_iff.1 (hK k o hk).1).1 (fun h => h)).trans (hK k o hk).1, (hK k o hk).2⟩
  · exact ⟨hk2, fun h3 => by have h4 := hT.lt h3; have h5 := (own_lt hrow hk).2; omega⟩
theorem row_same {bb : Nat} {e : TypeId} {sz n : Nat} {v : Value} {xs : List Value} (h : wr.ownsRow bb e sz v n xs) (hs : ∀ k, v.ownBlock = some k → w'.heap[k]? = wr.heap[k]?) : w'.ownsRow bb e sz v n xs := by
  obtain ⟨h1, h2⟩ := h
  refine ⟨h1, ?_⟩
  rcases h2 with h2 | ⟨g, cap, cur, h3, h4, h5, h6⟩
  · exact .inl h2
  · exact .inr ⟨g, cap, cur, h3, h4, (hs g (by rw [h3]; rfl)).trans h5, h6⟩
/-- The cells of a row of notifications. -/
theorem ents_at {bb n c : Nat} {A : Option Addr} {ys : List Ent} (h : wr.ownsRow bb 37 6 (.slice A n c) n (rowE ys)) (hn : ys.length = n) (h0 : 0 < n) : ∃ g o, A = some ⟨g, o, none⟩ ∧ ∀ (i : Nat) y, ys[i]? = some y →
    wr.cell? ⟨g, o + i * 6, none⟩ = some (.int .u64 y.id) ∧ wr.cell? ⟨g, o + i * 6 + 1, none⟩ = some (.int .i64 y.task) ∧ wr.cell? ⟨g, o + i * 6 + 2, none⟩ = some (.int .i64 y.st) ∧ wr.cell? ⟨g, o + i * 6 + 3, none⟩ = some (.int .i64 y.left) ∧ wr.cell? ⟨g, o + i * 6 + 4, none⟩ = some (.int .i64 y.kind) ∧ wr.cell? ⟨g, o + i * 6 + 5, none⟩ = some (.int .i64 y.val) := by
  cases A with
  | none =>
    exfalso
    obtain ⟨_, h2⟩ := h
    rcases h2 with ⟨_, h2⟩ | ⟨g', cap, cur, h3, _⟩
    · omega
    · cases h3
  | some A =>
    have key : ∀ (i : Nat) y, ys[i]? = some y → ∀ j, j < 6 → ∀ u, y.cells.toList[j]? = some u → A.off = 0 ∧ A.spot = none ∧ wr.cell? ⟨A.block, i * 6 + j, none⟩ = some u := fun i p hp j hj u hu =>
      owns_cell (g := 0) h (by rw [rowE, row_at (sz := 6) (fun a => rfl) ys i j p hp hj]; exact hu)
    obtain ⟨y0, hy0⟩ : ∃ y, ys[0]? = some y := ⟨_, List.getElem?_eq_getElem (by omega)⟩
    obtain ⟨a1, a2, _⟩ := key 0 y0 hy0 0 (by omega) _ rfl
    obtain ⟨bl, off, sp⟩ := A
    simp only at a1 a2
    subst a1 a2
    refine ⟨bl, 0, rfl, fun i y hy => ?_⟩
    rw [Nat.zero_add]
    exact ⟨(key i y hy 0 (by omega) _ rfl).2.2, (key i y hy 1 (by omega) _ rfl).2.2, (key i y hy 2 (by omega) _ rfl).2.2, (key i y hy 3 (by omega) _ rfl).2.2, (key i y hy 4 (by omega) _ rfl).2.2, (key i y hy 5 (by omega) _ rfl).2.2⟩
end
theorem ended_is {T : Tb} (hF : Fine T) {y : Ent} (hg : getL T.L y.id = some y) (hw : y.waits = false) : endedT T y.task = (y, true, rmT T y.id) := by
  unfold endedT
  rw [ofL_of hF.tasks (getL_mem hg).1]
  simp [hw]
end Go.Proofs.Ytfknkkcpieaikaa
