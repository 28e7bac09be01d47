/- The reference's link: what is known of its memory. No program in sight. -/
import Derived.Test.YtomhnabgdbpoiaaMem
namespace Go.Proofs.Ytomhnabgdbpoiaa
open Go.RowKit
namespace R

/-- What is known of a link's memory, its parts named. -/
structure Parts (w : World) (g : Nat) (s : St) (F : Nat → Prop) (v : Bool → Value) (us : Bool → List Value) (gs : Bool → List Nat) : Prop where
  blk : w.heap[g]? = some (.cells #[v true, v false] 46 (0, 0))
  owns : ∀ b, w.ownsRow 0 30 1 (v b) (us b).length (us b)
  frms : ∀ b, Frms w (us b) (gs b) (s b)
  nodup : ∀ b, (gs b).Nodup
  few : ∀ b, (s b).length ≤ 64
  rowF : ∀ b k, (v b).ownBlock = some k → F k
  frmF : ∀ b, ∀ k ∈ gs b, F k
  rows : ∀ b k, (v b).ownBlock = some k → (v (!b)).ownBlock ≠ some k
  apart : ∀ b, ∀ k ∈ gs b, k ∉ gs (!b)
  self : F g

/-- The link at block g holds these rows; F: all of its blocks, and perhaps others. -/
def LinkAt (w : World) (g : Nat) (s : St) (F : Nat → Prop) : Prop := ∃ v us gs, Parts w g s F v us gs

/-- How the link goes on: the blocks of D are no longer its own. -/
def LinkPost (w : World) (g : Nat) (F D : Nat → Prop) (s : St) (w' : World) : Prop :=
  ∃ F' : Nat → Prop, LinkAt w' g s F' ∧ Upto F w w' ∧ ∀ k, F' k → (F k ∧ ¬ D k) ∨ (w.heap.size ≤ k ∧ k < w'.heap.size)
def Nought : Nat → Prop := fun _ => False
theorem LinkAt.stays {w : World} {g : Nat} {s : St} {F : Nat → Prop} (h : LinkAt w g s F) : LinkPost w g F Nought s w := ⟨F, h, Upto.refl _ _, fun _ hk => .inl ⟨hk, fun h => h⟩⟩

section
variable {w w' : World} {g : Nat} {s : St} {F : Nat → Prop} {v : Bool → Value} {us : Bool → List Value} {gs : Bool → List Nat}
theorem Parts.len (h : Parts w g s F v us gs) (b : Bool) : (us b).length = (s b).length := (h.frms b).lens.1
theorem Parts.row_ne_g (h : Parts w g s F v us gs) (b : Bool) {k : Nat} (hk : (v b).ownBlock = some k) : k ≠ g := by
  obtain ⟨cs, hc⟩ := own_block_type (h.owns b) hk
  exact cells_ne hc h.blk (by decide)
theorem Parts.frm_ne_g (h : Parts w g s F v us gs) (b : Bool) {k : Nat} (hk : k ∈ gs b) : k ≠ g := by
  obtain ⟨cs, hc⟩ := (h.frms b).block k hk
  exact cells_ne hc h.blk (by decide)
theorem Parts.frm_ne_row (h : Parts w g s F v us gs) (b b' : Bool) {k k' : Nat} (hk : k ∈ gs b) (hk' : (v b').ownBlock = some k') : k ≠ k' := by
  obtain ⟨cs, hc⟩ := (h.frms b).block k hk
  obtain ⟨cs', hc'⟩ := own_block_type (h.owns b') hk'
  exact cells_ne hc hc' (by decide)
theorem Parts.cell (h : Parts w g s F v us gs) (b : Bool) : w.cell? ⟨g, if b then 0 else 1, none⟩ = some (v b) := by
  rw [cell_of_row w g _ _ _ _ h.blk]
  cases b <;> rfl

/-- One row is turned into another one: how the link goes on. -/
theorem Parts.update (D : Nat → Prop) (h : Parts w g s F v us gs) (up : Bool) (v' : Value) (us' : List Value) (gs' : List Nat) (r' : List (List Int))
    (hU : Upto (fun k => k = g ∨ (v up).ownBlock = some k) w w') (hb : w'.heap[g]? = some (.cells #[upd v up v' true, upd v up v' false] 46 (0, 0)))
    (ho : w'.ownsRow 0 30 1 v' us'.length us') (hf : Frms w' us' gs' r') (hn : gs'.Nodup) (hl : r'.length ≤ 64)
    (hv : ∀ k, v'.ownBlock = some k → (v up).ownBlock = some k ∨ (w.heap.size ≤ k ∧ k < w'.heap.size)) (hg : ∀ k ∈ gs', k ∈ gs up ∨ (w.heap.size ≤ k ∧ k < w'.heap.size))
    (hD : ∀ k, D k → k ∈ gs up ∧ k ∉ gs') : LinkPost w g F D (upd s up r') w' := by
  have hlt : ∀ b, ∀ k ∈ gs b, k < w.heap.size := fun b k hk => by
    obtain ⟨cs, hc⟩ := (h.frms b).block k hk
    exact lt_of_block hc
  have hltv : ∀ b k, (v b).ownBlock = some k → k < w.heap.size := fun b k hk => by
    obtain ⟨cs, hc⟩ := own_block_type (h.owns b) hk
    exact lt_of_block hc
  have dg : ¬ D g := fun hd => h.frm_ne_g up (hD g hd).1 rfl
  have dv : ∀ b k, (v b).ownBlock = some k → ¬ D k := fun b k hk hd => h.frm_ne_row up b (hD k hd).1 hk rfl
  have df : ∀ k ∈ gs (!up), ¬ D k := fun k hk hd => h.apart up k (hD k hd).1 hk
  refine ⟨fun k => (F k ∧ ¬ D k) ∨ (w.heap.size ≤ k ∧ k < w'.heap.size), ⟨upd v up v', upd us up us', upd gs up gs', ?_⟩, ?_, fun k hk => hk⟩
  · refine ⟨hb, fun b => ?_, fun b => ?_, fun b => ?_, fun b => ?_, fun b k hk => ?_, fun b k hk => ?_, fun b k hk => ?_, fun b k hk => ?_, .inl ⟨h.self, dg⟩⟩
    · by_cases hb' : b = up
      · subst hb'; rw [upd_same, upd_same]; exact ho
      · rw [upd_other _ _ _ hb', upd_other _ _ _ hb']
        refine hU.owns (h.owns b) (fun k hk hs => ?_)
        rcases hs with hs | hs
        · exact h.row_ne_g b hk hs
        · have : (!b) = up := by cases b <;> cases up <;> simp_all
          exact h.rows b k hk (this ▸ hs)
    · by_cases hb' : b = up
      · subst hb'; rw [upd_same, upd_same, upd_same]; exact hf
      · rw [upd_other _ _ _ hb', upd_other _ _ _ hb', upd_other _ _ _ hb']
        refine (h.frms b).upto hU (fun k hk hs => ?_)
        rcases hs with hs | hs
        · exact h.frm_ne_g b hk hs
        · exact h.frm_ne_row b up hk hs rfl
    · by_cases hb' : b = up
      · subst hb'; rw [upd_same]; exact hn
      · rw [upd_other _ _ _ hb']; exact h.nodup b
    · by_cases hb' : b = up
      · subst hb'; rw [upd_same]; exact hl
      · rw [upd_other _ _ _ hb']; exact h.few b
    · by_cases hb' : b = up
      · subst hb'; rw [upd_same] at hk
        exact (hv k hk).imp (fun h' => ⟨h.rowF b k h', dv b k h'⟩) id
      · rw [upd_other _ _ _ hb'] at hk; exact .inl ⟨h.rowF b k hk, dv b k hk⟩
    · by_cases hb' : b = up
      · subst hb'; rw [upd_same] at hk
        exact (hg k hk).imp (fun h' => ⟨h.frmF b k h', fun hd => (hD k hd).2 hk⟩) id
      · rw [upd_other _ _ _ hb'] at hk
        have hup : (!up) = b := by cases b <;> cases up <;> simp_all
        exact .inl ⟨h.frmF b k hk, df k (by rw [hup]; exact hk)⟩
    · by_cases hb' : b = up
      · subst hb'
        rw [upd_same] at hk
        rw [upd_other _ _ _ (by cases b <;> simp)]
        rcases hv k hk with h' | h'
        · exact h.rows b k h'
        · intro e; have := hltv _ k e; omega
      · have hup : (!b) = up := by cases b <;> cases up <;> simp_all
        rw [upd_other _ _ _ hb'] at hk
        rw [hup, upd_same]
        intro e
        rcases hv k e with h' | h'
        · exact h.rows b k hk (hup ▸ h')
        · have := hltv _ k hk; omega
    · by_cases hb' : b = up
      · subst hb'
        rw [upd_same] at hk
        rw [upd_other _ _ _ (by cases b <;> simp)]
        rcases hg k hk with h' | h'
        · exact h.apart b k h'
        · intro e; have := hlt _ k e; omega
      · have hup : (!b) = up := by cases b <;> cases up <;> simp_all
        rw [upd_other _ _ _ hb'] at hk
        rw [hup, upd_same]
        intro e
        rcases hg k e with h' | h'
        · exact h.apart b k hk (hup ▸ h')
        · have := hlt _ k hk; omega
  · refine hU.mono (fun k hk => .inl ?_)
    rcases hk with rfl | hk
    · exact h.self
    · exact h.rowF up k hk

theorem Parts.keep {S : Nat → Prop} (h : Parts w g s F v us gs) (hU : Upto S w w') (hS : ∀ k, F k → ¬ S k) : Parts w' g s F v us gs :=
  ⟨hU.blk (hS g h.self) h.blk, fun b => hU.owns (h.owns b) (fun k hk => hS k (h.rowF b k hk)), fun b => (h.frms b).upto hU (fun k hk => hS k (h.frmF b k hk)), h.nodup, h.few, h.rowF, h.frmF, h.rows, h.apart, h.self⟩
theorem LinkAt.keep {S : Nat → Prop} (h : LinkAt w g s F) (hU : Upto S w w') (hS : ∀ k, F k → ¬ S k) : LinkAt w' g s F := by
  obtain ⟨v, us, gs, hP⟩ := h
  exact ⟨v, us, gs, hP.keep hU hS⟩
theorem LinkPost.from_ {D : Nat → Prop} {w1 : World} (h : LinkPost w1 g F D s w') (hU : Upto (fun _ => False) w w1) : LinkPost w g F D s w' := by
  obtain ⟨F', hL, hU', hF⟩ := h
  refine ⟨F', hL, (hU.mono (fun _ h => h.elim)).trans hU' (fun k hk => .inl hk), fun k hk => (hF k hk).imp id (fun h => ⟨Nat.le_trans hU.size h.1, h.2⟩)⟩
theorem LinkPost.weaken {D : Nat → Prop} (h : LinkPost w g F D s w') : LinkPost w g F Nought s w' := by
  obtain ⟨F', hL, hU', hF⟩ := h
  exact ⟨F', hL, hU', fun k hk => (hF k hk).imp (fun h => ⟨h.1, fun h => h⟩) id⟩

theorem Parts.set (v : Bool → Value) (up : Bool) (v' : Value) : (#[v true, v false] : Array Value).setIfInBounds (if up then 0 else 1) v' = #[upd v up v' true, upd v up v' false] := by
  cases up <;> rfl
end
end R
end Go.Proofs.Ytomhnabgdbpoiaa
