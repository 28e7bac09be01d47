/- What LinkOrder gathers: two rows of slices that came in, in an array of its own. No conditions. -/
import Derived.Test.YtomhnabgdbpoiaaOpen
namespace Go.Proofs.Ytomhnabgdbpoiaa
open Go.RowKit
set_option linter.unusedVariables false
set_option linter.unusedSimpArgs false

/-- A slice of bytes that came in, of one byte or more. -/
def ArgFr (W : World) (v : Value) (bs : List Int) : Prop := ∃ gb o n c, v = .slice (some ⟨gb, o, none⟩) n c ∧ bs.length = n ∧ 0 < n ∧ Lies W gb o n bs
/-- One by one. -/
def ArgFrs (W : World) : List Value → List (List Int) → Prop
  | [], [] => True
  | v :: vs, b :: bs => ArgFr W v b ∧ ArgFrs W vs bs
  | _, _ => False
theorem ArgFrs.append {W : World} : ∀ {vs vs' : List Value} {fs fs' : List (List Int)}, ArgFrs W vs fs → ArgFrs W vs' fs' → ArgFrs W (vs ++ vs') (fs ++ fs')
  | [], _, [], _, _, h => h
  | _ :: _, _, _ :: _, _, ⟨h1, h2⟩, h => ⟨h1, h2.append h⟩
  | [], _, _ :: _, _, h, _ => h.elim
  | _ :: _, _, [], _, h, _ => h.elim
theorem ArgFrs.len {W : World} : ∀ {vs : List Value} {fs : List (List Int)}, ArgFrs W vs fs → vs.length = fs.length
  | [], [], _ => rfl
  | _ :: _, _ :: _, ⟨_, h2⟩ => by simp [h2.len]
  | [], _ :: _, h => h.elim
  | _ :: _, [], h => h.elim
theorem ArgFrs.at_ {W : World} : ∀ {vs : List Value} {fs : List (List Int)}, ArgFrs W vs fs → ∀ i, i < fs.length → ∃ v b, vs[i]? = some v ∧ fs[i]? = some b ∧ ArgFr W v b
  | _ :: _, _ :: _, ⟨h1, _⟩, 0, _ => ⟨_, _, rfl, rfl, h1⟩
  | _ :: _, _ :: _, ⟨_, h2⟩, i + 1, hi => by
    obtain ⟨v, b, h1, h2', h3⟩ := h2.at_ i (by simpa using hi)
    exact ⟨v, b, by simpa using h1, by simpa using h2', h3⟩
  | [], [], _, i, hi => by simp at hi
  | [], _ :: _, h, _, _ => h.elim
  | _ :: _, [], h, _, _ => h.elim

/-- What has been gathered: the array at block gw; W: the world in which the arguments came. -/
structure Want (W w0 wr : World) (gw : Nat) (F : Nat → Prop) (V : Bool → Value) (us : Bool → List Value) (st : St) : Prop where
  blk : wr.heap[gw]? = some (.cells #[V true, V false] 29 (0, 0))
  owns : ∀ b, wr.ownsRow 0 30 1 (V b) (us b).length (us b)
  out : ∀ b k, (V b).ownBlock = some k → ¬ F k
  gout : ¬ F gw
  sep : ∀ b k, (V b).ownBlock = some k → (V (!b)).ownBlock ≠ some k
  fresh : ∀ b k, (V b).ownBlock = some k → w0.heap.size ≤ k
  gfresh : w0.heap.size ≤ gw
  frs : ∀ b, ArgFrs W (us b) (st b)

theorem Want.row_ne {W w0 wr : World} {gw : Nat} {F : Nat → Prop} {V : Bool → Value} {us : Bool → List Value} {st : St} (h : Want W w0 wr gw F V us st) (b : Bool) {k : Nat} (hk : (V b).ownBlock = some k) : k ≠ gw := by
  obtain ⟨cs, hc⟩ := own_block_type (h.owns b) hk
  exact cells_ne hc h.blk (by decide)
theorem Want.weak {W w0 wr : World} {gw : Nat} {F : Nat → Prop} {V : Bool → Value} {us : Bool → List Value} {st : St} (h : Want W w0 wr gw F V us st) : Want W w0 wr gw (fun _ => False) V us st :=
  ⟨h.blk, h.owns, fun _ _ _ h => h, fun h => h, h.sep, h.fresh, h.gfresh, h.frs⟩
theorem Want.drewN {W w0 wr : World} {gw : Nat} {F : Nat → Prop} {V : Bool → Value} {us : Bool → List Value} {st : St} (h : Want W w0 wr gw F V us st) (m : Nat) : Want W w0 (wr.drewN m) gw F V us st :=
  ⟨h.blk, fun b => ((Upto.refl (fun _ => False) wr).drewN m).owns (h.owns b) (fun _ _ h => h), h.out, h.gout, h.sep, h.fresh, h.gfresh, h.frs⟩
theorem LinkAt.drewN {w : World} {g : Nat} {s : St} {F : Nat → Prop} (h : LinkAt w g s F) (m : Nat) : LinkAt (w.drewN m) g s F := h.keep ((Upto.refl (fun _ => False) _).drewN m) (fun _ _ h => h)
theorem Since.drewN {w0 w : World} {F : Nat → Prop} (h : Since w0 w F) (m : Nat) : Since w0 (w.drewN m) F := ⟨h.1.drewN m, h.2⟩
/-- The link goes on; what is gathered stays. -/
theorem Want.keep {W w0 wr w' : World} {gw : Nat} {F F' S : Nat → Prop} {V : Bool → Value} {us : Bool → List Value} {st : St} (h : Want W w0 wr gw F V us st) (U : Upto S wr w') (hS : ∀ k, S k → F k)
    (G : ∀ k, F' k → F k ∨ (wr.heap.size ≤ k ∧ k < w'.heap.size)) : Want W w0 w' gw F' V us st where
  blk := U.blk (fun hs => h.gout (hS _ hs)) h.blk
  owns b := U.owns (h.owns b) (fun k hk hs => h.out b k hk (hS _ hs))
  out b k hk hF := by
    rcases G k hF with h' | h'
    · exact h.out b k hk h'
    · obtain ⟨cs, hc⟩ := own_block_type (h.owns b) hk
      have := lt_of_block hc; omega
  gout hF := by
    rcases G gw hF with h' | h'
    · exact h.gout h'
    · have := lt_of_block h.blk; omega
  sep := h.sep
  fresh := h.fresh
  gfresh := h.gfresh
  frs := h.frs

theorem Want.push {W w0 w2 w3 w4 w5 : World} {g gw : Nat} {F : Nat → Prop} {V : Bool → Value} {us : Bool → List Value} {st stL : St} (h : Want W w0 w2 gw F V us st) (hL : LinkAt w2 g stL F) (hS : Since w0 w2 F) (up : Bool) {av v2 : Value} {bs : List Int} (ha : ArgFr W av bs)
    (U : Upto (fun _ => False) w2 w3) {row : Option Nat} (hrow : row = (V up).ownBlock) (hg : w3.grownBy w4 row) {n : Nat} (hn : n = (us up).length) (hown : w4.ownsRow 0 30 1 v2 (n + 1) (us up ++ [av]))
    (hat : ∀ k, v2.ownBlock = some k → (V up).ownBlock = some k ∨ (w2.heap.size ≤ k)) (hw : w5 = w4.setCell ⟨gw, if up then 0 else 1, none⟩ v2) :
    LinkAt w5 g stL F ∧ Since w0 w5 F ∧ Want W w0 w5 gw F (upd V up v2) (upd us up (us up ++ [av])) (upd st up (st up ++ [bs])) := by
  subst hw hrow hn
  have U1 : Upto (fun k => (V up).ownBlock = some k) w2 w4 := (U.mono (fun _ h => h.elim)).grown hg (fun k hk => .inl hk)
  have U2 : Upto (fun k => (V up).ownBlock = some k ∨ k = gw) w2 (w4.setCell ⟨gw, if up then 0 else 1, none⟩ v2) := (U1.mono (fun k hk => .inl (.inl hk))).setCell (p := ⟨gw, if up then 0 else 1, none⟩) (.inl (.inr rfl)) _
  have hF : ∀ k, F k → ¬ ((V up).ownBlock = some k ∨ k = gw) := fun k hk hs => by
    rcases hs with hs | rfl
    · exact h.out up k hs hk
    · exact h.gout hk
  have hb4 : w4.heap[gw]? = some (.cells #[V true, V false] 29 (0, 0)) := U1.blk (fun hk => h.row_ne up hk rfl) h.blk
  have hne : ∀ k, v2.ownBlock = some k → k ≠ gw := fun k hk => by
    obtain ⟨cs, hc⟩ := own_block_type hown hk
    exact cells_ne hc hb4 (by decide)
  have hlt : ∀ b k, (V b).ownBlock = some k → k < w2.heap.size := fun b k hk => by
    obtain ⟨cs, hc⟩ := own_block_type (h.owns b) hk
    exact lt_of_block hc
  refine ⟨hL.keep U2 hF, ⟨hS.1.trans U2 (fun k hk => .inr ?_), fun k hk => ⟨(hS.2 k hk).1, Nat.lt_of_lt_of_le (hS.2 k hk).2 U2.size⟩⟩, ?_⟩
  · rcases hk with hk | rfl
    · exact h.fresh up k hk
    · exact h.gfresh
  · refine ⟨?_, fun b => ?_, fun b k hk hFk => ?_, h.gout, fun b k hk => ?_, fun b k hk => ?_, h.gfresh, fun b => ?_⟩
    · rw [cells_set hb4, Parts.set]
    · by_cases hb : b = up
      · subst hb
        rw [upd_same, upd_same]
        have : (us b ++ [av]).length = (us b).length + 1 := by simp
        rw [this]
        exact ownsRow_setCell_other hown (fun e => hne _ e rfl) _
      · rw [upd_other _ _ _ hb, upd_other _ _ _ hb]
        refine U2.owns (h.owns b) (fun k hk hs => ?_)
        rcases hs with hs | rfl
        · have hup : (!b) = up := by cases b <;> cases up <;> simp_all
          exact h.sep b k hk (hup ▸ hs)
        · exact h.row_ne b hk rfl
    · by_cases hb : b = up
      · subst hb
        rw [upd_same] at hk
        rcases hat k hk with h' | h'
        · exact h.out b k h' hFk
        · have := (hS.2 k hFk).2; omega
      · rw [upd_other _ _ _ hb] at hk
        exact h.out b k hk hFk
    · by_cases hb : b = up
      · subst hb
        rw [upd_same] at hk
        rw [upd_other _ _ _ (by cases b <;> simp)]
        rcases hat k hk with h' | h'
        · exact h.sep b k h'
        · intro e; have := hlt _ k e; omega
      · have hup : (!b) = up := by cases b <;> cases up <;> simp_all
        rw [upd_other _ _ _ hb] at hk
        rw [hup, upd_same]
        intro e
        rcases hat k e with h' | h'
        · exact h.sep b k hk (hup ▸ h')
        · have := hlt _ k hk; omega
    · by_cases hb : b = up
      · subst hb
        rw [upd_same] at hk
        rcases hat k hk with h' | h'
        · exact h.fresh b k h'
        · exact Nat.le_trans hS.1.size h'
      · rw [upd_other _ _ _ hb] at hk; exact h.fresh b k hk
    · by_cases hb : b = up
      · subst hb
        rw [upd_same, upd_same]
        exact (h.frs b).append ⟨ha, trivial⟩
      · rw [upd_other _ _ _ hb, upd_other _ _ _ hb]; exact h.frs b
end Go.Proofs.Ytomhnabgdbpoiaa
