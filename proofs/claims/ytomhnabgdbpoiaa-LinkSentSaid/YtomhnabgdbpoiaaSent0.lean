/- What LinkSent gathers: slices that came in, frames that came out; how often each is there. No conditions. -/
import Derived.Test.YtomhnabgdbpoiaaOps
namespace Go.Proofs.Ytomhnabgdbpoiaa
open Go.RowKit
set_option linter.unusedVariables false
set_option linter.unusedSimpArgs false

/-- A frame that has come out of the link. -/
def Come (wr : World) (F : Nat → Prop) (v : Value) (b : List Int) : Prop := ∃ gb c, v = .slice (some ⟨gb, 0, none⟩) b.length c ∧ Frm wr v gb b ∧ ¬ F gb
def ComeFrs (wr : World) (F : Nat → Prop) : List Value → List (List Int) → Prop
  | [], [] => True
  | v :: vs, b :: bs => Come wr F v b ∧ ComeFrs wr F vs bs
  | _, _ => False
section
variable {wr w' : World} {F F' : Nat → Prop}
theorem ComeFrs.append : ∀ {vs vs' : List Value} {fs fs' : List (List Int)}, ComeFrs wr F vs fs → ComeFrs wr F vs' fs' → ComeFrs wr F (vs ++ vs') (fs ++ fs')
  | [], _, [], _, _, h => h
  | _ :: _, _, _ :: _, _, ⟨h1, h2⟩, h => ⟨h1, h2.append h⟩
  | [], _, _ :: _, _, h, _ => h.elim
  | _ :: _, _, [], _, h, _ => h.elim
theorem ComeFrs.len : ∀ {vs : List Value} {fs : List (List Int)}, ComeFrs wr F vs fs → vs.length = fs.length
  | [], [], _ => rfl
  | _ :: _, _ :: _, ⟨_, h2⟩ => by simp [h2.len]
  | [], _ :: _, h => h.elim
  | _ :: _, [], h => h.elim
theorem ComeFrs.at_ : ∀ {vs : List Value} {fs : List (List Int)}, ComeFrs wr F vs fs → ∀ i, i < fs.length → ∃ v b, vs[i]? = some v ∧ fs[i]? = some b ∧ Come wr F v b
  | _ :: _, _ :: _, ⟨h1, _⟩, 0, _ => ⟨_, _, rfl, rfl, h1⟩
  | _ :: _, _ :: _, ⟨_, h2⟩, i + 1, hi => by
    obtain ⟨v, b, h1, h2', h3⟩ := h2.at_ i (by simpa using hi)
    exact ⟨v, b, by simpa using h1, by simpa using h2', h3⟩
  | [], [], _, i, hi => by simp at hi
  | [], _ :: _, h, _, _ => h.elim
  | _ :: _, [], h, _, _ => h.elim
theorem ComeFrs.mono : ∀ {vs : List Value} {fs : List (List Int)}, ComeFrs wr F vs fs → (∀ v b, Come wr F v b → Come w' F' v b) → ComeFrs w' F' vs fs
  | [], [], _, _ => trivial
  | _ :: _, _ :: _, ⟨h1, h2⟩, h => ⟨h _ _ h1, h2.mono h⟩
  | [], _ :: _, h, _ => h.elim
  | _ :: _, [], h, _ => h.elim
theorem Come.block {v : Value} {b : List Int} (h : Come wr F v b) : ∃ gb c cs, v = .slice (some ⟨gb, 0, none⟩) b.length c ∧ wr.heap[gb]? = some (.cells cs 5 (0, 0)) := by
  obtain ⟨gb, c, h1, h2, _⟩ := h
  obtain ⟨cs, hc⟩ := own_block_type h2.1 h2.2
  exact ⟨gb, c, cs, h1, hc⟩
theorem Come.keep {S : Nat → Prop} {v : Value} {b : List Int} (h : Come wr F v b) (U : Upto S wr w') (hS : ∀ k cs, wr.heap[k]? = some (.cells cs 5 (0, 0)) → ¬ F k → ¬ S k) (G : ∀ k, F' k → F k ∨ wr.heap.size ≤ k) : Come w' F' v b := by
  obtain ⟨gb, c, h1, h2, h3⟩ := h
  obtain ⟨cs, hc⟩ := own_block_type h2.1 h2.2
  refine ⟨gb, c, h1, h2.upto U (hS gb cs hc h3), fun hF => ?_⟩
  rcases G gb hF with h | h
  · exact h3 h
  · have := lt_of_block hc; omega
end

structure Gath (W w0 wr : World) (F : Nat → Prop) (vs vc : Value) (us uc : List Value) (sent come : List (List Int)) : Prop where
  ownsS : wr.ownsRow 0 30 1 vs us.length us
  ownsC : wr.ownsRow 0 30 1 vc uc.length uc
  outS : ∀ k, vs.ownBlock = some k → ¬ F k ∧ w0.heap.size ≤ k
  outC : ∀ k, vc.ownBlock = some k → ¬ F k ∧ w0.heap.size ≤ k
  sep : ∀ k, vs.ownBlock = some k → vc.ownBlock ≠ some k
  frS : ArgFrs W us sent
  frC : ComeFrs wr F uc come

section
variable {W w0 wr w' w3 w4 : World} {F F' : Nat → Prop} {vs vc : Value} {us uc : List Value} {sent come : List (List Int)}
theorem Gath.keep {S : Nat → Prop} (h : Gath W w0 wr F vs vc us uc sent come) (U : Upto S wr w') (hS : ∀ k, S k → F k) (G : ∀ k, F' k → F k ∨ (wr.heap.size ≤ k ∧ k < w'.heap.size)) : Gath W w0 w' F' vs vc us uc sent come where
  ownsS := U.owns h.ownsS (fun k hk hs => (h.outS k hk).1 (hS _ hs))
  ownsC := U.owns h.ownsC (fun k hk hs => (h.outC k hk).1 (hS _ hs))
  outS k hk := ⟨fun hF => by
    rcases G k hF with h' | h'
    · exact (h.outS k hk).1 h'
    · obtain ⟨cs, hc⟩ := own_block_type h.ownsS hk
      have := lt_of_block hc; omega, (h.outS k hk).2⟩
  outC k hk := ⟨fun hF => by
    rcases G k hF with h' | h'
    · exact (h.outC k hk).1 h'
    · obtain ⟨cs, hc⟩ := own_block_type h.ownsC hk
      have := lt_of_block hc; omega, (h.outC k hk).2⟩
  sep := h.sep
  frS := h.frS
  frC := h.frC.mono (fun v b hc => hc.keep U (fun k _ _ hF hs => hF (hS k hs)) (fun k hk => (G k hk).imp id (fun h => h.1)))
theorem Gath.quiet (h : Gath W w0 wr F vs vc us uc sent come) (U : Upto (fun _ => False) wr w') : Gath W w0 w' F vs vc us uc sent come := h.keep U (fun _ h => h.elim) (fun _ h => .inl h)

theorem Gath.pushS {g : Nat} {st : St} (h : Gath W w0 wr F vs vc us uc sent come) (hL : LinkAt wr g st F) (hS : Since w0 wr F) {av v2 : Value} {bs : List Int} (ha : ArgFr W av bs) (U : Upto (fun _ => False) wr w3) {row : Option Nat} (hrow : row = vs.ownBlock) (hg : w3.grownBy w4 row)
    {n : Nat} (hn : us.length = n) (hown : w4.ownsRow 0 30 1 v2 (n + 1) (us ++ [av])) (hat : ∀ k, v2.ownBlock = some k → vs.ownBlock = some k ∨ wr.heap.size ≤ k) :
    LinkAt w4 g st F ∧ Since w0 w4 F ∧ Gath W w0 w4 F v2 vc (us ++ [av]) uc (sent ++ [bs]) come := by
  subst hrow hn
  have U1 : Upto (fun k => vs.ownBlock = some k) wr w4 := (U.mono (fun _ h => h.elim)).grown hg (fun k hk => .inl hk)
  refine ⟨hL.keep U1 (fun k hF hk => (h.outS k hk).1 hF), ⟨hS.1.trans U1 (fun k hk => .inr (h.outS k hk).2), fun k hk => ⟨(hS.2 k hk).1, Nat.lt_of_lt_of_le (hS.2 k hk).2 U1.size⟩⟩, ?_⟩
  refine ⟨by simpa using hown, U1.owns h.ownsC (fun k hk hs => h.sep k hs hk), fun k hk => ?_, h.outC, fun k hk => ?_, h.frS.append ⟨ha, trivial⟩, h.frC.mono (fun v b hc => hc.keep U1 (fun k cs hb _ hs => ?_) (fun k hk => .inl hk))⟩
  · rcases hat k hk with h' | h'
    · exact h.outS k h'
    · exact ⟨fun hF => by have := (hS.2 k hF).2; omega, Nat.le_trans hS.1.size h'⟩
  · rcases hat k hk with h' | h'
    · exact h.sep k h'
    · intro e
      obtain ⟨cs, hc⟩ := own_block_type h.ownsC e
      have := lt_of_block hc; omega
  · obtain ⟨cs', hc'⟩ := own_block_type h.ownsS hs
    exact cells_ne hb hc' (by decide) rfl
theorem Gath.pushC {g : Nat} {st : St} (h : Gath W w0 wr F vs vc us uc sent come) (hL : LinkAt wr g st F) (hS : Since w0 wr F) {av v2 : Value} {bs : List Int} (ha : Come wr F av bs) (U : Upto (fun _ => False) wr w3) {row : Option Nat} (hrow : row = vc.ownBlock) (hg : w3.grownBy w4 row)
    {n : Nat} (hn : uc.length = n) (hown : w4.ownsRow 0 30 1 v2 (n + 1) (uc ++ [av])) (hat : ∀ k, v2.ownBlock = some k → vc.ownBlock = some k ∨ wr.heap.size ≤ k) :
    LinkAt w4 g st F ∧ Since w0 w4 F ∧ Gath W w0 w4 F vs v2 us (uc ++ [av]) sent (come ++ [bs]) := by
  subst hrow hn
  have U1 : Upto (fun k => vc.ownBlock = some k) wr w4 := (U.mono (fun _ h => h.elim)).grown hg (fun k hk => .inl hk)
  have keepC : ∀ v b, Come wr F v b → Come w4 F v b := fun v b hc => hc.keep U1 (fun k cs hb _ hs => by
    obtain ⟨cs', hc'⟩ := own_block_type h.ownsC hs
    exact cells_ne hb hc' (by decide) rfl) (fun k hk => .inl hk)
  refine ⟨hL.keep U1 (fun k hF hk => (h.outC k hk).1 hF), ⟨hS.1.trans U1 (fun k hk => .inr (h.outC k hk).2), fun k hk => ⟨(hS.2 k hk).1, Nat.lt_of_lt_of_le (hS.2 k hk).2 U1.size⟩⟩, ?_⟩
  refine ⟨U1.owns h.ownsS (fun k hk hs => h.sep k hk hs), by simpa using hown, h.outS, fun k hk => ?_, fun k hk => ?_, h.frS, (h.frC.mono keepC).append ⟨keepC _ _ ha, trivial⟩⟩
  · rcases hat k hk with h' | h'
    · exact h.outC k h'
    · exact ⟨fun hF => by have := (hS.2 k hF).2; omega, Nat.le_trans hS.1.size h'⟩
  · intro e
    rcases hat k e with h' | h'
    · exact h.sep k hk h'
    · obtain ⟨cs, hc⟩ := own_block_type h.ownsS hk
      have := lt_of_block hc; omega
end

/-- No frame is there more often than it was sent. -/
def Cnts (st : St) (sent come : List (List Int)) : Prop := ∀ p : List Int → Bool, come.countP p + (st true).countP p + (st false).countP p ≤ sent.countP p
theorem countP_cut (l : List (List Int)) (k : Nat) (x : List Int) (h : l[k]? = some x) (p : List Int → Bool) : (l.take k ++ l.drop (k + 1)).countP p + (if p x then 1 else 0) = l.countP p := by
  have hk := (List.getElem?_eq_some_iff.1 h).1
  have e : l = l.take k ++ x :: l.drop (k + 1) := by
    conv => lhs; rw [← List.take_append_drop k l]
    rw [List.drop_eq_getElem_cons hk]
    rw [List.getElem?_eq_getElem hk] at h
    rw [Option.some.inj h]
  conv => rhs; rw [e]
  rw [List.countP_append, List.countP_append, List.countP_cons]
  omega
theorem cnts_upd {st : St} {up : Bool} {r : List (List Int)} (p : List Int → Bool) : ((upd st up r) true).countP p + ((upd st up r) false).countP p + (st up).countP p = (st true).countP p + (st false).countP p + r.countP p := by
  cases up <;> simp [upd] <;> omega
theorem Cnts.send {st : St} {sent come : List (List Int)} (h : Cnts st sent come) (up : Bool) (bs : List Int) : Cnts (upd st up (st up ++ [bs])) (sent ++ [bs]) come := fun p => by
  have h1 := h p
  have h2 := cnts_upd (st := st) (up := up) (r := st up ++ [bs]) p
  rw [List.countP_append] at h2 ⊢
  omega
theorem Cnts.take {st : St} {sent come : List (List Int)} (h : Cnts st sent come) (up : Bool) (k : Nat) (bs : List Int) (hk : (st up)[k]? = some bs) : Cnts (upd st up ((st up).take k ++ (st up).drop (k + 1))) sent (come ++ [bs]) := fun p => by
  have h1 := h p
  have h2 := cnts_upd (st := st) (up := up) (r := (st up).take k ++ (st up).drop (k + 1)) p
  have h3 := countP_cut (st up) k bs hk p
  rw [List.countP_append, List.countP_singleton]
  omega
theorem Cnts.drop {st : St} {sent come : List (List Int)} (h : Cnts st sent come) (j : Int) : Cnts (dropP st j) sent come := fun p => by
  have h1 := h p
  unfold dropP
  rcases at_cases st j with ⟨e, _⟩ | ⟨k, e, _, hk⟩ | ⟨k, e, _, hk⟩
  · rw [e]; exact h1
  · rw [e]
    have h2 := cnts_upd (st := st) (up := true) (r := (st true).take k ++ (st true).drop (k + 1)) p
    have h3 := countP_cut (st true) k _ (List.getElem?_eq_getElem hk) p
    show come.countP p + ((upd st true _) true).countP p + ((upd st true _) false).countP p ≤ _
    omega
  · rw [e]
    have h2 := cnts_upd (st := st) (up := false) (r := (st false).take k ++ (st false).drop (k + 1)) p
    have h3 := countP_cut (st false) k _ (List.getElem?_eq_getElem hk) p
    show come.countP p + ((upd st false _) true).countP p + ((upd st false _) false).countP p ≤ _
    omega
theorem Cnts.lens {st : St} {sent come : List (List Int)} (h : Cnts st sent come) : come.length + (st true).length + (st false).length ≤ sent.length := by
  have := h (fun _ => true)
  simpa using this
theorem Cnts.none : Cnts (fun _ => []) [] [] := fun p => by simp
theorem countP_next (l : List (List Int)) (k : Nat) (x : List Int) (h : l[k]? = some x) (p : List Int → Bool) : (l.take (k + 1)).countP p = (l.take k).countP p + if p x then 1 else 0 := by
  have hk := (List.getElem?_eq_some_iff.1 h).1
  rw [List.getElem?_eq_getElem hk] at h
  rw [List.take_succ_eq_append_getElem hk, List.countP_append, Option.some.inj h, List.countP_singleton]
end Go.Proofs.Ytomhnabgdbpoiaa
