/- Two tables side by side: the program's and the document's. Condition: both can be read. -/
import Derived.Test.YtfknkkcpieaikaaR6
import Derived.Test.YtfknkkcpieaikaaRSame
namespace Go.Proofs.Ytfknkkcpieaikaa
open Go.RowKit
set_option linter.unusedVariables false
set_option linter.unusedSimpArgs false

/-- The program's table T, the document's TR, apart; K are blocks that stand beside them. -/
def Both (w1 : World) (b B r : Nat) (T TR : Tb) (K : Nat → Obj → Prop) (wr : World) : Prop :=
  ∃ P v, TabAt wr b B P T ∧ RefAt wr r v TR ∧ (∀ k, Own b B P T.L k → w1.heap.size ≤ k ∧ ¬ ROwn r v k) ∧ (∀ k, ROwn r v k → w1.heap.size ≤ k) ∧ Upto F0 w1 wr ∧ ∀ k o, K k o → wr.heap[k]? = some o ∧ ¬ Own b B P T.L k ∧ ¬ ROwn r v k
section
variable {w1 wr w' : World} {b B r : Nat} {T T' TR : Tb} {K K' : Nat → Obj → Prop} {res : Value}
theorem Both.low (h : Both w1 b B r T TR K wr) : Upto F0 w1 wr := by
  obtain ⟨P, v, hT, hR, ho, hr, hl, hK⟩ := h
  exact hl
theorem Both.fine (h : Both w1 b B r T TR K wr) : Fine T := by
  obtain ⟨P, v, hT, _⟩ := h
  exact hT.f
theorem Both.less (h : Both w1 b B r T TR K wr) (hk : ∀ k o, K' k o → K k o) : Both w1 b B r T TR K' wr := by
  obtain ⟨P, v, hT, hR, ho, hr, hl, hK⟩ := h
  exact ⟨P, v, hT, hR, ho, hr, hl, fun k o h => hK k o (hk k o h)⟩
theorem Both.still (h : Both w1 b B r T TR K wr) (hu : Upto F0 wr w') : Both w1 b B r T TR K w' := by
  obtain ⟨P, v, hT, hR, ho, hr, hl, hK⟩ := h
  exact ⟨P, v, hT.upto hu (fun _ _ h => h), hR.upto hu (fun _ _ h => h), ho, hr, hl.trans hu (fun _ h => h.elim), fun k o hk => ⟨(hu.block k (Array.getElem?_eq_some_iff.1 (hK k o hk).1).1 (fun h => h)).trans (hK k o hk).1, (hK k o hk).2⟩⟩
theorem Both.below (h : Both w1 b B r T TR K wr) (hb : Below wr.heap.size wr w') : Both w1 b B r T TR K w' := h.still (below_upto hb)
theorem Both.drewN (h : Both w1 b B r T TR K wr) (q : Nat) : Both w1 b B r T TR K (wr.drewN q) := h.still (drewN_upto F0 wr q)
theorem Both.drew (h : Both w1 b B r T TR K wr) : Both w1 b B r T TR K wr.drew := h.still (Upto.refl F0 wr).drew
/-- What is new stands beside them. -/
theorem Both.own_lt (h : Both w1 b B r T TR K wr) : ∃ P v, TabAt wr b B P T ∧ RefAt wr r v TR ∧ (∀ k, Own b B P T.L k → k < wr.heap.size) ∧ ∀ k, ROwn r v k → k < wr.heap.size := by
  obtain ⟨P, v, hT, hR, _⟩ := h
  exact ⟨P, v, hT, hR, fun k hk => hT.lt hk, fun k hk => hR.own_lt hk⟩
theorem Both.new (h : Both w1 b B r T TR K wr) (ob : Obj) : Both w1 b B r T TR (addK K wr.heap.size ob) (wr.alloc ob) := by
  obtain ⟨P, v, hT, hR, ho, hr, hl, hK⟩ := h
  refine ⟨P, v, hT.below (below_alloc wr ob), hR.below (below_alloc wr ob), ho, hr, hl.alloc ob, fun k o hk => ?_⟩
  rcases hk with hk | ⟨rfl, rfl⟩
  · exact ⟨((below_alloc wr ob).block k (Array.getElem?_eq_some_iff.1 (hK k o hk).1).1).trans (hK k o hk).1, (hK k o hk).2⟩
  · exact ⟨World.alloc_heap_new _ _, fun hk => by have := hT.lt hk; omega, fun hk => by have := hR.own_lt hk; omega⟩
theorem Both.at (h : Both w1 b B r T TR K wr) {g j : Nat} {cs : Array Value} {t : TypeId} (hK : K g (.cells cs t (0, 0))) {v : Value} (hc : cs[j]? = some v) : wr.cell? ⟨g, j, none⟩ = some v := by
  obtain ⟨P, v, hT, hR, ho, hr, hl, hK2⟩ := h
  unfold World.cell?
  rw [(hK2 _ _ hK).1]
  exact hc
theorem Both.blk (h : Both w1 b B r T TR K wr) {g : Nat} {o : Obj} (hK : K g o) : wr.heap[g]? = some o := by
  obtain ⟨P, v, hT, hR, ho, hr, hl, hK2⟩ := h
  exact (hK2 _ _ hK).1
/-- The program's table is called. -/
theorem Both.left {f : Nat} {args : Array Value} (h : Both w1 b B r T TR K wr) (hc : ∀ P, TabAt wr b B P T → Calls Try.prog f args wr (TPost b B P T.L T' res wr)) :
    Calls Try.prog f args wr (fun e w' => e = .returned res ∧ Both w1 b B r T' TR K w') := by
  obtain ⟨P, v, hT, hR, ho, hr, hl, hK⟩ := h
  refine (hc P hT).mono ?_
  rintro e w' ⟨rfl, P', hT', hu, hx⟩
  have hown : ∀ k, Own b B P' T'.L k → Own b B P T.L k ∨ wr.heap.size ≤ k := fun k hk => by
    rcases hk with hk | hk | ⟨x, hx', hk⟩
    · exact .inl (.inl hk)
    · exact .inl (.inr (.inl hk))
    · rw [hk]; exact hx x hx'
  refine ⟨rfl, P', v, hT', hR.upto hu (fun k hk ho' => (ho k ho').2 hk), fun k hk => ?_, hr, hl.trans hu (fun k hk => .inr (ho k hk).1), fun k o hk => ?_⟩
  · rcases hown k hk with h1 | h1
    · exact ho k h1
    · exact ⟨by have := hl.size; omega, fun h2 => by have := hR.own_lt h2; omega⟩
  · obtain ⟨h1, h2, h3⟩ := hK k o hk
    have hlt := (Array.getElem?_eq_some_iff.1 h1).1
    refine ⟨(hu.block k hlt h2).trans h1, fun h4 => ?_, h3⟩
    rcases hown k h4 with h5 | h5
    · exact h2 h5
    · omega
/-- The document's table is called. -/
theorem Both.right {f : Nat} {args : Array Value} {TR' : Tb} (h : Both w1 b B r T TR K wr) (hc : ∀ v, RefAt wr r v TR → Calls Try.prog f args wr (RPost r v TR' res wr)) :
    Calls Try.prog f args wr (fun e w' => e = .returned res ∧ Both w1 b B r T TR' K w') := by
  obtain ⟨P, v, hT, hR, ho, hr, hl, hK⟩ := h
  refine (hc v hR).mono ?_
  rintro e w' ⟨rfl, v', hR', hu, hx⟩
  have hown : ∀ k, ROwn r v' k → ROwn r v k ∨ wr.heap.size ≤ k := fun k hk => by
    rcases hk with hk | hk
    · exact .inl (.inl hk)
    · rcases hx k hk with h1 | h1
      · exact .inl (.inr h1)
      · exact .inr h1
  refine ⟨rfl, P, v', hT.upto hu (fun k hk ho' => (ho k hk).2 ho'), hR', fun k hk => ⟨(ho k hk).1, fun h2 => ?_⟩, fun k hk => ?_, hl.trans hu (fun k hk => .inr (hr k hk)), fun k o hk => ?_⟩
  · rcases hown k h2 with h1 | h1
    · exact (ho k hk).2 h1
    · have := hT.lt hk; omega
  · rcases hown k hk with h1 | h1
    · exact hr k h1
    · have := hl.size; omega
  · obtain ⟨h1, h2, h3⟩ := hK k o hk
    have hlt := (Array.getElem?_eq_some_iff.1 h1).1
    refine ⟨(hu.block k hlt h3).trans h1, h2, fun h4 => ?_⟩
    rcases hown k h4 with h5 | h5
    · exact h3 h5
    · omega
theorem Both.rget {id : Int} (h : Both w1 b B r T TR K wr) (hl : TR.L.length ≤ 8) : Calls Try.prog 38 #[.pointer (some ⟨r, 0, none⟩), .int .u64 id] wr (fun e w' => e = .returned (.tuple #[entV ((getL TR.L id).getD Ent.nil), .bool (getL TR.L id).isSome]) ∧ Both w1 b B r T TR K w') := by
  have h0 := h
  obtain ⟨P, v, hT, hR, _⟩ := h
  refine (rget_any r v TR id wr hR hl).mono ?_
  rintro e w' ⟨rfl, hb⟩
  exact ⟨rfl, h0.below hb⟩
theorem Both.get {id : Int} (hU : U64 id) (h : Both w1 b B r T TR K wr) : Calls Try.prog 11 #[.pointer (some ⟨b, 0, none⟩), .int .u64 id] wr (fun e w' => e = .returned (.tuple #[entV ((getL T.L id).getD Ent.nil), .bool (getL T.L id).isSome]) ∧ Both w1 b B r T TR K w') := by
  have h0 := h
  obtain ⟨P, v, hT, hR, _⟩ := h
  refine (get_any b B P T id wr hU hT).mono ?_
  rintro e w' ⟨rfl, hb⟩
  exact ⟨rfl, h0.below hb⟩
theorem Both.valid {id : Int} (hU : U64 id) (h : Both w1 b B r T TR K wr) : Calls Try.prog 17 #[.pointer (some ⟨b, 0, none⟩), .int .u64 id] wr (fun e w' => e = .returned (.bool (match getL T.L id with | none => false | some x => x.st == 2)) ∧ wr = w') := by
  obtain ⟨P, v, hT, hR, _⟩ := h
  exact valid_any b B P T id wr hU hT
theorem Both.len (h : Both w1 b B r T TR K wr) : Calls Try.prog 20 #[.pointer (some ⟨b, 0, none⟩)] wr (fun e w' => e = .returned (.int .i64 (T.L.length : Nat)) ∧ wr = w') := by
  obtain ⟨P, v, hT, hR, _⟩ := h
  exact len_any b B P T wr hT
theorem Both.epoch (h : Both w1 b B r T TR K wr) : Calls Try.prog 14 #[.pointer (some ⟨b, 0, none⟩)] wr (fun e w' => e = .returned (.int .u64 T.epoch) ∧ wr = w') := by
  obtain ⟨P, v, hT, hR, _⟩ := h
  exact epoch_any b B P T wr hT
/-- Both tick. -/
theorem Both.tick (h : Both w1 b B r T TR K wr) : Calls Try.prog 13 #[.pointer (some ⟨b, 0, none⟩)] wr (fun e w' => ∃ A n c, e = .returned (.slice A n c) ∧ (tickIds T).length = n ∧ NumsAt w' (.slice A n c) (tickIds T) ∧ Both w1 b B r (tickT T) TR (orK K (.slice A n c) w') w') := by
  obtain ⟨P, v, hT, hR, ho, hr, hl, hK⟩ := h
  refine (tick_any b B P T wr hT).mono ?_
  rintro e w' ⟨A, n, c, rfl, hn, hnum, hfr, hT', hu⟩
  have hoo : ∀ k, Own b B P (tickT T).L k → Own b B P T.L k := fun k hk => by
    rcases hk with hk | hk | ⟨x, hx', hk⟩
    · exact .inl hk
    · exact .inr (.inl hk)
    · rw [hk]; exact own_tick hx'
  refine ⟨A, n, c, rfl, hn, hnum, P, v, hT', hR.upto hu (fun k hk ho' => (ho k ho').2 hk), fun k hk => ho k (hoo k hk), hr, hl.trans hu (fun k hk => .inr (ho k hk).1), fun k o hk => ?_⟩
  rcases hk with hk | ⟨hk, hk2⟩
  · obtain ⟨h1, h2, h3⟩ := hK k o hk
    exact ⟨(hu.block k (Array.getElem?_eq_some_iff.1 h1).1 h2).trans h1, fun h => h2 (hoo k h), h3⟩
  · have hge : wr.heap.size ≤ k := by
      cases A with
      | none => cases hk
      | some a => cases hk; exact hfr a rfl
    exact ⟨hk2, fun h => by have := hT.lt (hoo k h); omega, fun h => by have := hR.own_lt h; omega⟩
theorem Both.rtick (h : Both w1 b B r T TR K wr) (hF : Fine TR) : Calls Try.prog 34 #[.pointer (some ⟨r, 0, none⟩)] wr (fun e w' => ∃ A n c, e = .returned (.slice A n c) ∧ (tickIds TR).length = n ∧ NumsAt w' (.slice A n c) (tickIds TR) ∧ Both w1 b B r T (tickT TR) K w') := by
  have hl8 : TR.L.length ≤ 8 := by have := hF.len; have := hF.s2; omega
  obtain ⟨P, v, hT, hR, ho, hr, hl, hK⟩ := h
  refine (rtick_any r v TR wr hR hl8 hF.rise (fun x hx hw => by have := hF.wait x hx hw; have := hF.w2; omega)).mono ?_
  rintro e w' ⟨A, n, c, rfl, hn, hrow, hR', hu⟩
  exact ⟨A, n, c, rfl, hn, nums_own hrow hn, P, v, hT.upto hu (fun k hk ho' => (ho k hk).2 ho'), hR', ho, hr, hl.trans hu (fun k hk => .inr (hr k hk)), fun k o hk => by
    obtain ⟨h1, h2, h3⟩ := hK k o hk
    exact ⟨(hu.block k (Array.getElem?_eq_some_iff.1 h1).1 h3).trans h1, h2, h3⟩⟩
theorem NumsAt.same {A : Option Addr} {n c : Nat} {xs : List Int} (h : NumsAt wr (.slice A n c) xs) (hs : ∀ a o, A = some a → wr.heap[a.block]? = some o → w'.heap[a.block]? = some o) : NumsAt w' (.slice A n c) xs := by
  obtain ⟨A', c', e, h3⟩ := h
  injection e with e1 e2 e3
  subst e1 e3
  refine ⟨A, c, by rw [e2], fun h0 => ?_⟩
  obtain ⟨g, o, e4, hc⟩ := h3 h0
  refine ⟨g, o, e4, fun i p hp => ?_⟩
  have hc := hc i p hp
  obtain ⟨ob, hob⟩ : ∃ ob, wr.heap[g]? = some ob := ⟨_, Array.getElem?_eq_getElem (World.block_lt_of_cell? _ _ hc)⟩
  exact (World.cell?_of_block (a := ⟨g, o + i, none⟩) ((hs ⟨g, o, none⟩ ob e4 hob).trans hob.symm)).trans hc
end
end Go.Proofs.Ytfknkkcpieaikaa
