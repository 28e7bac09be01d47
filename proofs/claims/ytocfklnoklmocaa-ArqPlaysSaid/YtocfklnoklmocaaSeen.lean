/- What was seen: Take, Many. Conditions: it can be read; it is no more than a million. -/
import Derived.Test.YtocfklnoklmocaaSrc
namespace Go.Proofs.Ytocfklnoklmocaa
open Go.RowKit Go.Maps Go.MapKept Go.ChangeMaps
set_option linter.unusedVariables false
set_option linter.unusedSimpArgs false

def addL (l : List Int) (x : Int) : List Int := if x ∈ l then l else l ++ [x]
theorem mem_addL {l : List Int} {x y : Int} : y ∈ addL l x ↔ y = x ∨ y ∈ l := by
  unfold addL
  split
  · rename_i h
    constructor
    · exact .inr
    · rintro (rfl | h')
      · exact h
      · exact h'
  · simp [or_comm]
theorem plainElem_bool_inv {H : Type} {v : Value} {x : Bool} {ps : List MemPlace} (h : plainElem (H := H) Try.prog 4 v = some (.lit (.bool x), ps)) : v = .bool x := by
  unfold plainElem at h
  rw [under4] at h
  cases v <;> simp at h
  rw [h.1]
/-- Block B is a set of numbers: l. -/
def SetIs (w : World) (B : Nat) (l : List Int) : Prop :=
  ∃ D : DataW Unit, w.ownsMap Try.prog 27 (plainElem Try.prog 4) B l.length D ∧ Maps.size D = l.length ∧ (∀ k, Maps.has D (keyN k) = decide (k ∈ l)) ∧ ∀ k, D.atKey (keyN k) (.lit (.bool false)) = .lit (.bool (decide (k ∈ l)))
section
variable {w w' : World} {B : Nat} {l : List Int}
theorem SetIs.made (w : World) : SetIs (w.alloc (.map #[] 0)) w.heap.size [] := ⟨.map [], World.ownsMap_made w _ _ _, rfl, fun s => rfl, fun k => rfl⟩
theorem SetIs.lt (h : SetIs w B l) : B < w.heap.size := by
  obtain ⟨D, ho, _⟩ := h
  exact ho.lt
theorem SetIs.upto {S : Nat → Prop} (h : SetIs w B l) (hu : Upto S w w') (hS : ¬ S B) : SetIs w' B l := by
  have hl := h.lt
  obtain ⟨D, ⟨es, clock, hh, F, hs, hD⟩, h1⟩ := h
  exact ⟨D, ⟨es, clock, (hu.block B hl hS).trans hh, F, hs, hD⟩, h1⟩
theorem SetIs.look (h : SetIs w B l) {x : Int} (hx : U64 x) : (Instr.lookup 24 (.map (some B)) (.int .u64 x) false).run Try.prog w = .ok (.bool (decide (x ∈ l))) w := by
  obtain ⟨D, ho, hs, h1, h2⟩ := h
  obtain ⟨v, ps, hrun, hv⟩ := ho.lookup keyed27 under24 (zero4 w) (plainElem_bool under4 false) (keyOf_n hx)
  rw [h2] at hv
  rw [hrun, plainElem_bool_inv hv]
theorem SetIs.put (h : SetIs w B l) (hK : l.length < 1000000) {x : Int} (hx : U64 x) :
    ∃ w', (Instr.mapUpdate 24 (.map (some B)) (.int .u64 x) (.bool true)).run Try.prog w = .ok () w' ∧ SetIs w' B (addL l x) ∧ Upto (fun k => k = B) w w' ∧ w'.heap.size = w.heap.size := by
  obtain ⟨D, ho, hs, h1, h2⟩ := h
  obtain ⟨w', hrun, ho', hm⟩ := ho.store keyed27 under24 (by unfold maxLen; omega) (keyOf_n hx) (plainElem_bool under4 true)
  have hsz : Maps.size (D.put (keyN x) (.lit (.bool true))) = (addL l x).length := by
    rw [size_put (ho.tidy keyed27), h1, hs]
    unfold addL
    by_cases e : x ∈ l
    · simp [e]
    · simp [e]
  refine ⟨w', hrun, ⟨_, tight ho' (Nat.le_of_eq hsz), hsz, fun k => ?_, fun k => ?_⟩, (Upto.refl _ w).grown hm.grown (fun k e => by cases e; exact .inl rfl), ?_⟩
  · by_cases e : k = x
    · subst e
      rw [has_put_same ho.isMap (isKeyN _)]
      simp [mem_addL]
    · rw [has_put_other (keyN_ne e), h1]
      simp [mem_addL, e]
  · by_cases e : k = x
    · subst e
      rw [atKey_put_same ho.isMap (isKeyN _)]
      simp [mem_addL]
    · rw [atKey_put_other (keyN_ne e), h2]
      simp [mem_addL, e]
  · obtain ⟨_, _, _, _, _, rfl⟩ := hm
    simp [setBlock]
end
/-- What was seen, at block b; M its map. -/
def SeenAt (w : World) (b : Nat) (M : Option Nat) (l : List Int) : Prop :=
  Boxed w b 26 (.map M) ∧ (M = none → l = []) ∧ ∀ B, M = some B → b ≠ B ∧ SetIs w B l
section
variable {w w' : World} {b : Nat} {M : Option Nat} {l : List Int}
theorem SeenAt.new (w : World) : SeenAt (w.alloc (.cells #[.map none] 26)) w.heap.size none [] := ⟨Boxed.new w 26 (.map none), fun _ => rfl, fun B e => by cases e⟩
theorem SeenAt.upto {S : Nat → Prop} (h : SeenAt w b M l) (hu : Upto S w w') (h1 : ¬ S b) (h2 : ∀ B, M = some B → ¬ S B) : SeenAt w' b M l :=
  ⟨(hu.block b h.1.lt h1).trans h.1, h.2.1, fun B e => ⟨(h.2.2 B e).1, (h.2.2 B e).2.upto hu (h2 B e)⟩⟩
theorem SeenAt.below (h : SeenAt w b M l) (hb : Below w.heap.size w w') : SeenAt w' b M l := h.upto (below_upto (S := fun _ => False) hb) (fun h => h) (fun _ _ h => h)
end
def TakePost (b : Nat) (M : Option Nat) (l : List Int) (x : Int) (w : World) (en : Ending) (w' : World) : Prop :=
  en = .returned (.bool (!decide (x ∈ l))) ∧ ∃ B, SeenAt w' b (some B) (addL l x) ∧ (M = some B ∨ w.heap.size ≤ B) ∧ Upto (fun k => k = b ∨ M = some k) w w'

theorem map_nil (W : World) (B : Nat) : (binOp .eql 24 (.map (some B)) (.map none)).run Try.prog W = .ok (.bool false) W := by
  first | rfl | (simp [binOp, go_sem, under24]; done)
theorem nil_nil (W : World) : (binOp .eql 24 (.map none) (.map none)).run Try.prog W = .ok (.bool true) W := by
  first | rfl | (simp [binOp, go_sem, under24]; done)

set_option maxRecDepth 100000 in
theorem take_any (b : Nat) (M : Option Nat) (l : List Int) (x : Int) (w : World) (hx : U64 x) (hl : l.length < 1000000) (h : SeenAt w b M l) : Calls Try.prog 9 #[.pointer (some ⟨b, 0, none⟩), .int .u64 x] w (TakePost b M l x w) := by
  obtain ⟨hb, hn, hs⟩ := h
  have c0 := hb.cell
  have z0 := hb.frozen
  have Hb := Lib.hid hb
  cases M with
  | some B =>
    obtain ⟨hne, hS⟩ := hs B rfl
    have hbn := map_nil w B
    have hlook := hS.look hx
    obtain ⟨w', hrun, hS', hu, hs'⟩ := hS.put hl hx
    obtain ⟨t, ht⟩ : ∃ t, decide (x ∈ l) = t := ⟨_, rfl⟩
    rw [ht] at hlook
    have HE := Lib.hid (show TakePost b (some B) l x w (.returned (.bool (!t))) w' from ⟨by rw [ht], B, ⟨(hu.block b hb.lt hne).trans hb, (fun e => by cases e), fun B' e => by cases e; exact ⟨hne, hS'⟩⟩, .inl rfl, hu.mono (fun k hk => .inl (.inr (by rw [hk])))⟩)
    clear hb hn hs hS hS' hu hs' ht hx hl
    go_enter Try.func9, Try.ntmps9
    go_wp2
    go_ret
    exact HE.out
  | none =>
    obtain rfl := hn rfl
    have hmk : (Instr.makeMap 24 none).run Try.prog w = .ok (.map (some w.heap.size)) (w.alloc (.map #[] 0)) := rfl
    have hS0 := SetIs.made w
    have hbn := nil_nil w
    obtain ⟨wm, hwm⟩ : ∃ wm, w.alloc (.map #[] 0) = wm := ⟨_, rfl⟩
    have hbm : Below w.heap.size w wm := by rw [← hwm]; exact below_alloc _ _
    rw [hwm] at hS0 hmk
    have hbx : Boxed wm b 26 (.map none) := (hbm.block b hb.lt).trans hb
    have m0 := hbx.cell
    have mz := hbx.frozen
    obtain ⟨q, hq⟩ : ∃ q, w.heap.size = q := ⟨_, rfl⟩
    rw [hq] at hS0 hmk
    have hbl : b < q := by rw [← hq]; exact hb.lt
    have hb2 := hbx.set (.map (some q))
    have hu2 : Upto (fun k => k = b) wm (wm.setCell ⟨b, 0, none⟩ (.map (some q))) := (Upto.refl (fun k => k = b) wm).setCell (p := ⟨b, 0, none⟩) (.inl rfl) _
    have hS1 := hS0.upto hu2 (by show ¬ q = b; omega)
    obtain ⟨ws, hws⟩ : ∃ ws, wm.setCell ⟨b, 0, none⟩ (.map (some q)) = ws := ⟨_, rfl⟩
    rw [hws] at hb2 hu2 hS1
    have hlook : (Instr.lookup 24 (.map (some q)) (.int .u64 x) false).run Try.prog ws = .ok (.bool false) ws := by
      have := hS1.look hx
      simpa using this
    obtain ⟨w', hrun, hS', hu, hs'⟩ := hS1.put (by simp) hx
    have s0 := hb2.cell
    have HE := Lib.hid (show TakePost b none [] x w (.returned (.bool true)) w' from ⟨by simp, q, ⟨(hu.block b hb2.lt (by show ¬ b = q; omega)).trans hb2, (fun e => by cases e), fun B' e => by cases e; exact ⟨by omega, hS'⟩⟩, .inr (by omega),
      ((below_upto (S := fun k => k = b ∨ none = some k) hbm).trans hu2 (fun k hk => .inl (.inl hk))).trans hu (fun k hk => .inr (by rw [hk, hq]; exact Nat.le_refl _))⟩)
    clear hb hn hs hS0 hS1 hS' hu hs' hx hl hbm hbx hb2 hu2 hq hwm
    go_enter Try.func9, Try.ntmps9
    go_wp2
    go_ret
    exact HE.out

set_option maxRecDepth 100000 in
theorem many_any (b : Nat) (M : Option Nat) (l : List Int) (w : World) (h : SeenAt w b M l) : Calls Try.prog 10 #[.pointer (some ⟨b, 0, none⟩)] w (fun en w' => en = .returned (.int .i64 l.length) ∧ w = w') := by
  obtain ⟨hb, hn, hs⟩ := h
  have c0 := hb.cell
  cases M with
  | some B =>
    obtain ⟨hne, D, ho, hsz, _⟩ := hs B rfl
    have Ho := Lib.hid ho
    obtain ⟨n, hnn⟩ : ∃ n, l.length = n := ⟨_, rfl⟩
    rw [hnn] at hsz Ho ⊢
    clear hs ho hb hn hnn
    go_enter Try.func10, Try.ntmps10
    go_wp2_with (at_len; refine wpList_len_own _ rfl _ 24 rfl 27 4 under24 _ B n D rfl Ho.out ?_; rw [hsz])
    go_ret
    exact ⟨rfl, rfl⟩
  | none =>
    obtain rfl := hn rfl
    clear hs hb hn
    go_enter Try.func10, Try.ntmps10
    go_wp2
    go_ret
    exact ⟨rfl, rfl⟩
end Go.Proofs.Ytocfklnoklmocaa
