/- of: a task's notification. Condition: the table can be read. -/
import Derived.Test.YtfknkkcpieaikaaTab
namespace Go.Proofs.Ytfknkkcpieaikaa
open Go.RowKit Go.Maps
set_option linter.unusedVariables false
set_option linter.unusedSimpArgs false

theorem wpList_next_ptr {ops : Array Oper} {rest : List Oper} {o : Oper} {a : Act} {Q : Exit → Act → World → Prop} (w : World) (hg : o.guard = none) (it : Operand) (hop : o.op = Op.next it false) (b r n : Nat) (D : DataW Unit) (left : Lit → Bool) (cnt : Nat)
    (hit : a.eval it = .pointer (some ⟨r, 0, none⟩)) (h : w.ranges Try.prog 23 ptrElem b r n D left cnt)
    (hDone : cnt = 0 → (∀ kl, left kl = false) → wpList Try.prog ops Q rest (a.put o.dst (.tuple #[.bool false])) w)
    (hMore : ∀ (x : Int) (c : Option Nat) (w' : World) (cnt' : Nat), U64 x → left (keyN x) = true → (∀ zd, D.atKey (keyN x) zd = ptrD c) → w'.ranges Try.prog 23 ptrElem b r n D (fun z => left z && !z.sameKey (keyN x)) cnt' → cnt' < cnt → w.grownBy w' (some r) → w'.heap.size = w.heap.size →
      (Instr.entry (.pointer (some ⟨r, 0, none⟩))).run Try.prog w' = .ok (.tuple #[.int .u64 x, ptr c]) w' → wpList Try.prog ops Q rest (a.put o.dst (.tuple #[.bool true, .int .u64 x, ptr c])) w') : wpList Try.prog ops Q (o :: rest) a w :=
  wpList_next_ranges w hg it hop 23 keyed23 ptrElem (Value.int .u64) ptr (fun key kl hkey => by obtain ⟨x, rfl, _⟩ := Maps.keyOf_int_inv under23 hkey; exact ⟨x, rfl⟩) (fun v y hv => by obtain ⟨c, rfl, _⟩ := ptrElem_inv hv; exact ⟨c, rfl⟩)
    b r n D left cnt hit h hDone (fun x c kl y w' cnt' hkey hlk hv hat hrg hlt hgr hsz hen => by
      obtain ⟨x', ex, rfl, hwx⟩ := Maps.keyOf_int_inv under23 hkey
      cases ex
      rw [ptrElem_mk] at hv
      cases hv
      exact hMore x c w' cnt' hwx hlk hat hrg hlt hgr hsz hen)
/-- What an entry of the table's map is. -/
theorem entry_is {D : DataW Unit} {P : Int → Nat} {L : List Ent} (h1 : ∀ k, Maps.has D (keyN k) = (ptrF P L k).isSome) (h2 : ∀ k c z, ptrF P L k = some c → D.atKey (keyN k) z = ptrD (some c)) {x : Int} {c : Option Nat} (hx : U64 x) (hat : ∀ zd, D.atKey (keyN x) zd = ptrD c) : ∃ y ∈ L, y.id = x ∧ c = some (P y.id) := by
  have hh : Maps.has D (keyN x) = true := by
    cases hb : Maps.has D (keyN x) with
    | true => rfl
    | false =>
      have e1 := hat (.lit (.bool true))
      have e2 := hat (.lit (.bool false))
      rw [atKey_of_not_has hb] at e1 e2
      rw [← e2] at e1
      cases e1
  rw [h1] at hh
  unfold ptrF at hh
  cases hg : getL L x with
  | none => rw [hg] at hh; simp at hh
  | some y =>
    obtain ⟨hy, hid⟩ := getL_mem hg
    refine ⟨y, hy, hid, ?_⟩
    have := h2 x (P y.id) (.lit (.bool false)) (by unfold ptrF; rw [hg]; rfl)
    rw [hat] at this
    exact ptrD_inj this
def ofL (L : List Ent) (n : Int) : Option Ent := L.find? (fun x => x.task == n)
theorem ofL_mem {L : List Ent} {n : Int} {x : Ent} (h : ofL L n = some x) : x ∈ L ∧ x.task = n := by
  unfold ofL at h
  exact ⟨List.mem_of_find?_eq_some h, by simpa using List.find?_some h⟩
theorem ofL_of {L : List Ent} (hr : L.Pairwise (fun x y => x.task ≠ y.task)) {x : Ent} (hx : x ∈ L) : ofL L x.task = some x := by
  unfold ofL
  induction L with
  | nil => simp at hx
  | cons a r ih =>
    rw [List.pairwise_cons] at hr
    rw [List.find?_cons]
    rcases List.mem_cons.1 hx with rfl | hx
    · simp
    · have := hr.1 x hx
      rw [show (a.task == x.task) = false by simpa using this]
      exact ih hr.2 hx
theorem ofL_none {L : List Ent} {n : Int} (h : ∀ x ∈ L, x.task ≠ n) : ofL L n = none := by
  unfold ofL
  rw [List.find?_eq_none]
  intro x hx
  simpa using h x hx
def Past (L : List Ent) (n : Int) (left : Lit → Bool) : Prop := ∀ x ∈ L, left (keyN x.id) = false → x.task ≠ n
theorem Past.take {L : List Ent} {n : Int} {left : Lit → Bool} (h : Past L n left) {y : Ent} (hn : y.task ≠ n) (hu : ∀ x ∈ L, x.id = y.id → x = y) : Past L n (fun z => left z && !z.sameKey (keyN y.id)) := by
  intro x hx hl
  by_cases e : x.id = y.id
  · rw [hu x hx e]; exact hn
  · refine h x hx ?_
    have := sameKey_ne (keyN_ne e)
    simpa [this] using hl
theorem ids_same {L : List Ent} (hr : L.Pairwise (fun x y => x.id < y.id)) {x y : Ent} (hx : x ∈ L) (hy : y ∈ L) (e : x.id = y.id) : x = y := by
  have h1 := getL_of hr hx
  rw [e, getL_of hr hy] at h1
  exact (Option.some.inj h1).symm

set_option maxRecDepth 100000 in
theorem of_any (b B : Nat) (P : Int → Nat) (T : Tb) (n : Int) (w : World) (h : TabAt w b B P T) : Calls Try.prog 25 #[.pointer (some ⟨b, 0, none⟩), .int .i64 n] w (fun e w' => e = .returned (ptr ((ofL T.L n).map (fun x => P x.id))) ∧ Below w.heap.size w w') := by
  have H := Lib.hid h
  obtain ⟨D, hown, _, hhas, hat0⟩ := h.m
  have c4 := h.q.c4
  have Hown := Lib.hid hown
  have Hhas := Lib.hid hhas
  have Hat0 := Lib.hid hat0
  have Hst : Hid (Past T.L n (Maps.has D)) := Lib.hid (fun x hx hl => by
    rw [hhas] at hl
    unfold ptrF at hl
    rw [getL_of h.f.rise hx] at hl
    simp at hl)
  clear h hown hhas hat0
  go_enter Try.func25, Try.ntmps25
  go_wp2_with (at_range; refine wpList_range_own _ rfl _ 60 rfl 23 64 keyed23 under60 _ B T.L.length D rfl Hown.out ?_; intro w0 hrg0 hg0 hs0)
  go_frame
  go_loopw [6] (fun _ wx => ∃ (left : Lit → Bool) (cnt : Nat), wx.ranges Try.prog 23 ptrElem B w.heap.size T.L.length D left cnt ∧ Past T.L n left ∧ Below w.heap.size w wx) (fun _ wx => wx.rangeLeft B w.heap.size)
  case atStart => exact ⟨_, _, hrg0, Hst.out, ⟨hg0.os, hg0.tape, hg0.output, hg0.size, fun k hk => hg0.block k hk (by simp)⟩⟩
  case round =>
    obtain ⟨left, cnt, hrg, hC, hnx⟩ := hrel
    have HC := Lib.hid hC
    clear hC hrg0 hg0 hs0
    go_wp2_with (at_next; refine wpList_next_ptr _ rfl _ rfl B w.heap.size T.L.length _ _ _ rfl hrg ?_ ?_)
    · intro hc0 hl0
      have HNo := Lib.hid (ofL_none (L := T.L) (n := n) (fun x hx => HC.out x hx (hl0 _)))
      go_wp2
      go_ret
      exact ⟨by rw [HNo.out]; rfl, hnx⟩
    · intro x c w2 cnt2 hwx hlk hat hrg2 hlt2 hg2 hs2 hen
      obtain ⟨y, hy, rfl, rfl⟩ := entry_is Hhas.out Hat0.out hwx hat
      have hb2 : Below w.heap.size w w2 := hnx.grown hg2 hnx.size (fun j hj => by cases hj; exact Nat.le_refl _)
      have hE := (H.out.e y hy).below hb2
      have d1 := hE.c1
      obtain ⟨p, hp⟩ : ∃ p, P y.id = p := ⟨_, rfl⟩
      rw [hp] at d1 hen ⊢
      simp only [ptr] at hen ⊢
      have Hy := Lib.hid hy
      have Hp := Lib.hid hp
      have Hb2 := Lib.hid hb2
      obtain ⟨tk, htk⟩ : ∃ t, y.task = t := ⟨_, rfl⟩
      rw [htk] at d1
      have Htk := Lib.hid htk
      clear hy hE hp hb2 hat hlk hwx hs2 hnx htk hg2
      by_cases hn : tk = n
      · subst hn
        have hof := ofL_of H.out.f.tasks Hy.out
        rw [Htk.out] at hof
        have HOf := Lib.hid hof
        clear hof
        go_wp2
        go_ret
        exact ⟨by rw [HOf.out, Option.map_some, Hp.out]; rfl, Hb2.out⟩
      · have hnE : (tk == n) = false := by simpa using hn
        have Hn : Hid (y.task ≠ n) := Lib.hid (by rw [Htk.out]; exact hn)
        clear hn
        go_wp2
        go_roundw
        case rel => exact ⟨_, cnt2, hrg2, HC.out.take Hn.out (fun x hx e => ids_same H.out.f.rise hx Hy.out e), Hb2.out⟩
        case measure => rw [hrg2.left_eq, hrg.left_eq]; exact hlt2
end Go.Proofs.Ytfknkkcpieaikaa
