/- Numbers to blocks, and notifications, as the world holds them; frames. No conditions. -/
import Derived.Test.YtfknkkcpieaikaaProg
import Derived.WalkKit
import Derived.Below
import Derived.RangeFuncBox
import Derived.Lib.Hide
import Derived.Maps.RangeWalk
import Derived.Maps.OwnSet
import Derived.Maps.OwnOps
import Derived.Maps.Views
import Derived.RangeFuncCalls
import Derived.Maps.AppendAt
namespace Go.Proofs.Ytfknkkcpieaikaa
open Go.RowKit Go.WideShapes Go.Maps Go.ChangeMaps Go.MapKept
set_option linter.unusedVariables false
set_option linter.unusedSimpArgs false
set_option maxRecDepth 100000

theorem below_alloc (w : World) (o : Obj) : Below w.heap.size w (w.alloc o) := (Below.refl _ _).alloc (Nat.le_refl _) o
theorem keep_cell {w w1 : World} (hb : Below w.heap.size w w1) {a : Addr} {v : Value} (h : w.cell? a = some v) : w1.cell? a = some v :=
  (hb.cell (World.block_lt_of_cell? w a h)).trans h
theorem bchain {B : Nat} {w wa wb : World} (h : Below B w wa) (hB : B ≤ wa.heap.size) (h2 : Below wa.heap.size wa wb) : Below B w wb := h.trans (h2.mono hB)
theorem new_cell (w : World) (cs : Array Value) (t : TypeId) (j : Nat) {v : Value} (h : cs[j]? = some v) : (w.alloc (.cells cs t)).cell? ⟨w.heap.size, j, none⟩ = some v := by
  unfold World.cell?
  simp only [World.alloc_heap_new]
  exact h

def Ret (v : Value) (w : World) (e : Ending) (w' : World) : Prop := e = .returned v ∧ Below w.heap.size w w'
theorem info_parts {P : Program} {t : TypeId} {z : Value} {s b : Nat} (h : (P.info? t).map (fun i => (i.zero, i.size, i.bytes)) = some (some z, s, b)) : ∃ i, P.info? t = some i ∧ i.zero = some z ∧ i.size = s ∧ i.bytes = b := by
  obtain ⟨i, hi, h⟩ := Option.map_eq_some_iff.1 h
  simp only [Prod.mk.injEq] at h
  exact ⟨i, hi, h.1, h.2.1, h.2.2⟩

/-- w' is w, but for the blocks of S, and new ones. -/
structure Upto (S : Nat → Prop) (w w' : World) : Prop where
  os : w'.os = w.os
  tape : w'.tape = w.tape
  output : w'.output = w.output
  size : w.heap.size ≤ w'.heap.size
  block : ∀ k, k < w.heap.size → ¬ S k → w'.heap[k]? = w.heap[k]?
section
variable {S T : Nat → Prop} {w w1 w' : World}
theorem Upto.refl (S : Nat → Prop) (w : World) : Upto S w w := ⟨rfl, rfl, rfl, Nat.le_refl _, fun _ _ _ => rfl⟩
theorem Upto.trans (h : Upto S w w1) (k : Upto T w1 w') (hT : ∀ k, T k → S k ∨ w.heap.size ≤ k) : Upto S w w' :=
  ⟨k.os.trans h.os, k.tape.trans h.tape, k.output.trans h.output, Nat.le_trans h.size k.size, fun i hi hs => (k.block i (Nat.lt_of_lt_of_le hi h.size) (fun ht => by rcases hT i ht with h' | h'; exact hs h'; omega)).trans (h.block i hi hs)⟩
theorem Upto.then (h : Upto S w w1) (k : Upto S w1 w') : Upto S w w' := h.trans k (fun _ h => .inl h)
theorem Upto.drew (h : Upto S w w') : Upto S w w'.drew := ⟨h.os, h.tape, h.output, h.size, h.block⟩
theorem Upto.below (h : Upto S w w1) (k : Below w1.heap.size w1 w') : Upto S w w' :=
  h.trans (T := fun _ => False) ⟨k.os, k.tape, k.output, k.size, fun i hi _ => k.block i hi⟩ (fun _ h => h.elim)
theorem Upto.alloc (h : Upto S w w') (o : Obj) : Upto S w (w'.alloc o) := h.below ((Below.refl _ _).alloc (Nat.le_refl _) o)
theorem Upto.setCell (h : Upto S w w') {p : Addr} (hp : S p.block ∨ w.heap.size ≤ p.block) (u : Value) : Upto S w (w'.setCell p u) :=
  h.trans (T := fun k => k = p.block) ⟨rfl, rfl, rfl, by simp [World.setCell], fun k _ hne => Below.heap_setCell _ _ _ _ hne⟩ (fun _ e => by subst e; exact hp)
theorem Upto.grown (h : Upto S w w1) {row : Option Nat} (hg : w1.grownBy w' row) (hr : ∀ k, row = some k → S k ∨ w.heap.size ≤ k) : Upto S w w' :=
  h.trans (T := fun k => some k = row) ⟨hg.os, hg.tape, hg.output, hg.size, fun k hk hne => hg.block k hk hne⟩ (fun k e => hr k e.symm)
theorem Upto.mono (h : Upto S w w') (hS : ∀ k, S k → T k ∨ w.heap.size ≤ k) : Upto T w w' :=
  (Upto.refl T w).trans h (fun k hk => hS k hk)
theorem Upto.toBelow (h : Upto S w w') {B : Nat} (hB : B ≤ w.heap.size) (hS : ∀ k, S k → B ≤ k) : Below B w w' :=
  ⟨h.os, h.tape, h.output, h.size, fun k hk => h.block k (by omega) (fun hs => by have := hS k hs; omega)⟩
theorem Upto.cell (h : Upto S w w') {p : Addr} {v : Value} (hs : ¬ S p.block) (hc : w.cell? p = some v) : w'.cell? p = some v :=
  (World.cell?_of_block (h.block p.block (World.block_lt_of_cell? w p hc) hs)).trans hc
end
theorem below_upto {S : Nat → Prop} {w w' : World} (h : Below w.heap.size w w') : Upto S w w' := (Upto.refl S w).below h
theorem upto_row {S : Nat → Prop} {w w' : World} {b : Nat} {e : TypeId} {size n : Nat} {v : Value} {xs : List Value} (h : w.ownsRow b e size v n xs) (hu : Upto S w w') (hS : ∀ k, S k → k < b) : w'.ownsRow b e size v n xs := by
  obtain ⟨h1, h2⟩ := h
  refine ⟨h1, ?_⟩
  rcases h2 with h2 | ⟨g, cap, cur, h3, h4, h5, h6⟩
  · exact .inl h2
  · exact .inr ⟨g, cap, cur, h3, h4, (hu.block g (Array.getElem?_eq_some_iff.1 h5).1 (fun hs => by have := hS g hs; omega)).trans h5, h6⟩

theorem under60 : Try.prog.underlying 60 = some (.map 23 64) := by kernel_rfl
theorem under23 : Try.prog.underlying 23 = some (.int .u64) := by kernel_rfl
theorem under3 : Try.prog.underlying 3 = some (.int .i64) := by kernel_rfl
theorem under4 : Try.prog.underlying 4 = some .bool := by kernel_rfl
theorem under30 : Try.prog.underlying 30 = some (.slice 23) := by kernel_rfl
theorem under33 : Try.prog.underlying 33 = some (.slice 37) := by kernel_rfl
theorem keyed23 : Keyed Try.prog 23 := int_keyed under23
theorem zero64 (w : World) : (zeroValue 64).run Try.prog w = .ok (.pointer none) w := by
  have h : (Try.prog.info? 64).map (·.zero) = some (some (.pointer none)) := by kernel_rfl
  cases hi : Try.prog.info? 64 with
  | none => simp [hi] at h
  | some i =>
    simp [hi] at h
    simp [zeroValue, typeInfo, Sem.run, hi, h]
theorem info23 : (Try.prog.info? 23).map (fun i => (i.zero, i.size, i.bytes)) = some (some (.int .u64 0), 1, 8) := by kernel_rfl
theorem info3 : (Try.prog.info? 3).map (fun i => (i.zero, i.size, i.bytes)) = some (some (.int .i64 0), 1, 8) := by kernel_rfl
def keyN (n : Int) : Lit := .int .u64 n
theorem keyN_ne {s t : Int} (h : s ≠ t) : keyN s ≠ keyN t := by
  intro h'
  unfold keyN at h'
  injection h' with _ h'
  exact h h'
theorem isKeyN (n : Int) : WideAt.IsKeyLit (keyN n) := by unfold keyN; simp [WideAt.IsKeyLit]
def U64 (x : Int) : Prop := (Lit.int .u64 x).wf = true
theorem keyOf_n {x : Int} (h : U64 x) : keyOf Try.prog 23 (.int .u64 x) = some (keyN x) := by
  unfold U64 at h
  simp [keyOf, under23, mapKey, keyN, h]
theorem tight {H : Type} {P : Program} {k : TypeId} {R : Value → Option (DataW H × List MemPlace)} {w : World} {b n K : Nat} {D : DataW H} (h : w.ownsMap P k R b n D) (hs : Maps.size D ≤ K) : w.ownsMap P k R b K D := by
  obtain ⟨es, clock, hb, F, _, rfl⟩ := h
  have e1 : Maps.size (DataW.map ((es.toList.map (Go.WideElems.rg P k R)).foldr DataW.insert [])) = es.size := by simp [Maps.size, length_sorted]
  exact ⟨es, clock, hb, F, by omega, rfl⟩

/-- A pointer to block c; nil: none. -/
def ptr : Option Nat → Value
  | none => .pointer none
  | some b => .pointer (some ⟨b, 0, none⟩)
def ptrD : Option Nat → DataW Unit
  | none => .lit (.bool false)
  | some b => .lit (.int .i64 b)
/-- How such a pointer reads: by its block. -/
def ptrElem (v : Value) : Option (DataW Unit × List MemPlace) :=
  match v with
  | .pointer none => some (.lit (.bool false), [])
  | .pointer (some a) => if a.off = 0 ∧ a.spot = none then some (.lit (.int .i64 a.block), []) else none
  | _ => none
theorem ptrElem_mk (c : Option Nat) : ptrElem (ptr c) = some (ptrD c, []) := by cases c <;> simp [ptrElem, ptr, ptrD]
theorem ptrElem_inv {v : Value} {z : DataW Unit × List MemPlace} (h : ptrElem v = some z) : ∃ c, v = ptr c ∧ z = (ptrD c, []) := by
  unfold ptrElem at h
  split at h
  · cases h; exact ⟨none, rfl, rfl⟩
  · rename_i a
    split at h
    · rename_i ha
      obtain ⟨b, o, s⟩ := a
      obtain ⟨h1, h2⟩ := ha
      simp only at h1 h2
      subst h1 h2
      cases h
      exact ⟨some b, rfl, rfl⟩
    · cases h
  · cases h
theorem ptrD_inj {c d : Option Nat} (h : ptrD c = ptrD d) : c = d := by
  cases c <;> cases d <;> simp [ptrD] at h ⊢
  omega

/-- Block B is a map of numbers to blocks, of at most K entries: what it holds. -/
def MapIs (w : World) (B K : Nat) (f : Int → Option Nat) : Prop :=
  ∃ D : DataW Unit, w.ownsMap Try.prog 23 ptrElem B K D ∧ Maps.size D = K ∧ (∀ k, Maps.has D (keyN k) = (f k).isSome) ∧ ∀ k c z, f k = some c → D.atKey (keyN k) z = ptrD (some c)
def upd (f : Int → Option Nat) (x : Int) (c : Nat) : Int → Option Nat := fun y => if y = x then some c else f y
def del (f : Int → Option Nat) (x : Int) : Int → Option Nat := fun y => if y = x then none else f y
section
variable {w w' : World} {B K : Nat} {f : Int → Option Nat}
theorem MapIs.made (w : World) : MapIs (w.alloc (.map #[] 0)) w.heap.size 0 (fun _ => none) := ⟨.map [], World.ownsMap_made w _ _ _, rfl, fun s => rfl, fun k c z h => by cases h⟩
theorem MapIs.lt (h : MapIs w B K f) : B < w.heap.size := by
  obtain ⟨D, ho, _⟩ := h
  exact ho.lt
theorem MapIs.upto {S : Nat → Prop} (h : MapIs w B K f) (hu : Upto S w w') (hS : ¬ S B) : MapIs w' B K f := by
  have hl := h.lt
  obtain ⟨D, ⟨es, clock, hh, F, hs, hD⟩, h1⟩ := h
  exact ⟨D, ⟨es, clock, (hu.block B hl hS).trans hh, F, hs, hD⟩, h1⟩
theorem MapIs.below (h : MapIs w B K f) (hb : Below w.heap.size w w') : MapIs w' B K f := h.upto (below_upto (S := fun _ => False) hb) (fun h => h)
theorem at_f {D : DataW Unit} {f : Int → Option Nat} (h1 : ∀ k, Maps.has D (keyN k) = (f k).isSome) (h2 : ∀ k c z, f k = some c → D.atKey (keyN k) z = ptrD (some c)) (k : Int) : D.atKey (keyN k) (ptrD none) = ptrD (f k) := by
  cases hf : f k with
  | none => exact atKey_of_not_has (by rw [h1, hf]; rfl) _
  | some c => exact h2 k c _ hf
theorem MapIs.look (h : MapIs w B K f) {x : Int} (hx : U64 x) : (Instr.lookup 60 (.map (some B)) (.int .u64 x) false).run Try.prog w = .ok (ptr (f x)) w := by
  obtain ⟨D, ho, hsz, h1, h2⟩ := h
  obtain ⟨v, ps, hrun, hv⟩ := ho.lookup keyed23 under60 (zero64 w) (ptrElem_mk none) (keyOf_n hx)
  rw [at_f h1 h2] at hv
  obtain ⟨c, rfl, e⟩ := ptrElem_inv hv
  injection e with e _
  rw [hrun, ptrD_inj e]
theorem has_put {D : DataW Unit} {f : Int → Option Nat} (ho : IsMap D) (h1 : ∀ k, Maps.has D (keyN k) = (f k).isSome) (x : Int) (c : Nat) (d : DataW Unit) (k : Int) : Maps.has (D.put (keyN x) d) (keyN k) = (upd f x c k).isSome := by
  unfold upd
  by_cases e : k = x
  · subst e
    rw [has_put_same ho (isKeyN _)]
    simp
  · rw [has_put_other (keyN_ne e), h1, if_neg e]
theorem at_put {D : DataW Unit} {f : Int → Option Nat} (ho : IsMap D) (h2 : ∀ k c z, f k = some c → D.atKey (keyN k) z = ptrD (some c)) (x : Int) (c : Nat) (k : Int) (b : Nat) (z : DataW Unit) (h : upd f x c k = some b) : (D.put (keyN x) (ptrD (some c))).atKey (keyN k) z = ptrD (some b) := by
  unfold upd at h
  by_cases e : k = x
  · subst e
    rw [if_pos rfl] at h
    cases h
    exact atKey_put_same ho (isKeyN _) _ _
  · rw [if_neg e] at h
    rw [atKey_put_other (keyN_ne e)]
    exact h2 k b z h
theorem MapIs.put (h : MapIs w B K f) (hK : K < 1000000) {x : Int} {c : Nat} (hx : U64 x) :
    ∃ w', (Instr.mapUpdate 60 (.map (some B)) (.int .u64 x) (.pointer (some ⟨c, 0, none⟩))).run Try.prog w = .ok () w' ∧ MapIs w' B (if (f x).isSome then K else K + 1) (upd f x c) ∧ Upto (fun k => k = B) w w' ∧ w'.heap.size = w.heap.size := by
  obtain ⟨D, ho, hsz, h1, h2⟩ := h
  obtain ⟨w', hrun, ho', hm⟩ := ho.store keyed23 under60 (by unfold maxLen; omega) (keyOf_n hx) (ptrElem_mk (some c))
  refine ⟨w', hrun, ⟨_, ?_, ?_, has_put ho.isMap h1 x c _, fun k b z hb => at_put ho.isMap h2 x c k b z hb⟩, (Upto.refl _ w).grown hm.grown (fun k e => by cases e; exact .inl rfl), ?_⟩
  · refine tight ho' ?_
    rw [size_put (ho.tidy keyed23), h1, hsz]
    exact Nat.le_refl _
  · rw [size_put (ho.tidy keyed23), h1, hsz]
  · obtain ⟨_, _, _, _, _, rfl⟩ := hm
    simp [setBlock]
theorem hde {D : DataW Unit} (ho : w.ownsMap Try.prog 23 ptrElem B K D) (hsz : Maps.size D = K) (h1 : ∀ k, Maps.has D (keyN k) = (f k).isSome) {x : Int} : Maps.size (D.del (keyN x)) = (if (f x).isSome then K - 1 else K) := by
  have := size_del (ho.tidy keyed23) (k := keyN x)
  rw [h1, hsz] at this
  split <;> simp_all <;> omega
theorem MapIs.len (h : MapIs w B K f) (ty : TypeId) : (Builtin.len_ #[60] ty #[.map (some B)]).run Try.prog w = .ok (.int .i64 K) w := by
  obtain ⟨D, ho, hsz, _⟩ := h
  rw [ho.len under60, hsz]
theorem MapIs.drop (h : MapIs w B K f) {x : Int} (hx : U64 x) (ty : TypeId) :
    ∃ w', (Builtin.delete_ #[60, 23] ty #[.map (some B), .int .u64 x]).run Try.prog w = .ok (.tuple #[]) w' ∧ MapIs w' B (if (f x).isSome then K - 1 else K) (del f x) ∧ Upto (fun k => k = B) w w' ∧ w'.heap.size = w.heap.size := by
  obtain ⟨D, ho, hsz, h1, h2⟩ := h
  obtain ⟨w', hrun, ho', hm⟩ := ho.drop keyed23 under60 (keyOf_n hx) ty
  refine ⟨w', hrun, ⟨_, tight ho' (Nat.le_of_eq (hde ho hsz h1)), hde ho hsz h1, fun k => ?_, fun k b z hb => ?_⟩, (Upto.refl _ w).grown hm.grown (fun k e => by cases e; exact .inl rfl), ?_⟩
  · unfold del
    by_cases e : k = x
    · subst e
      rw [has_del_same]; simp
    · rw [has_del_other (keyN_ne e), h1, if_neg e]
  · unfold del at hb
    by_cases e : k = x
    · rw [if_pos e] at hb; cases hb
    · rw [if_neg e] at hb
      rw [atKey_del_other (keyN_ne e)]
      exact h2 k b z hb
  · obtain ⟨_, _, _, _, _, rfl⟩ := hm
    simp [setBlock]
end

/-! ### A notification, a table -/
structure Ent where
  id : Int
  task : Int
  st : Int
  left : Int
  kind : Int
  val : Int
def Ent.cells (x : Ent) : Array Value := #[.int .u64 x.id, .int .i64 x.task, .int .i64 x.st, .int .i64 x.left, .int .i64 x.kind, .int .i64 x.val]
def EntAt (w : World) (p : Nat) (x : Ent) : Prop := w.heap[p]? = some (.cells x.cells 37 (0, 0))
section
variable {w w' : World} {p : Nat} {x : Ent}
theorem EntAt.lt (h : EntAt w p x) : p < w.heap.size := (Array.getElem?_eq_some_iff.1 h).1
theorem EntAt.c0 (h : EntAt w p x) : w.cell? ⟨p, 0, none⟩ = some (.int .u64 x.id) := by unfold World.cell?; rw [h]; rfl
theorem EntAt.c1 (h : EntAt w p x) : w.cell? ⟨p, 1, none⟩ = some (.int .i64 x.task) := by unfold World.cell?; rw [h]; rfl
theorem EntAt.c2 (h : EntAt w p x) : w.cell? ⟨p, 2, none⟩ = some (.int .i64 x.st) := by unfold World.cell?; rw [h]; rfl
theorem EntAt.c3 (h : EntAt w p x) : w.cell? ⟨p, 3, none⟩ = some (.int .i64 x.left) := by unfold World.cell?; rw [h]; rfl
theorem EntAt.c4 (h : EntAt w p x) : w.cell? ⟨p, 4, none⟩ = some (.int .i64 x.kind) := by unfold World.cell?; rw [h]; rfl
theorem EntAt.c5 (h : EntAt w p x) : w.cell? ⟨p, 5, none⟩ = some (.int .i64 x.val) := by unfold World.cell?; rw [h]; rfl
theorem EntAt.fz (h : EntAt w p x) (o : Nat) : w.frozen? ⟨p, o, none⟩ = false := by unfold EntAt at h; simp [World.frozen?, h]
theorem EntAt.upto {S : Nat → Prop} (h : EntAt w p x) (hu : Upto S w w') (hS : ¬ S p) : EntAt w' p x := (hu.block p h.lt hS).trans h
theorem EntAt.below (h : EntAt w p x) (hb : Below w.heap.size w w') : EntAt w' p x := (hb.block p h.lt).trans h
end
/-- A list of numbers, as a slice. -/
def NumsAt (w : World) (v : Value) (xs : List Int) : Prop :=
  ∃ A c, v = .slice A xs.length c ∧ (0 < xs.length → ∃ g o, A = some ⟨g, o, none⟩ ∧ ∀ (j : Nat) x, xs[j]? = some x → w.cell? ⟨g, o + j, none⟩ = some (.int .u64 x))
theorem NumsAt.below {w w1 : World} {v : Value} {xs : List Int} (h : NumsAt w v xs) (hb : Below w.heap.size w w1) : NumsAt w1 v xs := by
  obtain ⟨A, c, rfl, h⟩ := h
  refine ⟨A, c, rfl, fun h0 => ?_⟩
  obtain ⟨g, o, rfl, hc⟩ := h h0
  exact ⟨g, o, rfl, fun j x hx => keep_cell hb (hc j x hx)⟩
end Go.Proofs.Ytfknkkcpieaikaa
