/- Timers, and what was seen, as the world holds them; frames. No conditions. -/
import Derived.Test.YtocfklnoklmocaaProg
import Derived.WalkKit
import Derived.Below
import Derived.RangeFuncBox
import Derived.Lib.Hide
import Derived.Maps.RangeWalk
import Derived.Maps.OwnSet
import Derived.Maps.OwnOps
import Derived.Maps.Views
import Derived.RangeFuncCalls
import Derived.Maps.AppendAt
namespace Go.Proofs.Ytocfklnoklmocaa
open Go.RowKit Go.WideShapes Go.Maps Go.ChangeMaps Go.MapKept
set_option linter.unusedVariables false
set_option linter.unusedSimpArgs false
set_option maxRecDepth 100000

theorem below_alloc (w : World) (o : Obj) : Below w.heap.size w (w.alloc o) := (Below.refl _ _).alloc (Nat.le_refl _) o
theorem keep_cell {w w1 : World} (hb : Below w.heap.size w w1) {a : Addr} {v : Value} (h : w.cell? a = some v) : w1.cell? a = some v :=
  (hb.cell (World.block_lt_of_cell? w a h)).trans h
theorem bchain {B : Nat} {w wa wb : World} (h : Below B w wa) (hB : B ≤ wa.heap.size) (h2 : Below wa.heap.size wa wb) : Below B w wb := h.trans (h2.mono hB)
theorem new_cell (w : World) (cs : Array Value) (t : TypeId) (j : Nat) {v : Value} (h : cs[j]? = some v) : (w.alloc (.cells cs t)).cell? ⟨w.heap.size, j, none⟩ = some v := by
  unfold World.cell?
  simp only [World.alloc_heap_new]
  exact h

def Ret (v : Value) (w : World) (e : Ending) (w' : World) : Prop := e = .returned v ∧ Below w.heap.size w w'
theorem info_parts {P : Program} {t : TypeId} {z : Value} {s b : Nat} (h : (P.info? t).map (fun i => (i.zero, i.size, i.bytes)) = some (some z, s, b)) : ∃ i, P.info? t = some i ∧ i.zero = some z ∧ i.size = s ∧ i.bytes = b := by
  obtain ⟨i, hi, h⟩ := Option.map_eq_some_iff.1 h
  simp only [Prod.mk.injEq] at h
  exact ⟨i, hi, h.1, h.2.1, h.2.2⟩

/-- w' is w, but for the blocks of S, and new ones. -/
structure Upto (S : Nat → Prop) (w w' : World) : Prop where
  os : w'.os = w.os
  tape : w'.tape = w.tape
  output : w'.output = w.output
  size : w.heap.size ≤ w'.heap.size
  block : ∀ k, k < w.heap.size → ¬ S k → w'.heap[k]? = w.heap[k]?
section
variable {S T : Nat → Prop} {w w1 w' : World}
theorem Upto.refl (S : Nat → Prop) (w : World) : Upto S w w := ⟨rfl, rfl, rfl, Nat.le_refl _, fun _ _ _ => rfl⟩
theorem Upto.trans (h : Upto S w w1) (k : Upto T w1 w') (hT : ∀ k, T k → S k ∨ w.heap.size ≤ k) : Upto S w w' :=
  ⟨k.os.trans h.os, k.tape.trans h.tape, k.output.trans h.output, Nat.le_trans h.size k.size, fun i hi hs => (k.block i (Nat.lt_of_lt_of_le hi h.size) (fun ht => by rcases hT i ht with h' | h'; exact hs h'; omega)).trans (h.block i hi hs)⟩
theorem Upto.then (h : Upto S w w1) (k : Upto S w1 w') : Upto S w w' := h.trans k (fun _ h => .inl h)
theorem Upto.drew (h : Upto S w w') : Upto S w w'.drew := ⟨h.os, h.tape, h.output, h.size, h.block⟩
theorem Upto.below (h : Upto S w w1) (k : Below w1.heap.size w1 w') : Upto S w w' :=
  h.trans (T := fun _ => False) ⟨k.os, k.tape, k.output, k.size, fun i hi _ => k.block i hi⟩ (fun _ h => h.elim)
theorem Upto.alloc (h : Upto S w w') (o : Obj) : Upto S w (w'.alloc o) := h.below ((Below.refl _ _).alloc (Nat.le_refl _) o)
theorem Upto.setCell (h : Upto S w w') {p : Addr} (hp : S p.block ∨ w.heap.size ≤ p.block) (u : Value) : Upto S w (w'.setCell p u) :=
  h.trans (T := fun k => k = p.block) ⟨rfl, rfl, rfl, by simp [World.setCell], fun k _ hne => Below.heap_setCell _ _ _ _ hne⟩ (fun _ e => by subst e; exact hp)
theorem Upto.grown (h : Upto S w w1) {row : Option Nat} (hg : w1.grownBy w' row) (hr : ∀ k, row = some k → S k ∨ w.heap.size ≤ k) : Upto S w w' :=
  h.trans (T := fun k => some k = row) ⟨hg.os, hg.tape, hg.output, hg.size, fun k hk hne => hg.block k hk hne⟩ (fun k e => hr k e.symm)
theorem Upto.mono (h : Upto S w w') (hS : ∀ k, S k → T k ∨ w.heap.size ≤ k) : Upto T w w' :=
  (Upto.refl T w).trans h (fun k hk => hS k hk)
theorem Upto.toBelow (h : Upto S w w') {B : Nat} (hB : B ≤ w.heap.size) (hS : ∀ k, S k → B ≤ k) : Below B w w' :=
  ⟨h.os, h.tape, h.output, h.size, fun k hk => h.block k (by omega) (fun hs => by have := hS k hs; omega)⟩
theorem Upto.cell (h : Upto S w w') {p : Addr} {v : Value} (hs : ¬ S p.block) (hc : w.cell? p = some v) : w'.cell? p = some v :=
  (World.cell?_of_block (h.block p.block (World.block_lt_of_cell? w p hc) hs)).trans hc
end
theorem below_upto {S : Nat → Prop} {w w' : World} (h : Below w.heap.size w w') : Upto S w w' := (Upto.refl S w).below h
theorem upto_row {S : Nat → Prop} {w w' : World} {b : Nat} {e : TypeId} {size n : Nat} {v : Value} {xs : List Value} (h : w.ownsRow b e size v n xs) (hu : Upto S w w') (hS : ∀ k, S k → k < b) : w'.ownsRow b e size v n xs := by
  obtain ⟨h1, h2⟩ := h
  refine ⟨h1, ?_⟩
  rcases h2 with h2 | ⟨g, cap, cur, h3, h4, h5, h6⟩
  · exact .inl h2
  · exact .inr ⟨g, cap, cur, h3, h4, (hu.block g (Array.getElem?_eq_some_iff.1 h5).1 (fun hs => by have := hS g hs; omega)).trans h5, h6⟩

theorem under53 : Try.prog.underlying 53 = some (.map 27 3) := by kernel_rfl
theorem under24 : Try.prog.underlying 24 = some (.map 27 4) := by kernel_rfl
theorem under27 : Try.prog.underlying 27 = some (.int .u64) := by kernel_rfl
theorem under3 : Try.prog.underlying 3 = some (.int .i64) := by kernel_rfl
theorem under4 : Try.prog.underlying 4 = some .bool := by kernel_rfl
theorem under22 : Try.prog.underlying 22 = some (.slice 27) := by kernel_rfl
theorem under46 : Try.prog.underlying 46 = some (.slice 3) := by kernel_rfl
theorem keyed27 : Keyed Try.prog 27 := int_keyed under27
theorem zero3 (w : World) : (zeroValue 3).run Try.prog w = .ok (.int .i64 0) w := by
  have h : (Try.prog.info? 3).map (·.zero) = some (some (.int .i64 0)) := by kernel_rfl
  cases hi : Try.prog.info? 3 with
  | none => simp [hi] at h
  | some i =>
    simp [hi] at h
    simp [zeroValue, typeInfo, Sem.run, hi, h]
theorem zero4 (w : World) : (zeroValue 4).run Try.prog w = .ok (.bool false) w := by
  have h : (Try.prog.info? 4).map (·.zero) = some (some (.bool false)) := by kernel_rfl
  cases hi : Try.prog.info? 4 with
  | none => simp [hi] at h
  | some i =>
    simp [hi] at h
    simp [zeroValue, typeInfo, Sem.run, hi, h]
theorem info27 : (Try.prog.info? 27).map (fun i => (i.zero, i.size, i.bytes)) = some (some (.int .u64 0), 1, 8) := by kernel_rfl
theorem info3 : (Try.prog.info? 3).map (fun i => (i.zero, i.size, i.bytes)) = some (some (.int .i64 0), 1, 8) := by kernel_rfl
def keyN (n : Int) : Lit := .int .u64 n
theorem keyN_ne {s t : Int} (h : s ≠ t) : keyN s ≠ keyN t := by
  intro h'
  unfold keyN at h'
  injection h' with _ h'
  exact h h'
theorem isKeyN (n : Int) : WideAt.IsKeyLit (keyN n) := by unfold keyN; simp [WideAt.IsKeyLit]
def U64 (x : Int) : Prop := (Lit.int .u64 x).wf = true
theorem keyOf_n {x : Int} (h : U64 x) : keyOf Try.prog 27 (.int .u64 x) = some (keyN x) := by
  unfold U64 at h
  simp [keyOf, under27, mapKey, keyN, h]
theorem tight {H : Type} {P : Program} {k : TypeId} {R : Value → Option (DataW H × List MemPlace)} {w : World} {b n K : Nat} {D : DataW H} (h : w.ownsMap P k R b n D) (hs : Maps.size D ≤ K) : w.ownsMap P k R b K D := by
  obtain ⟨es, clock, hb, F, _, rfl⟩ := h
  have e1 : Maps.size (DataW.map ((es.toList.map (Go.WideElems.rg P k R)).foldr DataW.insert [])) = es.size := by simp [Maps.size, length_sorted]
  exact ⟨es, clock, hb, F, by omega, rfl⟩

/-- Block B is a map of numbers to numbers, of at most K entries: what it holds. -/
def MapIs (w : World) (B K : Nat) (f : Int → Option Int) : Prop :=
  ∃ D : DataW Unit, w.ownsMap Try.prog 27 (plainElem Try.prog 3) B K D ∧ (∀ k, Maps.has D (keyN k) = (f k).isSome) ∧ ∀ k c z, f k = some c → D.atKey (keyN k) z = .lit (.int .i64 c)
def upd (f : Int → Option Int) (x c : Int) : Int → Option Int := fun y => if y = x then some c else f y
def del (f : Int → Option Int) (x : Int) : Int → Option Int := fun y => if y = x then none else f y
def getI (o : Option Int) : Int := match o with | some c => c | none => 0
section
variable {w w' : World} {B K : Nat} {f : Int → Option Int}
theorem MapIs.made (w : World) : MapIs (w.alloc (.map #[] 0)) w.heap.size 0 (fun _ => none) := ⟨.map [], World.ownsMap_made w _ _ _, fun s => rfl, fun k c z h => by cases h⟩
theorem MapIs.lt (h : MapIs w B K f) : B < w.heap.size := by
  obtain ⟨D, ho, _⟩ := h
  exact ho.lt
theorem MapIs.upto {S : Nat → Prop} (h : MapIs w B K f) (hu : Upto S w w') (hS : ¬ S B) : MapIs w' B K f := by
  have hl := h.lt
  obtain ⟨D, ⟨es, clock, hh, F, hs, hD⟩, h1⟩ := h
  exact ⟨D, ⟨es, clock, (hu.block B hl hS).trans hh, F, hs, hD⟩, h1⟩
theorem MapIs.below (h : MapIs w B K f) (hb : Below w.heap.size w w') : MapIs w' B K f := h.upto (below_upto (S := fun _ => False) hb) (fun h => h)
theorem MapIs.mono (h : MapIs w B K f) {K' : Nat} (hK : K ≤ K') : MapIs w B K' f := by
  obtain ⟨D, ho, h1⟩ := h
  exact ⟨D, ho.mono hK, h1⟩
theorem at_f {D : DataW Unit} {f : Int → Option Int} (h1 : ∀ k, Maps.has D (keyN k) = (f k).isSome) (h2 : ∀ k c z, f k = some c → D.atKey (keyN k) z = .lit (.int .i64 c)) (k : Int) : D.atKey (keyN k) (.lit (.int .i64 0)) = .lit (.int .i64 (getI (f k))) := by
  cases hf : f k with
  | none => exact atKey_of_not_has (by rw [h1, hf]; rfl) _
  | some c => exact h2 k c _ hf
theorem MapIs.look (h : MapIs w B K f) {x : Int} (hx : U64 x) : (Instr.lookup 53 (.map (some B)) (.int .u64 x) false).run Try.prog w = .ok (.int .i64 (getI (f x))) w := by
  obtain ⟨D, ho, h1, h2⟩ := h
  obtain ⟨c, hrun, hat, _⟩ := ho.lookup_int keyed27 under53 under3 (zero3 w) (keyOf_n hx)
  rw [at_f h1 h2] at hat
  injection hat with hat
  injection hat with _ hat
  rw [hrun, hat]
theorem MapIs.look_ok (h : MapIs w B K f) {x : Int} (hx : U64 x) : (Instr.lookup 53 (.map (some B)) (.int .u64 x) true).run Try.prog w = .ok (.tuple #[.int .i64 (getI (f x)), .bool (f x).isSome]) w := by
  obtain ⟨D, ho, h1, h2⟩ := h
  obtain ⟨v, ps, hrun, hv⟩ := ho.look_ok keyed27 under53 (zero3 w) (plainElem_int under3 (by decide)) (keyOf_n hx)
  rw [at_f h1 h2] at hv
  obtain ⟨c, rfl, e, _⟩ := plainElem_int_inv under3 hv
  injection e with e _
  injection e with e
  injection e with _ e
  rw [hrun, h1, e]
theorem has_put {D : DataW Unit} {f : Int → Option Int} (ho : IsMap D) (h1 : ∀ k, Maps.has D (keyN k) = (f k).isSome) (x c : Int) (d : DataW Unit) (k : Int) : Maps.has (D.put (keyN x) d) (keyN k) = (upd f x c k).isSome := by
  unfold upd
  by_cases e : k = x
  · subst e
    rw [has_put_same ho (isKeyN _)]
    simp
  · rw [has_put_other (keyN_ne e), h1, if_neg e]
theorem at_put {D : DataW Unit} {f : Int → Option Int} (ho : IsMap D) (h2 : ∀ k c z, f k = some c → D.atKey (keyN k) z = .lit (.int .i64 c)) (x c : Int) (k b : Int) (z : DataW Unit) (h : upd f x c k = some b) : (D.put (keyN x) (.lit (.int .i64 c))).atKey (keyN k) z = .lit (.int .i64 b) := by
  unfold upd at h
  by_cases e : k = x
  · subst e
    rw [if_pos rfl] at h
    cases h
    exact atKey_put_same ho (isKeyN _) _ _
  · rw [if_neg e] at h
    rw [atKey_put_other (keyN_ne e)]
    exact h2 k b z h
theorem MapIs.put (h : MapIs w B K f) (hK : K < 1000000) {x c : Int} (hx : U64 x) (hc : (Lit.int .i64 c).wf = true) :
    ∃ w', (Instr.mapUpdate 53 (.map (some B)) (.int .u64 x) (.int .i64 c)).run Try.prog w = .ok () w' ∧ MapIs w' B (if (f x).isSome then K else K + 1) (upd f x c) ∧ Upto (fun k => k = B) w w' ∧ w'.heap.size = w.heap.size := by
  obtain ⟨D, ho, h1, h2⟩ := h
  obtain ⟨w', hrun, ho', hm⟩ := ho.store keyed27 under53 (by unfold maxLen; omega) (keyOf_n hx) (plainElem_int under3 hc)
  refine ⟨w', hrun, ⟨_, ?_, has_put ho.isMap h1 x c _, fun k b z hb => at_put ho.isMap h2 x c k b z hb⟩, (Upto.refl _ w).grown hm.grown (fun k e => by cases e; exact .inl rfl), ?_⟩
  · refine tight ho' ?_
    rw [size_put (ho.tidy keyed27), h1]
    have := ho.size_le
    split <;> omega
  · obtain ⟨_, _, _, _, _, rfl⟩ := hm
    simp [setBlock]
theorem MapIs.drop (h : MapIs w B K f) {x : Int} (hx : U64 x) (ty : TypeId) :
    ∃ w', (Builtin.delete_ #[53, 27] ty #[.map (some B), .int .u64 x]).run Try.prog w = .ok (.tuple #[]) w' ∧ MapIs w' B K (del f x) ∧ Upto (fun k => k = B) w w' ∧ w'.heap.size = w.heap.size := by
  obtain ⟨D, ho, h1, h2⟩ := h
  obtain ⟨w', hrun, ho', hm⟩ := ho.drop keyed27 under53 (keyOf_n hx) ty
  refine ⟨w', hrun, ⟨_, ho', fun k => ?_, fun k b z hb => ?_⟩, (Upto.refl _ w).grown hm.grown (fun k e => by cases e; exact .inl rfl), ?_⟩
  · unfold del
    by_cases e : k = x
    · subst e
      rw [has_del_same]; simp
    · rw [has_del_other (keyN_ne e), h1, if_neg e]
  · unfold del at hb
    by_cases e : k = x
    · rw [if_pos e] at hb; cases hb
    · rw [if_neg e] at hb
      rw [atKey_del_other (keyN_ne e)]
      exact h2 k b z hb
  · obtain ⟨_, _, _, _, _, rfl⟩ := hm
    simp [setBlock]
end

/-- The timers at block b, with the map B. -/
def TimAt (w : World) (b B K : Nat) (e : Int) (f : Int → Option Int) : Prop :=
  w.cell? ⟨b, 0, none⟩ = some (.int .i64 e) ∧ w.cell? ⟨b, 1, none⟩ = some (.map (some B)) ∧ b ≠ B ∧ MapIs w B K f
section
variable {w w' : World} {b B K : Nat} {e : Int} {f : Int → Option Int}
theorem TimAt.upto {S : Nat → Prop} (h : TimAt w b B K e f) (hu : Upto S w w') (h1 : ¬ S b) (h2 : ¬ S B) : TimAt w' b B K e f :=
  ⟨hu.cell h1 h.1, hu.cell h1 h.2.1, h.2.2.1, h.2.2.2.upto hu h2⟩
theorem TimAt.below (h : TimAt w b B K e f) (hb : Below w.heap.size w w') : TimAt w' b B K e f := h.upto (below_upto (S := fun _ => False) hb) (fun h => h) (fun h => h)
theorem TimAt.lt (h : TimAt w b B K e f) : b < w.heap.size ∧ B < w.heap.size := ⟨World.block_lt_of_cell? _ _ h.1, h.2.2.2.lt⟩
theorem TimAt.turn {g : Int → Option Int} {K' : Nat} (h : TimAt w b B K e f) (hu : Upto (fun k => k = B) w w') (hm : MapIs w' B K' g) : TimAt w' b B K' e g :=
  ⟨hu.cell h.2.2.1 h.1, hu.cell h.2.2.1 h.2.1, h.2.2.1, hm⟩
end
/-- A list of numbers, as a slice. -/
def NumsAt (w : World) (v : Value) (xs : List Int) : Prop :=
  ∃ A c, v = .slice A xs.length c ∧ (0 < xs.length → ∃ g o, A = some ⟨g, o, none⟩ ∧ ∀ (j : Nat) x, xs[j]? = some x → w.cell? ⟨g, o + j, none⟩ = some (.int .u64 x))
theorem NumsAt.below {w w1 : World} {v : Value} {xs : List Int} (h : NumsAt w v xs) (hb : Below w.heap.size w w1) : NumsAt w1 v xs := by
  obtain ⟨A, c, rfl, h⟩ := h
  refine ⟨A, c, rfl, fun h0 => ?_⟩
  obtain ⟨g, o, rfl, hc⟩ := h h0
  exact ⟨g, o, rfl, fun j x hx => keep_cell hb (hc j x hx)⟩
end Go.Proofs.Ytocfklnoklmocaa
