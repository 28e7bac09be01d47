/- Memory, by footprints: a world that is another one but for some blocks and new ones; frames, rows and the link that holds them. No program in sight. -/
import Derived.WalkKit
import Derived.Deep.Draws
import Derived.Maps.AppendAt
import Derived.Deep.AppendLies
namespace Go.Proofs.Ytomhnabgdbpoiaa
open Go.RowKit

/-- w' is w, but for the blocks of S, and new ones. -/
structure Upto (S : Nat → Prop) (w w' : World) : Prop where
  os : w'.os = w.os
  tape : w'.tape = w.tape
  output : w'.output = w.output
  size : w.heap.size ≤ w'.heap.size
  block : ∀ k, k < w.heap.size → ¬ S k → w'.heap[k]? = w.heap[k]?

section
variable {S T : Nat → Prop} {w w1 w' : World}
theorem Upto.refl (S : Nat → Prop) (w : World) : Upto S w w := ⟨rfl, rfl, rfl, Nat.le_refl _, fun _ _ _ => rfl⟩
theorem Upto.trans (h : Upto S w w1) (k : Upto T w1 w') (hT : ∀ k, T k → S k ∨ w.heap.size ≤ k) : Upto S w w' :=
  ⟨k.os.trans h.os, k.tape.trans h.tape, k.output.trans h.output, Nat.le_trans h.size k.size, fun i hi hs => (k.block i (Nat.lt_of_lt_of_le hi h.size) (fun ht => by rcases hT i ht with h' | h'; exact hs h'; omega)).trans (h.block i hi hs)⟩
theorem Upto.drew (h : Upto S w w') : Upto S w w'.drew := ⟨h.os, h.tape, h.output, h.size, h.block⟩
theorem Upto.drewN (h : Upto S w w') (n : Nat) : Upto S w (w'.drewN n) := ⟨h.os, h.tape, h.output, h.size, h.block⟩
theorem Upto.below (h : Upto S w w1) (k : Below w1.heap.size w1 w') : Upto S w w' :=
  h.trans (T := fun _ => False) ⟨k.os, k.tape, k.output, k.size, fun i hi _ => k.block i hi⟩ (fun _ h => h.elim)
theorem Upto.alloc (h : Upto S w w') (o : Obj) : Upto S w (w'.alloc o) := h.below ((Below.refl _ _).alloc (Nat.le_refl _) o)
theorem Upto.setCell (h : Upto S w w') {p : Addr} (hp : S p.block ∨ w.heap.size ≤ p.block) (u : Value) : Upto S w (w'.setCell p u) :=
  h.trans (T := fun k => k = p.block) ⟨rfl, rfl, rfl, by simp [World.setCell], fun k _ hne => Below.heap_setCell _ _ _ _ hne⟩ (fun _ e => by subst e; exact hp)
theorem Upto.grown (h : Upto S w w1) {row : Option Nat} (hg : w1.grownBy w' row) (hr : ∀ k, row = some k → S k ∨ w.heap.size ≤ k) : Upto S w w' :=
  h.trans (T := fun k => some k = row) ⟨hg.os, hg.tape, hg.output, hg.size, fun k hk hne => hg.block k hk hne⟩ (fun k e => hr k e.symm)
theorem Upto.mono (h : Upto S w w') (hS : ∀ k, S k → T k ∨ w.heap.size ≤ k) : Upto T w w' :=
  (Upto.refl T w).trans h (fun k hk => hS k hk)
theorem Upto.toBelow (h : Upto S w w') {B : Nat} (hB : B ≤ w.heap.size) (hS : ∀ k, S k → B ≤ k) : Below B w w' :=
  ⟨h.os, h.tape, h.output, h.size, fun k hk => h.block k (by omega) (fun hs => by have := hS k hs; omega)⟩
theorem Upto.cell (h : Upto S w w') {p : Addr} {v : Value} (hs : ¬ S p.block) (hc : w.cell? p = some v) : w'.cell? p = some v :=
  (World.cell?_of_block (h.block p.block (World.block_lt_of_cell? w p hc) hs)).trans hc
theorem Upto.blk (h : Upto S w w') {b : Nat} {o : Obj} (hs : ¬ S b) (hb : w.heap[b]? = some o) : w'.heap[b]? = some o := (h.block b (lt_of_block hb) hs).trans hb
theorem Upto.owns (h : Upto S w w') {base : Nat} {e : TypeId} {size : Nat} {v : Value} {n : Nat} {xs : List Value} (ho : w.ownsRow base e size v n xs) (hs : ∀ k, v.ownBlock = some k → ¬ S k) : w'.ownsRow base e size v n xs := by
  refine ⟨ho.1, ?_⟩
  rcases ho.2 with h2 | ⟨g, cap, cur, rfl, hb, hg, hr⟩
  · exact .inl h2
  · exact .inr ⟨g, cap, cur, rfl, hb, h.blk (hs g rfl) hg, hr⟩
end

/-- A frame: a slice at the head of block g. -/
def Frm (w : World) (v : Value) (g : Nat) (bs : List Int) : Prop := w.ownsRow 0 5 1 v bs.length (bs.map (Value.int .u8)) ∧ v.ownBlock = some g

/-- Frames, one by one. -/
def Frms (w : World) : List Value → List Nat → List (List Int) → Prop
  | [], [], [] => True
  | v :: vs, g :: gs, b :: bs => (Frm w v g b ∧ 0 < b.length ∧ b.length ≤ 1024) ∧ Frms w vs gs bs
  | _, _, _ => False

section
variable {w w' : World} {S : Nat → Prop}
theorem Frm.upto (h : Upto S w w') {v : Value} {g : Nat} {bs : List Int} (hf : Frm w v g bs) (hs : ¬ S g) : Frm w' v g bs :=
  ⟨h.owns hf.1 (fun k hk => by rw [hf.2] at hk; cases hk; exact hs), hf.2⟩
theorem Frms.upto (h : Upto S w w') : ∀ {vs : List Value} {gs : List Nat} {fs : List (List Int)}, Frms w vs gs fs → (∀ g ∈ gs, ¬ S g) → Frms w' vs gs fs
  | [], [], [], _, _ => trivial
  | _ :: _, _ :: _, _ :: _, ⟨⟨h1, h2⟩, h3⟩, hs => ⟨⟨h1.upto h (hs _ (List.mem_cons_self ..)), h2⟩, h3.upto h (fun g hg => hs g (List.mem_cons_of_mem _ hg))⟩
  | [], [], _ :: _, h, _ => h.elim
  | [], _ :: _, _, h, _ => h.elim
  | _ :: _, [], _, h, _ => h.elim
  | _ :: _, _ :: _, [], h, _ => h.elim
theorem Frms.lens : ∀ {vs : List Value} {gs : List Nat} {fs : List (List Int)}, Frms w vs gs fs → vs.length = fs.length ∧ gs.length = fs.length
  | [], [], [], _ => ⟨rfl, rfl⟩
  | _ :: _, _ :: _, _ :: _, ⟨_, h3⟩ => ⟨by simp [h3.lens.1], by simp [h3.lens.2]⟩
  | [], [], _ :: _, h => h.elim
  | [], _ :: _, _, h => h.elim
  | _ :: _, [], _, h => h.elim
  | _ :: _, _ :: _, [], h => h.elim
theorem Frms.append : ∀ {vs vs' : List Value} {gs gs' : List Nat} {fs fs' : List (List Int)}, Frms w vs gs fs → Frms w vs' gs' fs' → Frms w (vs ++ vs') (gs ++ gs') (fs ++ fs')
  | [], _, [], _, [], _, _, h => h
  | _ :: _, _, _ :: _, _, _ :: _, _, ⟨h1, h3⟩, h => ⟨h1, h3.append h⟩
  | [], _, [], _, _ :: _, _, h, _ => h.elim
  | [], _, _ :: _, _, _, _, h, _ => h.elim
  | _ :: _, _, [], _, _, _, h, _ => h.elim
  | _ :: _, _, _ :: _, _, [], _, h, _ => h.elim
theorem Frms.at_ : ∀ {vs : List Value} {gs : List Nat} {fs : List (List Int)}, Frms w vs gs fs → ∀ i, i < fs.length → ∃ v g b, vs[i]? = some v ∧ gs[i]? = some g ∧ fs[i]? = some b ∧ Frm w v g b ∧ 0 < b.length ∧ b.length ≤ 1024
  | _ :: _, _ :: _, _ :: _, ⟨h1, _⟩, 0, _ => ⟨_, _, _, rfl, rfl, rfl, h1.1, h1.2⟩
  | _ :: _, _ :: _, _ :: _, ⟨_, h3⟩, i + 1, hi => by
    obtain ⟨v, g, b, h1, h2, h3', h4⟩ := h3.at_ i (by simpa using hi)
    exact ⟨v, g, b, by simpa using h1, by simpa using h2, by simpa using h3', h4⟩
  | [], [], [], _, _, hi => by simp at hi
  | [], [], _ :: _, h, _, _ => h.elim
  | [], _ :: _, _, h, _, _ => h.elim
  | _ :: _, [], _, h, _, _ => h.elim
  | _ :: _, _ :: _, [], h, _, _ => h.elim
theorem Frms.take_ : ∀ {vs : List Value} {gs : List Nat} {fs : List (List Int)}, Frms w vs gs fs → ∀ i, Frms w (vs.take i) (gs.take i) (fs.take i)
  | _, _, _, _, 0 => by simp [Frms]
  | [], [], [], _, _ + 1 => by simp [Frms]
  | _ :: _, _ :: _, _ :: _, ⟨h1, h3⟩, i + 1 => ⟨h1, h3.take_ i⟩
  | [], [], _ :: _, h, _ + 1 => h.elim
  | [], _ :: _, _, h, _ + 1 => h.elim
  | _ :: _, [], _, h, _ + 1 => h.elim
  | _ :: _, _ :: _, [], h, _ + 1 => h.elim
theorem Frms.drop_ : ∀ {vs : List Value} {gs : List Nat} {fs : List (List Int)}, Frms w vs gs fs → ∀ i, Frms w (vs.drop i) (gs.drop i) (fs.drop i)
  | _, _, _, h, 0 => by simpa using h
  | [], [], [], _, _ + 1 => by simp [Frms]
  | _ :: _, _ :: _, _ :: _, ⟨_, h3⟩, i + 1 => by simpa using h3.drop_ i
  | [], [], _ :: _, h, _ + 1 => h.elim
  | [], _ :: _, _, h, _ + 1 => h.elim
  | _ :: _, [], _, h, _ + 1 => h.elim
  | _ :: _, _ :: _, [], h, _ + 1 => h.elim
end

/-- A slice of bytes that can be read. -/
def BytesIn (w : World) (v : Value) (bs : List Int) : Prop :=
  ∃ A c, v = .slice A bs.length c ∧ (0 < bs.length → ∃ ad, A = some ad ∧ ∀ (j : Nat) u, (bs.map (Value.int .u8))[j]? = some u → w.cell? (ad.add j) = some u)

theorem own_block_type {w : World} {base : Nat} {e : TypeId} {size : Nat} {v : Value} {n : Nat} {xs : List Value} (h : w.ownsRow base e size v n xs) {k : Nat} (hk : v.ownBlock = some k) : ∃ cs, w.heap[k]? = some (.cells cs e (0, 0)) := by
  rcases h.2 with ⟨rfl, _⟩ | ⟨g, cap, cur, rfl, _, hg, _⟩
  · simp [Value.ownBlock] at hk
  · simp [Value.ownBlock] at hk
    subst hk
    exact ⟨cur, hg⟩

theorem Frms.block {w : World} : ∀ {vs : List Value} {gs : List Nat} {fs : List (List Int)}, Frms w vs gs fs → ∀ g ∈ gs, ∃ cs, w.heap[g]? = some (.cells cs 5 (0, 0))
  | [], [], [], _, g, hg => by simp at hg
  | _ :: _, _ :: _, _ :: _, ⟨h1, h3⟩, g, hg => by
    rcases List.mem_cons.1 hg with rfl | hg
    · exact own_block_type h1.1.1 h1.1.2
    · exact h3.block g hg
  | [], [], _ :: _, h, _, _ => h.elim
  | [], _ :: _, _, h, _, _ => h.elim
  | _ :: _, [], _, h, _, _ => h.elim
  | _ :: _, _ :: _, [], h, _, _ => h.elim


theorem cells_ne {w : World} {a b : Nat} {cs cs' : Array Value} {t t' : TypeId} (h : w.heap[a]? = some (.cells cs t (0, 0))) (h' : w.heap[b]? = some (.cells cs' t' (0, 0))) (hne : t ≠ t') : a ≠ b := by
  rintro rfl
  rw [h] at h'
  injection h' with h'
  injection h' with _ ht
  exact hne ht
theorem frozen_of_row {w : World} {g i : Nat} {cs : Array Value} {t : TypeId} (h : w.heap[g]? = some (.cells cs t (0, 0))) : w.frozen? ⟨g, i, none⟩ = false := by simp [World.frozen?, h]
theorem owns_form {w : World} {base : Nat} {e : TypeId} {size : Nat} {v : Value} {n : Nat} {xs : List Value} (h : w.ownsRow base e size v n xs) : ∃ A c, v = .slice A n c := by
  rcases h.2 with ⟨rfl, rfl⟩ | ⟨g, cap, cur, rfl, _⟩
  · exact ⟨_, _, rfl⟩
  · exact ⟨_, _, rfl⟩

/-- The rows' frames: those to the supervisor (true), those back (false). -/
abbrev St := Bool → List (List Int)
def upd {α : Type} (s : Bool → α) (up : Bool) (r : α) : Bool → α := fun b => if b = up then r else s b
theorem upd_same {α : Type} (s : Bool → α) (up : Bool) (r : α) : upd s up r up = r := by simp [upd]
theorem upd_other {α : Type} (s : Bool → α) (up : Bool) (r : α) {b : Bool} (h : b ≠ up) : upd s up r b = s b := by simp [upd, h]

/-- What is known of a link's memory, its parts named. -/
structure Parts (w : World) (g : Nat) (s : St) (F : Nat → Prop) (v : Bool → Value) (us : Bool → List Value) (gs : Bool → List Nat) : Prop where
  blk : w.heap[g]? = some (.cells #[v true, v false] 28 (0, 0))
  owns : ∀ b, w.ownsRow 0 30 1 (v b) (us b).length (us b)
  frms : ∀ b, Frms w (us b) (gs b) (s b)
  nodup : ∀ b, (gs b).Nodup
  few : ∀ b, (s b).length ≤ 64
  rowF : ∀ b k, (v b).ownBlock = some k → F k
  frmF : ∀ b, ∀ k ∈ gs b, F k
  rows : ∀ b k, (v b).ownBlock = some k → (v (!b)).ownBlock ≠ some k
  apart : ∀ b, ∀ k ∈ gs b, k ∉ gs (!b)
  self : F g

/-- The link at block g holds these rows; F: all of its blocks, and perhaps others. -/
def LinkAt (w : World) (g : Nat) (s : St) (F : Nat → Prop) : Prop := ∃ v us gs, Parts w g s F v us gs

/-- How the link goes on: the blocks of D are no longer its own. -/
def LinkPost (w : World) (g : Nat) (F D : Nat → Prop) (s : St) (w' : World) : Prop :=
  ∃ F' : Nat → Prop, LinkAt w' g s F' ∧ Upto F w w' ∧ ∀ k, F' k → (F k ∧ ¬ D k) ∨ (w.heap.size ≤ k ∧ k < w'.heap.size)
def Nought : Nat → Prop := fun _ => False
theorem LinkAt.stays {w : World} {g : Nat} {s : St} {F : Nat → Prop} (h : LinkAt w g s F) : LinkPost w g F Nought s w := ⟨F, h, Upto.refl _ _, fun _ hk => .inl ⟨hk, fun h => h⟩⟩

section
variable {w w' : World} {g : Nat} {s : St} {F : Nat → Prop} {v : Bool → Value} {us : Bool → List Value} {gs : Bool → List Nat}
theorem Parts.len (h : Parts w g s F v us gs) (b : Bool) : (us b).length = (s b).length := (h.frms b).lens.1
theorem Parts.row_ne_g (h : Parts w g s F v us gs) (b : Bool) {k : Nat} (hk : (v b).ownBlock = some k) : k ≠ g := by
  obtain ⟨cs, hc⟩ := own_block_type (h.owns b) hk
  exact cells_ne hc h.blk (by decide)
theorem Parts.frm_ne_g (h : Parts w g s F v us gs) (b : Bool) {k : Nat} (hk : k ∈ gs b) : k ≠ g := by
  obtain ⟨cs, hc⟩ := (h.frms b).block k hk
  exact cells_ne hc h.blk (by decide)
theorem Parts.frm_ne_row (h : Parts w g s F v us gs) (b b' : Bool) {k k' : Nat} (hk : k ∈ gs b) (hk' : (v b').ownBlock = some k') : k ≠ k' := by
  obtain ⟨cs, hc⟩ := (h.frms b).block k hk
  obtain ⟨cs', hc'⟩ := own_block_type (h.owns b') hk'
  exact cells_ne hc hc' (by decide)
theorem Parts.cell (h : Parts w g s F v us gs) (b : Bool) : w.cell? ⟨g, if b then 0 else 1, none⟩ = some (v b) := by
  rw [cell_of_row w g _ _ _ _ h.blk]
  cases b <;> rfl

/-- One row is turned into another one: how the link goes on. -/
theorem Parts.update (D : Nat → Prop) (h : Parts w g s F v us gs) (up : Bool) (v' : Value) (us' : List Value) (gs' : List Nat) (r' : List (List Int))
    (hU : Upto (fun k => k = g ∨ (v up).ownBlock = some k) w w') (hb : w'.heap[g]? = some (.cells #[upd v up v' true, upd v up v' false] 28 (0, 0)))
    (ho : w'.ownsRow 0 30 1 v' us'.length us') (hf : Frms w' us' gs' r') (hn : gs'.Nodup) (hl : r'.length ≤ 64)
    (hv : ∀ k, v'.ownBlock = some k → (v up).ownBlock = some k ∨ (w.heap.size ≤ k ∧ k < w'.heap.size)) (hg : ∀ k ∈ gs', k ∈ gs up ∨ (w.heap.size ≤ k ∧ k < w'.heap.size))
    (hD : ∀ k, D k → k ∈ gs up ∧ k ∉ gs') : LinkPost w g F D (upd s up r') w' := by
  have hlt : ∀ b, ∀ k ∈ gs b, k < w.heap.size := fun b k hk => by
    obtain ⟨cs, hc⟩ := (h.frms b).block k hk
    exact lt_of_block hc
  have hltv : ∀ b k, (v b).ownBlock = some k → k < w.heap.size := fun b k hk => by
    obtain ⟨cs, hc⟩ := own_block_type (h.owns b) hk
    exact lt_of_block hc
  have dg : ¬ D g := fun hd => h.frm_ne_g up (hD g hd).1 rfl
  have dv : ∀ b k, (v b).ownBlock = some k → ¬ D k := fun b k hk hd => h.frm_ne_row up b (hD k hd).1 hk rfl
  have df : ∀ k ∈ gs (!up), ¬ D k := fun k hk hd => h.apart up k (hD k hd).1 hk
  refine ⟨fun k => (F k ∧ ¬ D k) ∨ (w.heap.size ≤ k ∧ k < w'.heap.size), ⟨upd v up v', upd us up us', upd gs up gs', ?_⟩, ?_, fun k hk => hk⟩
  · refine ⟨hb, fun b => ?_, fun b => ?_, fun b => ?_, fun b => ?_, fun b k hk => ?_, fun b k hk => ?_, fun b k hk => ?_, fun b k hk => ?_, .inl ⟨h.self, dg⟩⟩
    · by_cases hb' : b = up
      · subst hb'; rw [upd_same, upd_same]; exact ho
      · rw [upd_other _ _ _ hb', upd_other _ _ _ hb']
        refine hU.owns (h.owns b) (fun k hk hs => ?_)
        rcases hs with hs | hs
        · exact h.row_ne_g b hk hs
        · have : (!b) = up := by cases b <;> cases up <;> simp_all
          exact h.rows b k hk (this ▸ hs)
    · by_cases hb' : b = up
      · subst hb'; rw [upd_same, upd_same, upd_same]; exact hf
      · rw [upd_other _ _ _ hb', upd_other _ _ _ hb', upd_other _ _ _ hb']
        refine (h.frms b).upto hU (fun k hk hs => ?_)
        rcases hs with hs | hs
        · exact h.frm_ne_g b hk hs
        · exact h.frm_ne_row b up hk hs rfl
    · by_cases hb' : b = up
      · subst hb'; rw [upd_same]; exact hn
      · rw [upd_other _ _ _ hb']; exact h.nodup b
    · by_cases hb' : b = up
      · subst hb'; rw [upd_same]; exact hl
      · rw [upd_other _ _ _ hb']; exact h.few b
    · by_cases hb' : b = up
      · subst hb'; rw [upd_same] at hk
        exact (hv k hk).imp (fun h' => ⟨h.rowF b k h', dv b k h'⟩) id
      · rw [upd_other _ _ _ hb'] at hk; exact .inl ⟨h.rowF b k hk, dv b k hk⟩
    · by_cases hb' : b = up
      · subst hb'; rw [upd_same] at hk
        exact (hg k hk).imp (fun h' => ⟨h.frmF b k h', fun hd => (hD k hd).2 hk⟩) id
      · rw [upd_other _ _ _ hb'] at hk
        have hup : (!up) = b := by cases b <;> cases up <;> simp_all
        exact .inl ⟨h.frmF b k hk, df k (by rw [hup]; exact hk)⟩
    · by_cases hb' : b = up
      · subst hb'
        rw [upd_same] at hk
        rw [upd_other _ _ _ (by cases b <;> simp)]
        rcases hv k hk with h' | h'
        · exact h.rows b k h'
        · intro e; have := hltv _ k e; omega
      · have hup : (!b) = up := by cases b <;> cases up <;> simp_all
        rw [upd_other _ _ _ hb'] at hk
        rw [hup, upd_same]
        intro e
        rcases hv k e with h' | h'
        · exact h.rows b k hk (hup ▸ h')
        · have := hltv _ k hk; omega
    · by_cases hb' : b = up
      · subst hb'
        rw [upd_same] at hk
        rw [upd_other _ _ _ (by cases b <;> simp)]
        rcases hg k hk with h' | h'
        · exact h.apart b k h'
        · intro e; have := hlt _ k e; omega
      · have hup : (!b) = up := by cases b <;> cases up <;> simp_all
        rw [upd_other _ _ _ hb'] at hk
        rw [hup, upd_same]
        intro e
        rcases hg k e with h' | h'
        · exact h.apart b k hk (hup ▸ h')
        · have := hlt _ k hk; omega
  · refine hU.mono (fun k hk => .inl ?_)
    rcases hk with rfl | hk
    · exact h.self
    · exact h.rowF up k hk

theorem Parts.keep {S : Nat → Prop} (h : Parts w g s F v us gs) (hU : Upto S w w') (hS : ∀ k, F k → ¬ S k) : Parts w' g s F v us gs :=
  ⟨hU.blk (hS g h.self) h.blk, fun b => hU.owns (h.owns b) (fun k hk => hS k (h.rowF b k hk)), fun b => (h.frms b).upto hU (fun k hk => hS k (h.frmF b k hk)), h.nodup, h.few, h.rowF, h.frmF, h.rows, h.apart, h.self⟩
theorem LinkAt.keep {S : Nat → Prop} (h : LinkAt w g s F) (hU : Upto S w w') (hS : ∀ k, F k → ¬ S k) : LinkAt w' g s F := by
  obtain ⟨v, us, gs, hP⟩ := h
  exact ⟨v, us, gs, hP.keep hU hS⟩
theorem LinkPost.from_ {D : Nat → Prop} {w1 : World} (h : LinkPost w1 g F D s w') (hU : Upto (fun _ => False) w w1) : LinkPost w g F D s w' := by
  obtain ⟨F', hL, hU', hF⟩ := h
  refine ⟨F', hL, (hU.mono (fun _ h => h.elim)).trans hU' (fun k hk => .inl hk), fun k hk => (hF k hk).imp id (fun h => ⟨Nat.le_trans hU.size h.1, h.2⟩)⟩
theorem LinkPost.weaken {D : Nat → Prop} (h : LinkPost w g F D s w') : LinkPost w g F Nought s w' := by
  obtain ⟨F', hL, hU', hF⟩ := h
  exact ⟨F', hL, hU', fun k hk => (hF k hk).imp (fun h => ⟨h.1, fun h => h⟩) id⟩

theorem cells_set {w : World} {g i : Nat} {cs : Array Value} {t : TypeId} (h : w.heap[g]? = some (.cells cs t (0, 0))) (u : Value) : (w.setCell ⟨g, i, none⟩ u).heap[g]? = some (.cells (cs.setIfInBounds i u) t (0, 0)) := by
  simp [World.setCell, Array.getElem?_modify, h]

theorem Parts.set (v : Bool → Value) (up : Bool) (v' : Value) : (#[v true, v false] : Array Value).setIfInBounds (if up then 0 else 1) v' = #[upd v up v' true, upd v up v' false] := by
  cases up <;> rfl
end

end Go.Proofs.Ytomhnabgdbpoiaa
