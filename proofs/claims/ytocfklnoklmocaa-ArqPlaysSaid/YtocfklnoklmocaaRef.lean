/- The document's timers, as the world holds them; New, Stop, Set. Conditions: they can be read; they are no more than a million. -/
import Derived.Test.YtocfklnoklmocaaSrc
import Derived.Deep.RegionHeld3
namespace Go.Proofs.Ytocfklnoklmocaa
open Go.RowKit
set_option linter.unusedVariables false
set_option linter.unusedSimpArgs false

theorem under48s : True := trivial
def U (l : List Int) : List Value := l.map (Value.int .u64)
def I (l : List Int) : List Value := l.map (Value.int .i64)
/-- A block of three cells that are a Timers. -/
def Trio (w : World) (b : Nat) (v0 v1 v2 : Value) : Prop := w.heap[b]? = some (.cells #[v0, v1, v2] 48 (0, 0))
section
variable {w w' : World} {b : Nat} {v0 v1 v2 : Value}
theorem Trio.new (w : World) (v0 v1 v2 : Value) : Trio (w.alloc (.cells #[v0, v1, v2] 48)) w.heap.size v0 v1 v2 := World.alloc_heap_new w _
theorem Trio.lt (h : Trio w b v0 v1 v2) : b < w.heap.size := (Array.getElem?_eq_some_iff.1 h).1
theorem Trio.c0 (h : Trio w b v0 v1 v2) : w.cell? ⟨b, 0, none⟩ = some v0 := by unfold World.cell?; rw [h]; rfl
theorem Trio.c1 (h : Trio w b v0 v1 v2) : w.cell? ⟨b, 1, none⟩ = some v1 := by unfold World.cell?; rw [h]; rfl
theorem Trio.c2 (h : Trio w b v0 v1 v2) : w.cell? ⟨b, 2, none⟩ = some v2 := by unfold World.cell?; rw [h]; rfl
theorem Trio.fz (h : Trio w b v0 v1 v2) (o : Nat) : w.frozen? ⟨b, o, none⟩ = false := by unfold Trio at h; simp [World.frozen?, h]
theorem Trio.upto {S : Nat → Prop} (h : Trio w b v0 v1 v2) (hu : Upto S w w') (hS : ¬ S b) : Trio w' b v0 v1 v2 := (hu.block b h.lt hS).trans h
theorem Trio.below (h : Trio w b v0 v1 v2) (hb : Below w.heap.size w w') : Trio w' b v0 v1 v2 := (hb.block b h.lt).trans h
theorem Trio.set1 (h : Trio w b v0 v1 v2) (u : Value) : Trio (w.setCell ⟨b, 1, none⟩ u) b v0 u v2 := by
  unfold Trio World.setCell at *
  obtain ⟨hl, he⟩ := Array.getElem?_eq_some_iff.1 h
  simp [Array.getElem?_modify, h]
theorem Trio.set2 (h : Trio w b v0 v1 v2) (u : Value) : Trio (w.setCell ⟨b, 2, none⟩ u) b v0 v1 u := by
  unfold Trio World.setCell at *
  simp [Array.getElem?_modify, h]
end
def Apart (v u : Value) : Prop := ∀ k, v.ownBlock = some k → u.ownBlock = some k → False
theorem own_lt {w : World} {b : Nat} {e : TypeId} {size n : Nat} {v : Value} {xs : List Value} (h : w.ownsRow b e size v n xs) {k : Nat} (hk : v.ownBlock = some k) : k < w.heap.size ∧ b ≤ k := by
  obtain ⟨h1, h2⟩ := h
  rcases h2 with ⟨rfl, _⟩ | ⟨g, cap, cur, rfl, h3, h4, _⟩
  · simp [Value.ownBlock] at hk
  · simp [Value.ownBlock] at hk
    subst hk
    exact ⟨(Array.getElem?_eq_some_iff.1 h4).1, h3⟩
theorem own_kept {S : Nat → Prop} {w w' : World} {b : Nat} {e : TypeId} {size n : Nat} {v : Value} {xs : List Value} (h : w.ownsRow b e size v n xs) (hu : Upto S w w') (hS : ∀ k, S k → v.ownBlock ≠ some k) : w'.ownsRow b e size v n xs := by
  obtain ⟨h1, h2⟩ := h
  refine ⟨h1, ?_⟩
  rcases h2 with h2 | ⟨g, cap, cur, rfl, h3, h4, h5⟩
  · exact .inl h2
  · exact .inr ⟨g, cap, cur, rfl, h3, (hu.block g (Array.getElem?_eq_some_iff.1 h4).1 (fun hs => hS g hs rfl)).trans h4, h5⟩
/-- The document's timers at block b: their numbers, and what each has left. -/
def RefAt (w : World) (b : Nat) (e : Int) (ids lefts : List Int) : Prop :=
  ∃ vI vL, Trio w b (.int .i64 e) vI vL ∧ ids.length = lefts.length ∧ w.ownsRow (b + 1) 27 1 vI ids.length (U ids) ∧ w.ownsRow (b + 1) 3 1 vL lefts.length (I lefts) ∧ Apart vI vL
theorem RefAt.below {w w' : World} {b : Nat} {e : Int} {ids lefts : List Int} (h : RefAt w b e ids lefts) (hb : Below w.heap.size w w') : RefAt w' b e ids lefts := by
  obtain ⟨vI, vL, h1, h2, h3, h4, h5⟩ := h
  exact ⟨vI, vL, h1.below hb, h2, upto_row h3 (below_upto (S := fun _ => False) hb) (fun _ h => h.elim), upto_row h4 (below_upto (S := fun _ => False) hb) (fun _ h => h.elim), h5⟩
theorem RefAt.upto {w w' : World} {b B : Nat} {e : Int} {ids lefts : List Int} (h : RefAt w b e ids lefts) (hu : Upto (fun k => k = B) w w') (hB : B < b) : RefAt w' b e ids lefts := by
  obtain ⟨vI, vL, h1, h2, h3, h4, h5⟩ := h
  exact ⟨vI, vL, h1.upto hu (by show ¬ b = B; omega), h2, upto_row h3 hu (fun k hk => by rw [hk]; omega), upto_row h4 hu (fun k hk => by rw [hk]; omega), h5⟩
theorem RefAt.lt {w : World} {b : Nat} {e : Int} {ids lefts : List Int} (h : RefAt w b e ids lefts) : b < w.heap.size := by
  obtain ⟨vI, vL, h1, _⟩ := h
  exact h1.lt

set_option maxRecDepth 100000 in
theorem rnew_ok (e : Int) (h1 : 1 ≤ e) (h2 : e ≤ 1000) (w : World) : Calls Try.prog 12 #[.int .i64 e] w (fun en w' => ∃ b, en = .returned (.tuple #[.pointer (some ⟨b, 0, none⟩), .int .i64 0]) ∧ w.heap.size ≤ b ∧ RefAt w' b e [] [] ∧ Below w.heap.size w w') := by
  go_enter Try.func12, Try.ntmps12
  go_wp2
  go_ret2
  exact ⟨_, rfl, Nat.le_refl _, ⟨_, _, Trio.new w _ _ _, rfl, World.ownsRow_nil _ _ _ _, World.ownsRow_nil _ _ _ _, fun k h => by simp [Value.ownBlock] at h⟩, below_alloc _ _⟩
set_option maxRecDepth 100000 in
theorem rnew_bad (e : Int) (h : e < 1 ∨ 1000 < e) (w : World) : Calls Try.prog 12 #[.int .i64 e] w (fun en w' => en = .returned (.tuple #[.pointer none, .int .i64 1]) ∧ w' = w) := by
  by_cases h1 : e < 1
  · clear h
    go_enter Try.func12, Try.ntmps12
    go_wp2
    go_ret2
    exact ⟨rfl, rfl⟩
  · have h2 : 1000 < e := by omega
    have h3 : 1 ≤ e := by omega
    clear h h1
    go_enter Try.func12, Try.ntmps12
    go_wp2
    go_ret2
    exact ⟨rfl, rfl⟩

/-! ### Stop -/
theorem own_cell {w : World} {b : Nat} {e : TypeId} {n : Nat} {v : Value} {xs : List Value} (h : w.ownsRow b e 1 v n xs) (h0 : 0 < n) : ∃ g cap, v = .slice (some ⟨g, 0, none⟩) n cap ∧ b ≤ g ∧ g < w.heap.size ∧ n ≤ cap ∧ (∀ (j : Nat) u, xs[j]? = some u → w.cell? ⟨g, j, none⟩ = some u) ∧ ∀ j, w.frozen? ⟨g, j, none⟩ = false := by
  have hc := fun g => h.cells (g := g)
  rcases h.2 with ⟨rfl, h3⟩ | ⟨g, cap, cur, rfl, h3, h4, h5, h6, h7, h8⟩
  · omega
  · refine ⟨g, cap, rfl, h3, (Array.getElem?_eq_some_iff.1 h4).1, h5, fun j u hu => ?_, fun j => by simp [World.frozen?, h4]⟩
    have := hc g rfl j u hu
    rw [addr_add', Nat.zero_add] at this
    exact this
theorem own_empty {w : World} {b g : Nat} {e : TypeId} (hb : b ≤ g) (h : w.heap[g]? = some (.cells #[] e (0, 0))) : w.ownsRow b e 1 (.slice (some ⟨g, 0, none⟩) 0 0) 0 [] :=
  ⟨rfl, .inr ⟨g, 0, #[], rfl, hb, h, Nat.le_refl _, Nat.zero_le _, rfl, rfl⟩⟩

def findI (ids : List Int) (x : Int) : Option Nat := ids.findIdx? (fun y => y == x)
set_option maxRecDepth 100000 in
theorem rstop_none (b : Nat) (e x : Int) (ids lefts : List Int) (w : World) (hx : x ∉ ids) (hN : ids.length ≤ 1000000) (h : RefAt w b e ids lefts) : Calls Try.prog 16 #[.pointer (some ⟨b, 0, none⟩), .int .u64 x] w (fun en w' => en = .returned (.bool false) ∧ w = w') := by
  obtain ⟨vI, vL, hT, hl, hI, hL, hA⟩ := h
  have c1 := hT.c1
  obtain ⟨n, hn⟩ : ∃ n, ids.length = n := ⟨_, rfl⟩
  rw [hn] at hI hN
  have HI := Lib.hid hI
  have Hn := Lib.hid hn
  have Hx := Lib.hid hx
  obtain ⟨A, c, hv⟩ : ∃ A c, vI = .slice A n c := by
    rcases hI.2 with ⟨rfl, h0⟩ | ⟨g, cap, cur, rfl, _⟩
    · exact ⟨none, 0, by rw [h0]⟩
    · exact ⟨_, _, rfl⟩
  subst hv
  clear hT hl hI hL hA hn hx
  go_enter Try.func16, Try.ntmps16
  go_wp2
  go_loopw [5] (fun iv wr => ∃ j : Nat, j ≤ n ∧ iv = .int .i64 j ∧ wr = w) (fun iv _ => n - (intOf iv).toNat)
  case atStart => exact ⟨0, Nat.zero_le _, rfl, rfl⟩
  case round =>
    obtain ⟨j, hj, rfl, hwr⟩ := hrel
    subst hwr
    by_cases hlt : j < n
    · have hlt' : (j : Int) < n := by omega
      obtain ⟨g, cap, e1, _, _, _, hc, _⟩ := own_cell HI.out (by omega)
      injection e1 with e1 e2 e3
      subst e1
      obtain ⟨y, hy⟩ : ∃ y, ids[j]? = some y := ⟨_, List.getElem?_eq_getElem (by rw [Hn.out]; exact hlt)⟩
      have hcy := hc j (.int .u64 y) (by unfold U; rw [List.getElem?_map, hy]; rfl)
      have hne : (y == x) = false := by
        have : y ≠ x := fun e => Hx.out (e ▸ List.mem_of_getElem? hy)
        simpa using this
      clear hc e2 e3 hy
      go_wp2
      go_roundw
      case rel => exact ⟨j + 1, by omega, by go_num, trivial⟩
      case measure => (simp [intOf] <;> omega)
    · obtain rfl : j = n := by omega
      go_wp2
      go_ret
      exact ⟨rfl, rfl⟩
end Go.Proofs.Ytocfklnoklmocaa
