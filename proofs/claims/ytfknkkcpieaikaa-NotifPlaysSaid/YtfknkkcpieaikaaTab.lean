/- The table, as the world holds it; Get, Epoch, Len, Valid, New. Condition: it can be read. -/
import Derived.Test.YtfknkkcpieaikaaSmall
import Derived.Laws.ResultCell
namespace Go.Proofs.Ytfknkkcpieaikaa
open Go.RowKit
set_option linter.unusedVariables false
set_option linter.unusedSimpArgs false

structure Tb where
  size : Int
  wait : Int
  next : Int
  epoch : Int
  L : List Ent
def getL (L : List Ent) (id : Int) : Option Ent := L.find? (fun x => x.id == id)
def ptrF (P : Int → Nat) (L : List Ent) (id : Int) : Option Nat := (getL L id).map (fun x => P x.id)
def Quint (w : World) (b : Nat) (T : Tb) (B : Nat) : Prop := w.heap[b]? = some (.cells #[.int .i64 T.size, .int .i64 T.wait, .int .u64 T.next, .int .u64 T.epoch, .map (some B)] 62 (0, 0))
section
variable {w w' : World} {b B : Nat} {T : Tb}
theorem Quint.lt (h : Quint w b T B) : b < w.heap.size := (Array.getElem?_eq_some_iff.1 h).1
theorem Quint.c0 (h : Quint w b T B) : w.cell? ⟨b, 0, none⟩ = some (.int .i64 T.size) := by unfold World.cell?; rw [h]; rfl
theorem Quint.c1 (h : Quint w b T B) : w.cell? ⟨b, 1, none⟩ = some (.int .i64 T.wait) := by unfold World.cell?; rw [h]; rfl
theorem Quint.c2 (h : Quint w b T B) : w.cell? ⟨b, 2, none⟩ = some (.int .u64 T.next) := by unfold World.cell?; rw [h]; rfl
theorem Quint.c3 (h : Quint w b T B) : w.cell? ⟨b, 3, none⟩ = some (.int .u64 T.epoch) := by unfold World.cell?; rw [h]; rfl
theorem Quint.c4 (h : Quint w b T B) : w.cell? ⟨b, 4, none⟩ = some (.map (some B)) := by unfold World.cell?; rw [h]; rfl
theorem Quint.fz (h : Quint w b T B) (o : Nat) : w.frozen? ⟨b, o, none⟩ = false := by unfold Quint at h; simp [World.frozen?, h]
theorem Quint.upto {S : Nat → Prop} (h : Quint w b T B) (hu : Upto S w w') (hS : ¬ S b) : Quint w' b T B := (hu.block b h.lt hS).trans h
end
/-- The blocks of a table. -/
def Own (b B : Nat) (P : Int → Nat) (L : List Ent) (k : Nat) : Prop := k = b ∨ k = B ∨ ∃ x ∈ L, k = P x.id
/-- What is laid down of a table's numbers. -/
structure Fine (T : Tb) : Prop where
  s1 : 1 ≤ T.size
  s2 : T.size ≤ 8
  w1 : 1 ≤ T.wait
  w2 : T.wait ≤ 1000
  n1 : 0 ≤ T.next
  n2 : T.next < 18446744073709551616
  e1 : 0 ≤ T.epoch
  e2 : T.epoch < 18446744073709551616
  len : (T.L.length : Int) ≤ T.size
  rise : T.L.Pairwise (fun x y => x.id < y.id)
  tasks : T.L.Pairwise (fun x y => x.task ≠ y.task)
  ids : ∀ x ∈ T.L, 0 ≤ x.id ∧ x.id < T.next
  tsk : ∀ x ∈ T.L, 1 ≤ x.task ∧ x.task ≤ 4
  wait : ∀ x ∈ T.L, x.waits = true → 1 ≤ x.left ∧ x.left ≤ T.wait
  done : ∀ x ∈ T.L, x.waits = false → x.kind ≠ 0
  st : ∀ x ∈ T.L, 1 ≤ x.st ∧ x.st ≤ 4
/-- The table T at block b, its map at B, its notifications at P. -/
structure TabAt (w : World) (b B : Nat) (P : Int → Nat) (T : Tb) : Prop where
  q : Quint w b T B
  m : MapIs w B T.L.length (ptrF P T.L)
  e : ∀ x ∈ T.L, EntAt w (P x.id) x
  ne : b ≠ B
  nb : ∀ x ∈ T.L, P x.id ≠ b ∧ P x.id ≠ B
  inj : ∀ x ∈ T.L, ∀ y ∈ T.L, P x.id = P y.id → x.id = y.id
  f : Fine T
theorem getL_mem {L : List Ent} {id : Int} {x : Ent} (h : getL L id = some x) : x ∈ L ∧ x.id = id := by
  unfold getL at h
  exact ⟨List.mem_of_find?_eq_some h, by simpa using List.find?_some h⟩
theorem getL_of {L : List Ent} (hr : L.Pairwise (fun x y => x.id < y.id)) {x : Ent} (hx : x ∈ L) : getL L x.id = some x := by
  unfold getL
  induction L with
  | nil => simp at hx
  | cons a r ih =>
    rw [List.pairwise_cons] at hr
    rw [List.find?_cons]
    rcases List.mem_cons.1 hx with rfl | hx
    · simp
    · have := hr.1 x hx
      rw [show (a.id == x.id) = false by simp; omega]
      exact ih hr.2 hx
theorem U64.of {x : Int} (h1 : 0 ≤ x) (h2 : x < 18446744073709551616) : U64 x := WalkArith.wf_u64 (by omega)
section
variable {w w' : World} {b B : Nat} {P : Int → Nat} {T : Tb}
theorem TabAt.look (h : TabAt w b B P T) {id : Int} (hU : U64 id) : (Instr.lookup 60 (.map (some B)) (.int .u64 id) false).run Try.prog w = .ok (ptr ((getL T.L id).map (fun x => P x.id))) w := h.m.look hU
theorem TabAt.upto {S : Nat → Prop} (h : TabAt w b B P T) (hu : Upto S w w') (hS : ∀ k, Own b B P T.L k → ¬ S k) : TabAt w' b B P T :=
  ⟨h.q.upto hu (hS b (.inl rfl)), h.m.upto hu (hS B (.inr (.inl rfl))), fun x hx => (h.e x hx).upto hu (hS _ (.inr (.inr ⟨x, hx, rfl⟩))), h.ne, h.nb, h.inj, h.f⟩
theorem TabAt.below (h : TabAt w b B P T) (hb : Below w.heap.size w w') : TabAt w' b B P T := h.upto (below_upto (S := fun _ => False) hb) (fun _ _ h => h)
theorem TabAt.lt (h : TabAt w b B P T) {k : Nat} (hk : Own b B P T.L k) : k < w.heap.size := by
  rcases hk with rfl | rfl | ⟨x, hx, rfl⟩
  · exact h.q.lt
  · exact h.m.lt
  · exact (h.e x hx).lt
end
theorem new_fz (w : World) (cs : Array Value) (t : TypeId) (j : Nat) : (w.alloc (.cells cs t)).frozen? ⟨w.heap.size, j, none⟩ = false := by
  unfold World.frozen?
  simp only [World.alloc_heap_new]
  simp
def Ent.nil : Ent := ⟨0, 0, 0, 0, 0, 0⟩
def entV (x : Ent) : Value := .agg x.cells
set_option maxRecDepth 100000 in
theorem epoch_any (b B : Nat) (P : Int → Nat) (T : Tb) (w : World) (h : TabAt w b B P T) : Calls Try.prog 14 #[.pointer (some ⟨b, 0, none⟩)] w (fun e w' => e = .returned (.int .u64 T.epoch) ∧ w = w') := by
  have c3 := h.q.c3
  clear h
  go_enter Try.func14, Try.ntmps14
  go_wp2
  go_ret
  exact ⟨rfl, rfl⟩
def GetPost (x : Option Ent) (w : World) (e : Ending) (w' : World) : Prop := e = .returned (.tuple #[entV (x.getD Ent.nil), .bool x.isSome]) ∧ Below w.heap.size w w'
set_option maxRecDepth 100000 in
theorem get_any (b B : Nat) (P : Int → Nat) (T : Tb) (id : Int) (w : World) (hU : U64 id) (h : TabAt w b B P T) : Calls Try.prog 11 #[.pointer (some ⟨b, 0, none⟩), .int .u64 id] w (GetPost (getL T.L id) w) := by
  have c4 : ∀ o : Obj, (w.alloc o).cell? ⟨b, 4, none⟩ = some (.map (some B)) := fun o => keep_cell (below_alloc w o) h.q.c4
  have n6 := fun (cs : Array Value) (j : Nat) (v : Value) (hv : cs[j]? = some v) => new_cell w cs 37 j hv
  have nf : ∀ (cs : Array Value) (j : Nat), (w.alloc (.cells cs 37)).frozen? ⟨w.heap.size, j, none⟩ = false := fun cs j => new_fz w cs 37 j
  have h0 := n6 #[.int .u64 0, .int .i64 0, .int .i64 0, .int .i64 0, .int .i64 0, .int .i64 0] 0 _ rfl
  have h1 := n6 #[.int .u64 0, .int .i64 0, .int .i64 0, .int .i64 0, .int .i64 0, .int .i64 0] 1 _ rfl
  have h2 := n6 #[.int .u64 0, .int .i64 0, .int .i64 0, .int .i64 0, .int .i64 0, .int .i64 0] 2 _ rfl
  have h3 := n6 #[.int .u64 0, .int .i64 0, .int .i64 0, .int .i64 0, .int .i64 0, .int .i64 0] 3 _ rfl
  have h4 := n6 #[.int .u64 0, .int .i64 0, .int .i64 0, .int .i64 0, .int .i64 0, .int .i64 0] 4 _ rfl
  have h5 := n6 #[.int .u64 0, .int .i64 0, .int .i64 0, .int .i64 0, .int .i64 0, .int .i64 0] 5 _ rfl
  clear n6
  cases hg : getL T.L id with
  | none =>
    have hlook := fun (o : Obj) => (h.below (below_alloc w o)).look hU
    rw [hg] at hlook
    have hlook2 : ∀ o : Obj, (Instr.lookup 60 (.map (some B)) (.int .u64 id) false).run Try.prog (w.alloc o) = .ok (.pointer none) (w.alloc o) := hlook
    clear h hlook hg
    go_enter Try.func11, Try.ntmps11
    go_wp2
    refine bodyPost_ret (v := .tuple #[entV Ent.nil, .bool false]) (by rw [results_cell_tmp rfl]; unfold entV Ent.cells Ent.nil; go_simp) rfl ⟨rfl, below_alloc _ _⟩
  | some x =>
    obtain ⟨hx, hid⟩ := getL_mem hg
    have hlook := fun (o : Obj) => (h.below (below_alloc w o)).look hU
    rw [hg] at hlook
    have hlook2 : ∀ o : Obj, (Instr.lookup 60 (.map (some B)) (.int .u64 id) false).run Try.prog (w.alloc o) = .ok (.pointer (some ⟨P x.id, 0, none⟩)) (w.alloc o) := hlook
    have hE := fun (o : Obj) => (h.e x hx).below (below_alloc w o)
    obtain ⟨p, hp⟩ : ∃ p, P x.id = p := ⟨_, rfl⟩
    rw [hp] at hE hlook2
    have d0 := fun o => (hE o).c0
    have d1 := fun o => (hE o).c1
    have d2 := fun o => (hE o).c2
    have d3 := fun o => (hE o).c3
    have d4 := fun o => (hE o).c4
    have d5 := fun o => (hE o).c5
    clear h hlook hg hx hid hE hp
    go_enter Try.func11, Try.ntmps11
    go_wp2
    refine bodyPost_ret (v := .tuple #[entV x, .bool true]) (by rw [results_cell_tmp rfl]; unfold entV Ent.cells; go_simp) rfl ⟨rfl, below_alloc _ _⟩
set_option maxRecDepth 100000 in
theorem valid_any (b B : Nat) (P : Int → Nat) (T : Tb) (id : Int) (w : World) (hU : U64 id) (h : TabAt w b B P T) : Calls Try.prog 17 #[.pointer (some ⟨b, 0, none⟩), .int .u64 id] w (fun e w' => e = .returned (.bool (match getL T.L id with | none => false | some x => x.st == 2)) ∧ w = w') := by
  have c4 := h.q.c4
  have hlook := h.look hU
  cases hg : getL T.L id with
  | none =>
    rw [hg] at hlook
    have hlook2 : (Instr.lookup 60 (.map (some B)) (.int .u64 id) false).run Try.prog w = .ok (.pointer none) w := hlook
    clear h hlook hg
    go_enter Try.func17, Try.ntmps17
    go_wp2
    go_ret
    exact ⟨rfl, rfl⟩
  | some x =>
    obtain ⟨hx, hid⟩ := getL_mem hg
    rw [hg] at hlook
    have hlook2 : (Instr.lookup 60 (.map (some B)) (.int .u64 id) false).run Try.prog w = .ok (.pointer (some ⟨P x.id, 0, none⟩)) w := hlook
    have d2 := (h.e x hx).c2
    obtain ⟨p, hp⟩ : ∃ p, P x.id = p := ⟨_, rfl⟩
    rw [hp] at d2 hlook2
    clear h hlook hg hx hid hp
    go_enter Try.func17, Try.ntmps17
    go_wp2
    go_ret
    exact ⟨rfl, rfl⟩
/-- What New asks. -/
def newOk (s t : Int) : Bool := decide (1 ≤ s ∧ s ≤ 8 ∧ 1 ≤ t ∧ t ≤ 1000)
set_option maxRecDepth 100000 in
theorem new_bad (s t f : Int) (h : newOk s t = false) (w : World) : Calls Try.prog 9 #[.int .i64 s, .int .i64 t, .int .u64 f] w (fun e w' => e = .returned (.tuple #[.pointer none, .int .i64 1]) ∧ w' = w) := by
  have h' : ¬ (1 ≤ s ∧ s ≤ 8 ∧ 1 ≤ t ∧ t ≤ 1000) := by simpa [newOk] using h
  clear h
  by_cases h1 : s < 1
  · clear h'
    go_enter Try.func9, Try.ntmps9
    go_wp2
    go_ret2
    exact ⟨rfl, rfl⟩
  have h1' : 1 ≤ s := by omega
  by_cases h2 : 8 < s
  · clear h' h1
    go_enter Try.func9, Try.ntmps9
    go_wp2
    go_ret2
    exact ⟨rfl, rfl⟩
  have h2' : s ≤ 8 := by omega
  by_cases h3 : t < 1
  · clear h' h1 h2
    go_enter Try.func9, Try.ntmps9
    go_wp2
    go_ret2
    exact ⟨rfl, rfl⟩
  have h3' : 1 ≤ t := by omega
  have h4 : 1000 < t := by omega
  clear h' h1 h2 h3
  go_enter Try.func9, Try.ntmps9
  go_wp2
  go_ret2
  exact ⟨rfl, rfl⟩
set_option maxRecDepth 100000 in
theorem new_ok (s t f : Int) (h : newOk s t = true) (hf1 : 0 ≤ f) (hf2 : f < 18446744073709551616) (w : World) : Calls Try.prog 9 #[.int .i64 s, .int .i64 t, .int .u64 f] w (fun e w' => ∃ b B, e = .returned (.tuple #[.pointer (some ⟨b, 0, none⟩), .int .i64 0]) ∧ w.heap.size ≤ b ∧ w.heap.size ≤ B ∧ (∀ P, TabAt w' b B P ⟨s, t, f, 0, []⟩) ∧ Below w.heap.size w w') := by
  have h' : 1 ≤ s ∧ s ≤ 8 ∧ 1 ≤ t ∧ t ≤ 1000 := by simpa [newOk] using h
  obtain ⟨h1, h2, h3, h4⟩ := h'
  have hmk : (Instr.makeMap 60 none).run Try.prog w = .ok (.map (some w.heap.size)) (w.alloc (.map #[] 0)) := rfl
  have hm := MapIs.made w
  have hb0 := below_alloc w (.map #[] 0)
  have hB : (w.alloc (.map #[] 0)).heap.size = w.heap.size + 1 := by simp
  obtain ⟨wm, hwm⟩ : ∃ wm, w.alloc (.map #[] 0) = wm := ⟨_, rfl⟩
  rw [hwm] at hmk hm hb0 hB
  have HB := Lib.hid hB
  clear hwm hB h
  go_enter Try.func9, Try.ntmps9
  go_wp2
  go_ret2
  have hbb := below_alloc wm (.cells #[.int .i64 s, .int .i64 t, .int .u64 f, .int .u64 0, .map (some w.heap.size)] 62)
  refine ⟨_, w.heap.size, rfl, hb0.size, Nat.le_refl _, fun P => ⟨World.alloc_heap_new _ _, hm.below hbb, fun x hx => by simp at hx, ?_, fun x hx => by simp at hx, fun x hx => by simp at hx, ⟨h1, h2, h3, h4, hf1, hf2, by simp, by simp, by simp; omega, by simp, by simp, fun x hx => by simp at hx, fun x hx => by simp at hx, fun x hx => by simp at hx, fun x hx => by simp at hx, fun x hx => by simp at hx⟩⟩, bchain hb0 hb0.size hbb⟩
  rw [HB.out]; omega
end Go.Proofs.Ytfknkkcpieaikaa
