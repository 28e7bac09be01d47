/- Compile: what it computes; the plan as it is made. No conditions. -/
import Derived.Test.YtjmmbadpknlmcaaRule
import Derived.Test.YtjmmbadpknlmcaaCheck
import Derived.Test.YtjmmbadpknlmcaaLight
import Derived.Test.YtjmmbadpknlmcaaVm
import Derived.Laws.OwnMore
namespace Go.Proofs.Ytjmmbadpknlmcaa
open Go.RowKit
set_option linter.unusedVariables false
set_option linter.unusedSimpArgs false
set_option maxRecDepth 100000

/-- The numbers of a rule's conditions are of their kinds. -/
def WfC (c : Cnd) : Prop := 0 ≤ c.m ∧ c.m < 18446744073709551616 ∧ 0 ≤ c.v ∧ c.v < 18446744073709551616
def WfL (L : List Rul) : Prop := ∀ r ∈ L, ∀ c ∈ r.cs, WfC c
/-- What the names of a rule add to the leaf of a call's name. -/
def namesL' (r : Rul) (nm : ByteArray) (ns : List ByteArray) : List Ins := ns.flatMap fun s => if s = nm then ruleL r.k r.a r.cs else []
def rulesL (nm : ByteArray) (L : List Rul) : List Ins := L.flatMap fun r => namesL' r nm r.ns
def bodyL (k a : Int) (L : List Rul) (nr : Int) : List Ins := rulesL (nameV nr).1 L ++ [⟨6, 0, 0, valV k a⟩]
def bodiesL (k a : Int) (L : List Rul) : List (List Ins) := (numsV L).map (bodyL k a L)
def headL : List Ins := [⟨32, 0, 0, 4⟩, ⟨21, 1, 0, 3221225534⟩, ⟨6, 0, 0, valV 1 0⟩, ⟨32, 0, 0, 0⟩]
def compL (k a : Int) (L : List Rul) : List Ins := headL ++ (if numsV L = [] then [⟨6, 0, 0, valV k a⟩] else partL (numsV L) (bodiesL k a L) 0 (numsV L).length)
def CompPost (k a : Int) (L : List Rul) (w : World) (e : Ending) (w' : World) : Prop :=
  Below w.heap.size w w' ∧
  (if (checkV k a L).1 ≠ 0 then e = .returned (.tuple #[.slice none 0 0, .int .i64 (checkV k a L).1])
   else if 4096 < (compL k a L).length then e = .returned (.tuple #[.slice none 0 0, .int .i64 4])
   else ∃ A c, e = .returned (.tuple #[.slice A (compL k a L).length c, .int .i64 0]) ∧ InsOwn w.heap.size w' (.slice A (compL k a L).length c) (compL k a L))
section
variable {k a : Int} {L : List Rul} {w w' : World}
theorem comp_err {f1 f2 : Int} (hb : Below w.heap.size w w') (hF : checkV k a L = (f1, f2)) (h : ¬ f1 = 0) : CompPost k a L w (.returned (.tuple #[.slice none 0 0, .int .i64 f1])) w' := ⟨hb, by rw [hF]; rw [if_pos h]⟩
theorem comp_long {f2 : Int} (hb : Below w.heap.size w w') (hF : checkV k a L = (0, f2)) (h : 4096 < (compL k a L).length) : CompPost k a L w (.returned (.tuple #[.slice none 0 0, .int .i64 4])) w' := ⟨hb, by rw [hF]; rw [if_neg (by simp), if_pos h]⟩
theorem comp_ok {f2 : Int} {A : Option Addr} {c n : Nat} (hb : Below w.heap.size w w') (hF : checkV k a L = (0, f2)) (hn : (compL k a L).length = n) (h : n ≤ 4096) (ho : w'.ownsRow w.heap.size 70 4 (.slice A n c) n (rowI (compL k a L))) : CompPost k a L w (.returned (.tuple #[.slice A n c, .int .i64 0])) w' := by
  subst hn
  exact ⟨hb, by rw [hF]; rw [if_neg (by simp), if_neg (by omega)]; exact ⟨A, c, rfl, ho⟩⟩
end
theorem nums_form {w : World} {v : Value} {xs : List Int} (h : NumsAt w v xs) : ∃ A c, v = .slice A xs.length c := by obtain ⟨A, c, e, _⟩ := h; exact ⟨A, c, e⟩
theorem numsV_len (L : List Rul) : (numsV L).length ≤ 30 := by
  unfold numsV
  have := List.length_filter_le (spkL L) allN
  rw [allN_len] at this
  exact this
theorem info29 : (Try.prog.info? 29).map (fun i => (i.zero, i.size, i.bytes)) = some (some (.slice none 0 0), 1, 24) := by kernel_rfl
theorem under62 : Try.prog.underlying 62 = some (.slice 29) := by kernel_rfl
/-- The plan, as it is made: its numbers, and leaves that are empty. -/
def PlanAt (N : Nat) (L : List Rul) (w3 : World) (p : Value) (wx : World) : Prop :=
  ∃ pb lb A c, p = .pointer (some ⟨pb, 0, none⟩) ∧ wx.heap[pb]? = some (.cells #[.slice A N c, .slice (some ⟨lb, 0, none⟩) N N] 64 (0, 0)) ∧ wx.heap[lb]? = some (.cells (madeCells #[.slice none 0 0] N) 29 (0, 0)) ∧
    NumsAt wx (.slice A N c) (numsV L) ∧ w3.heap.size ≤ pb ∧ w3.heap.size ≤ lb ∧ pb ≠ lb ∧ Below w3.heap.size w3 wx
def nil2 : Array Value := #[.slice none 0 0, .slice none 0 0]
theorem undrew {w w' : World} (hb : Below w.drew.heap.size w.drew w') : Below w.heap.size w w' := ⟨hb.os, hb.tape, hb.output, hb.size, hb.block⟩
section
variable {w : World} {b : Nat} {t : TypeId} {u0 u1 : Value}
theorem plan_cell0 (h : w.heap[b]? = some (.cells #[u0, u1] t (0, 0))) (ob : Obj) : (w.alloc ob).cell? ⟨b, 0, none⟩ = some u0 := keep_cell (below_alloc w ob) (by unfold World.cell?; rw [h]; rfl)
theorem plan_cell1 (h : w.heap[b]? = some (.cells #[u0, u1] t (0, 0))) (ob : Obj) : (w.alloc ob).cell? ⟨b, 1, none⟩ = some u1 := keep_cell (below_alloc w ob) (by unfold World.cell?; rw [h]; rfl)
theorem plan_alloc (h : w.heap[b]? = some (.cells #[u0, u1] t (0, 0))) (ob : Obj) : (w.alloc ob).heap[b]? = some (.cells #[u0, u1] t (0, 0)) := ((below_alloc w ob).block b (Array.getElem?_eq_some_iff.1 h).1).trans h
theorem plan_fz (h : w.heap[b]? = some (.cells #[u0, u1] t (0, 0))) (j : Nat) (ob : Obj) : (w.alloc ob).frozen? ⟨b, j, none⟩ = false := by
  have := plan_alloc h ob
  simp [World.frozen?, this]
end
section
variable {N : Nat} {L : List Rul} {w3 w5 : World} {A : Option Addr} {c : Nat}
theorem plan_A (hn : NumsAt w5 (.slice A N c) (numsV L)) (hb : Below w3.heap.size w3 w5) : PlanAt N L w3 (.pointer (some ⟨w5.heap.size + 1, 0, none⟩)) ((w5.alloc (.cells (madeCells #[.slice none 0 0] N) 29)).alloc (.cells #[.slice A N c, .slice (some ⟨w5.heap.size, 0, none⟩) N N] 64)) := by
  have h1 := below_alloc w5 (.cells (madeCells #[.slice none 0 0] N) 29)
  have h2 := below_alloc (w5.alloc (.cells (madeCells #[.slice none 0 0] N) 29)) (.cells #[.slice A N c, .slice (some ⟨w5.heap.size, 0, none⟩) N N] 64)
  have hs : (w5.alloc (.cells (madeCells #[.slice none 0 0] N) 29)).heap.size = w5.heap.size + 1 := by simp
  have e1 := World.alloc_heap_new (w5.alloc (.cells (madeCells #[.slice none 0 0] N) 29)) (.cells #[.slice A N c, .slice (some ⟨w5.heap.size, 0, none⟩) N N] 64)
  rw [hs] at e1
  have hz := hb.size
  exact ⟨w5.heap.size + 1, w5.heap.size, A, c, rfl, e1, (h2.block _ (by rw [hs]; omega)).trans (World.alloc_heap_new w5 _), nums_below (nums_below hn h1) h2, by omega, hz, by omega, (hb.trans (h1.mono hz)).trans (h2.mono (by rw [hs]; omega))⟩
theorem plan_B (hn : NumsAt w5 (.slice A N c) (numsV L)) (hb : Below w3.heap.size w3 w5) : PlanAt N L w3 (.pointer (some ⟨w5.heap.size, 0, none⟩)) ((w5.alloc (.cells #[.slice A N c, .slice (some ⟨w5.heap.size + 1, 0, none⟩) N N] 64)).alloc (.cells (madeCells #[.slice none 0 0] N) 29)) := by
  have h1 := below_alloc w5 (.cells #[.slice A N c, .slice (some ⟨w5.heap.size + 1, 0, none⟩) N N] 64)
  have h2 := below_alloc (w5.alloc (.cells #[.slice A N c, .slice (some ⟨w5.heap.size + 1, 0, none⟩) N N] 64)) (.cells (madeCells #[.slice none 0 0] N) 29)
  have hs : (w5.alloc (.cells #[.slice A N c, .slice (some ⟨w5.heap.size + 1, 0, none⟩) N N] 64)).heap.size = w5.heap.size + 1 := by simp
  have e1 := World.alloc_heap_new (w5.alloc (.cells #[.slice A N c, .slice (some ⟨w5.heap.size + 1, 0, none⟩) N N] 64)) (.cells (madeCells #[.slice none 0 0] N) 29)
  rw [hs] at e1
  have hz := hb.size
  exact ⟨w5.heap.size, w5.heap.size + 1, A, c, rfl, (h2.block _ (by rw [hs]; omega)).trans (World.alloc_heap_new w5 _), e1, nums_below (nums_below hn h1) h2, hz, by omega, by omega, (hb.trans (h1.mono hz)).trans (h2.mono (by rw [hs]; omega))⟩
theorem plan_C {b : Nat} (hp : w5.heap[b]? = some (.cells #[.slice none 0 0, .slice none 0 0] 64 (0, 0))) (h3 : w3.heap.size ≤ b) (hn : NumsAt w5 (.slice A N c) (numsV L)) (hb : Below w3.heap.size w3 w5) : PlanAt N L w3 (.pointer (some ⟨b, 0, none⟩)) (((w5.alloc (.cells (madeCells #[.slice none 0 0] N) 29)).setCell ⟨b, 0, none⟩ (.slice A N c)).setCell ⟨b, 1, none⟩ (.slice (some ⟨w5.heap.size, 0, none⟩) N N)) := by
  have h1 := below_alloc w5 (.cells (madeCells #[.slice none 0 0] N) 29)
  have hlt := (Array.getElem?_eq_some_iff.1 hp).1
  have hz := hb.size
  have hp1 := plan_alloc hp (.cells (madeCells #[.slice none 0 0] N) 29)
  have e1 := World.alloc_heap_new w5 (.cells (madeCells #[.slice none 0 0] N) 29)
  have hn1 := nums_below hn h1
  have hb1 := hb.trans (h1.mono hz)
  obtain ⟨X, hX⟩ : ∃ X, w5.alloc (.cells (madeCells #[.slice none 0 0] N) 29) = X := ⟨_, rfl⟩
  rw [hX] at hp1 e1 hn1 hb1 ⊢
  have hu : Upto (fun k => k = b) X ((X.setCell ⟨b, 0, none⟩ (.slice A N c)).setCell ⟨b, 1, none⟩ (.slice (some ⟨w5.heap.size, 0, none⟩) N N)) := ((Upto.refl (fun k => k = b) X).setCell (p := ⟨b, 0, none⟩) (.inl rfl) _).setCell (p := ⟨b, 1, none⟩) (.inl rfl) _
  refine ⟨b, w5.heap.size, A, c, rfl, ?_, (hu.block _ (Array.getElem?_eq_some_iff.1 e1).1 (by omega)).trans e1, ?_, h3, hz, by omega, hb1.trans (hu.toBelow hb1.size (fun k hk => by omega))⟩
  · unfold World.setCell
    simp [Array.getElem?_modify, hp1]
  · obtain ⟨A', c', e, hc⟩ := hn1
    injection e with e2 e3 e4
    subst e2
    refine ⟨A, c, by rw [e3], fun h0 => ?_⟩
    obtain ⟨g, o, e5, hc2⟩ := hc h0
    refine ⟨g, o, e5, fun j x hx => hu.cell (p := ⟨g, o + j, none⟩) (fun e6 => ?_) (hc2 j x hx)⟩
    have h7 := hc2 j x hx
    have e6 : g = b := e6
    subst e6
    unfold World.cell? at h7
    rw [hp1] at h7
    have h8 : (#[.slice none 0 0, .slice none 0 0] : Array Value)[o + j]? = some (.int .u32 x) := h7
    rcases ho : o + j with _ | _ | q <;> rw [ho] at h8 <;> simp at h8
end
/-! ### What the loops hold -/
theorem rules_fine {k a : Int} {L : List Rul} (h : rulesB k a L = true) {x : Rul} (hx : x ∈ L) : actB x.k x.a = true ∧ x.ns.length ≤ 16 ∧ x.cs.length ≤ 8 ∧ ∀ c ∈ x.cs, rightB c.a c.o = true := by
  unfold rulesB at h
  simp only [Bool.and_eq_true, List.all_eq_true] at h
  have := h.2 x hx
  unfold fineR fineB at this
  simp only [Bool.and_eq_true, decide_eq_true_eq, List.all_eq_true] at this
  exact ⟨this.1.1, this.1.2.2.1, this.1.2.2.2, this.2.2⟩
theorem ruleL_len (k a : Int) (cs : List Cnd) (h : cs.length ≤ 8) : (ruleL k a cs).length ≤ 57 := by
  unfold ruleL
  cases hf : ruleF k a cs with
  | none => simp
  | some l =>
    have := ruleF_len hf
    simp
    omega
theorem namesL_len (r : Rul) (nm : ByteArray) (ns : List ByteArray) (h : r.cs.length ≤ 8) : (namesL' r nm ns).length ≤ 57 * ns.length := by
  induction ns with
  | nil => simp [namesL']
  | cons s t ih =>
    have h1 := ruleL_len r.k r.a r.cs h
    have e : namesL' r nm (s :: t) = (if s = nm then ruleL r.k r.a r.cs else []) ++ namesL' r nm t := rfl
    rw [e, List.length_append, List.length_cons]
    split
    · omega
    · simp; omega
theorem namesL_take {r : Rul} {nm : ByteArray} {ns : List ByteArray} {j : Nat} {s : ByteArray} (h : ns[j]? = some s) : namesL' r nm (ns.take (j + 1)) = namesL' r nm (ns.take j) ++ (if s = nm then ruleL r.k r.a r.cs else []) := by
  obtain ⟨h1, h2⟩ := List.getElem?_eq_some_iff.1 h
  rw [List.take_succ_eq_append_getElem h1, h2]
  unfold namesL'
  rw [List.flatMap_append]
  simp
theorem rulesL_take {nm : ByteArray} {L : List Rul} {j : Nat} {x : Rul} (h : L[j]? = some x) : rulesL nm (L.take (j + 1)) = rulesL nm (L.take j) ++ namesL' x nm x.ns := by
  obtain ⟨h1, h2⟩ := List.getElem?_eq_some_iff.1 h
  rw [List.take_succ_eq_append_getElem h1, h2]
  unfold rulesL
  rw [List.flatMap_append]
  simp
theorem rulesL_len (nm : ByteArray) (L : List Rul) (h : ∀ x ∈ L, x.ns.length ≤ 16 ∧ x.cs.length ≤ 8) : (rulesL nm L).length ≤ 912 * L.length := by
  induction L with
  | nil => simp [rulesL]
  | cons r t ih =>
    have h1 := h r (List.mem_cons_self ..)
    have h2 := namesL_len r nm r.ns h1.2
    have h3 := ih (fun x hx => h x (List.mem_cons_of_mem _ hx))
    have e : rulesL nm (r :: t) = namesL' r nm r.ns ++ rulesL nm t := rfl
    rw [e, List.length_append, List.length_cons]
    omega
/-- A slice lies elsewhere than at a block. -/
def Off (b : Nat) (u : Value) : Prop := ∀ g o m c, u = .slice (some ⟨g, o, none⟩) m c → g ≠ b
theorem rd_upto {w w' : World} {b : Nat} {u : Value} {l : List Ins} (h : InsRd w u l) (ho : Off b u) (hu : Upto (fun k => k = b) w w') : InsRd w' u l := by
  obtain ⟨A, c, e, h1, h2, h3⟩ := h
  refine ⟨A, c, e, h1, h2, fun h0 => ?_⟩
  obtain ⟨g, o, e2, hc⟩ := h3 h0
  exact ⟨g, o, e2, fun j u' hu' => hu.cell (p := ⟨g, o + j, none⟩) (ho g o l.length c (by rw [e, e2])) (hc j u' hu')⟩
/-- The row of the leaves. -/
def Tab (w : World) (b : Nat) (vs : List Value) : Prop := w.heap[b]? = some (.cells vs.toArray 29 (0, 0))
theorem Tab.lt {w : World} {b : Nat} {vs : List Value} (h : Tab w b vs) : b < w.heap.size := (Array.getElem?_eq_some_iff.1 h).1
theorem Tab.cell {w : World} {b : Nat} {vs : List Value} (h : Tab w b vs) (j : Nat) : w.cell? ⟨b, j, none⟩ = vs[j]? := by
  unfold World.cell?; rw [h]; simp
theorem Tab.fz {w : World} {b : Nat} {vs : List Value} (h : Tab w b vs) (j : Nat) : w.frozen? ⟨b, j, none⟩ = false := by unfold Tab at h; simp [World.frozen?, h]
theorem Tab.below {w w' : World} {b : Nat} {vs : List Value} (h : Tab w b vs) (hb : Below w.heap.size w w') : Tab w' b vs := (hb.block b h.lt).trans h
theorem Tab.set {w : World} {b : Nat} {vs : List Value} (h : Tab w b vs) (i : Nat) (u : Value) : Tab (w.setCell ⟨b, i, none⟩ u) b (vs.set i u) := by
  unfold Tab World.setCell at *
  simp [Array.getElem?_modify, h]
/-- What the outer loop holds: leaves that are ready, and empty ones. -/
def OutC (k a : Int) (L : List Rul) (N lb : Nat) (wc : World) (iv : Value) (wr : World) : Prop :=
  ∃ (i : Nat) (vs : List Value), i ≤ N ∧ iv = .int .i64 i ∧ vs.length = N ∧ Tab wr lb vs ∧ (∀ j, i ≤ j → j < N → vs[j]? = some (.slice none 0 0)) ∧
    (∀ j nr, j < i → (numsV L)[j]? = some nr → ∃ u, vs[j]? = some u ∧ InsRd wr u (bodyL k a L nr) ∧ Off lb u) ∧ Upto (fun k => k = lb) wc wr
/-- What the loop over the rules holds. -/
def MidC (L : List Rul) (nm : ByteArray) (n i lb : Nat) (vs : List Value) (w1 : World) (iv : Value) (wr : World) : Prop :=
  ∃ (r : Nat) (u : Value), r ≤ n ∧ iv = .int .i64 r ∧ Tab wr lb (vs.set i u) ∧ InsOwn w1.heap.size wr u (rulesL nm (L.take r)) ∧ Upto (fun k => k = lb) w1 wr
/-- A block that is a rule. -/
def Blk (w : World) (b : Nat) (rk ra : Int) (nv cv : Value) : Prop := w.heap[b]? = some (.cells #[.int .i64 rk, .int .i64 ra, nv, cv] 44 (0, 0))
section
variable {w w' : World} {b : Nat} {rk ra : Int} {nv cv : Value}
theorem Blk.lt (h : Blk w b rk ra nv cv) : b < w.heap.size := (Array.getElem?_eq_some_iff.1 h).1
theorem Blk.c0 (h : Blk w b rk ra nv cv) : w.cell? ⟨b, 0, none⟩ = some (.int .i64 rk) := by unfold World.cell?; rw [h]; rfl
theorem Blk.c1 (h : Blk w b rk ra nv cv) : w.cell? ⟨b, 1, none⟩ = some (.int .i64 ra) := by unfold World.cell?; rw [h]; rfl
theorem Blk.c2 (h : Blk w b rk ra nv cv) : w.cell? ⟨b, 2, none⟩ = some nv := by unfold World.cell?; rw [h]; rfl
theorem Blk.c3 (h : Blk w b rk ra nv cv) : w.cell? ⟨b, 3, none⟩ = some cv := by unfold World.cell?; rw [h]; rfl
theorem Blk.below (h : Blk w b rk ra nv cv) (hb : Below w.heap.size w w') : Blk w' b rk ra nv cv := (hb.block b h.lt).trans h
theorem Blk.grown {lo n size : Nat} {u : Value} {xs : List Value} (h : Blk w b rk ra nv cv) (hg : w.grownBy w' u.ownBlock) (ho : w.ownsRow lo 70 size u n xs) : Blk w' b rk ra nv cv := by
  refine (hg.block b h.lt (fun e => ?_)).trans h
  obtain ⟨_, h2⟩ := ho
  rcases h2 with ⟨rfl, _⟩ | ⟨g, cap, cur, rfl, h3, h4, _⟩
  · cases e
  · cases e
    unfold Blk at h
    rw [h] at h4
    simp at h4
theorem Blk.set (h : Blk w b rk ra nv cv) {p : Addr} (hp : p.block ≠ b) (u : Value) : Blk (w.setCell p u) b rk ra nv cv := (Below.heap_setCell _ _ _ _ (Ne.symm hp)).trans h
end
theorem Tab.grown {w w' : World} {b lo n size : Nat} {vs xs : List Value} {u : Value} (h : Tab w b vs) (hg : w.grownBy w' u.ownBlock) (ho : w.ownsRow lo 70 size u n xs) : Tab w' b vs := by
  refine (hg.block b h.lt (fun e => ?_)).trans h
  obtain ⟨_, h2⟩ := ho
  rcases h2 with ⟨rfl, _⟩ | ⟨g, cap, cur, rfl, h3, h4, _⟩
  · cases e
  · cases e
    unfold Tab at h
    rw [h] at h4
    simp at h4
theorem own_off {w : World} {b lo n size : Nat} {vs xs : List Value} {u : Value} (h : Tab w b vs) (ho : w.ownsRow lo 70 size u n xs) : Off b u := by
  rintro g o m c rfl rfl
  obtain ⟨_, h2⟩ := ho
  rcases h2 with ⟨h2, _⟩ | ⟨g', cap, cur, h2, h3, h4, _⟩
  · cases h2
  · cases h2
    unfold Tab at h
    rw [h] at h4
    simp at h4
/-- A row of the call's own stands over a store elsewhere. -/
theorem own_set {w : World} {lo n size : Nat} {e : TypeId} {u : Value} {xs : List Value} (ho : w.ownsRow lo e size u n xs) {p : Addr} (hp : ∀ k, u.ownBlock = some k → k ≠ p.block) (x : Value) : (w.setCell p x).ownsRow lo e size u n xs := by
  obtain ⟨h1, h2⟩ := ho
  refine ⟨h1, ?_⟩
  rcases h2 with h2 | ⟨g, cap, cur, rfl, h3, h4, h5⟩
  · exact .inl h2
  · exact .inr ⟨g, cap, cur, rfl, h3, (Below.heap_setCell _ _ _ _ (hp g rfl)).trans h4, h5⟩
/-- What the loop over a rule's names holds. -/
def InC (l0 : List Ins) (x : Rul) (nm : ByteArray) (m i lb rb : Nat) (nv cv : Value) (vs : List Value) (w1 : World) (iv : Value) (wr : World) : Prop :=
  ∃ (j : Nat) (u : Value), j ≤ m ∧ iv = .int .i64 j ∧ Tab wr lb (vs.set i u) ∧ InsOwn w1.heap.size wr u (l0 ++ namesL' x nm (x.ns.take j)) ∧ Blk wr rb x.k x.a nv cv ∧ Upto (fun k => k = lb) w1 wr
theorem below_upto_ge {B : Nat} {w w' : World} (h : Below B w w') : Upto (fun k => B ≤ k) w w' := ⟨h.os, h.tape, h.output, h.size, fun k hk hs => h.block k (by omega)⟩
theorem own_ne {w : World} {b lo n size : Nat} {vs xs : List Value} {u : Value} (h : Tab w b vs) (ho : w.ownsRow lo 70 size u n xs) : ∀ k, u.ownBlock = some k → k ≠ b := by
  rintro k hk rfl
  obtain ⟨_, h2⟩ := ho
  rcases h2 with ⟨rfl, _⟩ | ⟨g, cap, cur, rfl, h3, h4, _⟩
  · cases hk
  · cases hk
    unfold Tab at h
    rw [h] at h4
    simp at h4
theorem nums_off {w : World} {A : Option Addr} {N n c b : Nat} {xs : List Int} (h : NumsAt w (.slice A N c) xs) (hb : w.heap[b]? = some (.cells (madeCells #[.slice none 0 0] n) 29 (0, 0))) {w' : World} (hu : Upto (fun k => k = b) w w') : NumsAt w' (.slice A N c) xs := by
  obtain ⟨A', c', e, hc⟩ := h
  injection e with e1 e2 e3
  subst e1
  refine ⟨A, c, by rw [e2], fun h0 => ?_⟩
  obtain ⟨g, o, e5, hc2⟩ := hc h0
  refine ⟨g, o, e5, fun j x hx => hu.cell (p := ⟨g, o + j, none⟩) (fun e6 => ?_) (hc2 j x hx)⟩
  have h7 := hc2 j x hx
  have e6 : g = b := e6
  subst e6
  unfold World.cell? at h7
  rw [hb] at h7
  have h8 : (madeCells #[.slice none 0 0] n)[o + j]? = some (.int .u32 x) := h7
  rw [← Array.getElem?_toList, toList_madeCells_one] at h8
  have := List.mem_of_getElem? h8
  rw [List.mem_replicate] at this
  exact absurd this.2 (by simp)
/-- The outer loop's round ends. -/
theorem out_next {k a : Int} {L : List Rul} {N lb i lq c7 : Nat} {wc wo w1 wm w7 : World} {vs : List Value} {u0 : Value} {A7 : Option Addr} {nr : Int} {xs : List Value}
    (hu : Upto (fun k => k = lb) wc wo) (hb1 : Below wo.heap.size wo w1) (hm : Upto (fun k => k = lb) w1 wm) (k7 : Below w1.heap.size wm w7) (hlb : lb < wc.heap.size) (hlt : i < N) (hvl : vs.length = N)
    (htb : Tab w7 lb (vs.set i u0)) (hown : w7.ownsRow w1.heap.size 70 4 (.slice A7 (lq + 1) c7) (lq + 1) xs) (hx : (lq + 1, xs) = ((rulesL (nameV nr).1 L).length + 1, rowI (rulesL (nameV nr).1 L) ++ [.int .u16 6, .int .u8 0, .int .u8 0, .int .u32 (valV k a)]))
    (hnr : (numsV L)[i]? = some nr) (hnil : ∀ j, i ≤ j → j < N → vs[j]? = some (.slice none 0 0)) (hrd : ∀ j nr, j < i → (numsV L)[j]? = some nr → ∃ u, vs[j]? = some u ∧ InsRd wo u (bodyL k a L nr) ∧ Off lb u) :
    OutC k a L N lb wc (.int .i64 ((i + 1 : Nat) : Int)) (w7.setCell ⟨lb, i, none⟩ (.slice A7 (lq + 1) c7)) := by
  have U17 : Upto (fun k => k = lb) w1 (w7.setCell ⟨lb, i, none⟩ (.slice A7 (lq + 1) c7)) := (hm.trans (T := fun k => w1.heap.size ≤ k) (below_upto_ge k7) (fun k hk => .inr hk)).setCell (p := ⟨lb, i, none⟩) (.inl rfl) _
  have Uo : Upto (fun k => k = lb) wo (w7.setCell ⟨lb, i, none⟩ (.slice A7 (lq + 1) c7)) := (below_upto hb1).then U17
  injection hx with e1 e2
  have hlen : (bodyL k a L nr).length = lq + 1 := by unfold bodyL; rw [List.length_append, e1]; rfl
  have hrow : rowI (bodyL k a L nr) = xs := by unfold bodyL; rw [rowI_append, e2]; rfl
  have hoff : Off lb (.slice A7 (lq + 1) c7) := own_off htb hown
  refine ⟨i + 1, vs.set i (.slice A7 (lq + 1) c7), by omega, rfl, by rw [List.length_set, hvl], ?_, fun j h1 h2 => ?_, fun j nr' h1 h2 => ?_, hu.then Uo⟩
  · have := htb.set i (.slice A7 (lq + 1) c7)
    rwa [List.set_set] at this
  · rw [List.getElem?_set, if_neg (by omega)]
    exact hnil j (by omega) h2
  · by_cases hj : j = i
    · subst hj
      have e : nr' = nr := by rw [hnr] at h2; injection h2 with h2; exact h2.symm
      subst e
      refine ⟨_, by rw [List.getElem?_set, if_pos rfl, if_pos (by rw [hvl]; exact hlt)], ?_, hoff⟩
      have ho2 := own_set hown (p := ⟨lb, j, none⟩) (own_ne htb hown) (.slice A7 (lq + 1) c7)
      have : InsOwn w1.heap.size (w7.setCell ⟨lb, j, none⟩ (.slice A7 (lq + 1) c7)) (.slice A7 (lq + 1) c7) (bodyL k a L nr') := by
        unfold InsOwn
        rw [hlen, hrow]
        exact ho2
      exact this.rd
    · obtain ⟨u, q1, q2, q3⟩ := hrd j nr' (by omega) h2
      exact ⟨u, by rw [List.getElem?_set, if_neg (by omega)]; exact q1, rd_upto q2 q3 Uo, q3⟩
/-- The leaves can be read. -/
theorem out_lv {k a : Int} {L : List Rul} {N lb : Nat} {wc wr : World} {iv : Value} (h : OutC k a L N lb wc iv wr) (hi : iv = .int .i64 N) (hN : (numsV L).length = N) : LvAt wr (.slice (some ⟨lb, 0, none⟩) N N) (bodiesL k a L) := by
  obtain ⟨i, vs, h1, h2, h3, h4, h5, h6, h7⟩ := h
  subst hi
  have e : i = N := by injection h2 with _ h2; omega
  subst e
  have hbl : (bodiesL k a L).length = i := by unfold bodiesL; rw [List.length_map, hN]
  refine ⟨some ⟨lb, 0, none⟩, i, by rw [hbl], fun j b hb => ?_⟩
  unfold bodiesL at hb
  rw [List.getElem?_map, Option.map_eq_some_iff] at hb
  obtain ⟨nr, hnr, rfl⟩ := hb
  have hj : j < i := by rw [← hN]; exact (List.getElem?_eq_some_iff.1 hnr).1
  obtain ⟨u, q1, q2, q3⟩ := h6 j nr hj hnr
  exact ⟨lb, 0, u, rfl, by rw [Nat.zero_add, h4.cell]; exact q1, q2⟩
end Go.Proofs.Ytjmmbadpknlmcaa
