/- Ended. Condition: the table can be read. -/
import Derived.Test.YtfknkkcpieaikaaSend
import Derived.StillTailTactics
namespace Go.Proofs.Ytfknkkcpieaikaa
open Go.RowKit
set_option linter.unusedVariables false
set_option linter.unusedSimpArgs false

def rmT (T : Tb) (id : Int) : Tb := { T with L := T.L.filter (fun x => !(x.id == id)) }
def endedT (T : Tb) (n : Int) : Ent × Bool × Tb :=
  match ofL T.L n with
  | none => (Ent.nil, false, T)
  | some x => if x.waits then (Ent.nil, false, T) else (x, true, rmT T x.id)
theorem rm_mem {L : List Ent} {id : Int} {x : Ent} : x ∈ L.filter (fun x => !(x.id == id)) ↔ x ∈ L ∧ x.id ≠ id := by simp
theorem getL_rm (L : List Ent) (id k : Int) : getL (L.filter (fun x => !(x.id == id))) k = if k = id then none else getL L k := by
  unfold getL
  by_cases e : k = id
  · subst e
    rw [if_pos rfl, List.find?_eq_none]
    intro x hx
    simpa using (rm_mem.1 hx).2
  · rw [if_neg e, List.find?_filter]
    congr 1
    funext x
    by_cases h : x.id = k
    · simp [h, e]
    · simp [h]
theorem rm_len {L : List Ent} (hr : L.Pairwise (fun x y => x.id < y.id)) {y : Ent} (hy : y ∈ L) : (L.filter (fun x => !(x.id == y.id))).length = L.length - 1 := by
  induction L with
  | nil => simp at hy
  | cons a r ih =>
    rw [List.pairwise_cons] at hr
    rcases List.mem_cons.1 hy with rfl | hy
    · rw [List.filter_cons_of_neg (by simp)]
      have : r.filter (fun x => !(x.id == y.id)) = r := List.filter_eq_self.2 (fun x hx => by have := hr.1 x hx; simp; omega)
      rw [this]; simp
    · have h1 := hr.1 y hy
      rw [List.filter_cons_of_pos (by simp; omega)]
      have : 0 < r.length := List.length_pos_of_mem hy
      simp [ih hr.2 hy]
      omega
theorem Fine.rm {T : Tb} (h : Fine T) (id : Int) : Fine (rmT T id) := by
  have hm : ∀ x ∈ (rmT T id).L, x ∈ T.L := fun x hx => (rm_mem.1 hx).1
  have hs : (rmT T id).L.Sublist T.L := List.filter_sublist
  refine ⟨h.s1, h.s2, h.w1, h.w2, h.n1, h.n2, h.e1, h.e2, ?_, h.rise.sublist hs, h.tasks.sublist hs, fun x hx => h.ids x (hm x hx), fun x hx => h.tsk x (hm x hx), fun x hx => h.wait x (hm x hx), fun x hx => h.done x (hm x hx), fun x hx => h.st x (hm x hx)⟩
  have h1 := h.len
  have h2 := hs.length_le
  show ((rmT T id).L.length : Int) ≤ T.size
  omega
theorem TabAt.rm {w w' : World} {b B : Nat} {P : Int → Nat} {T : Tb} (h : TabAt w b B P T) {x : Ent} (hx : x ∈ T.L) (hm : MapIs w' B (if (ptrF P T.L x.id).isSome then T.L.length - 1 else T.L.length) (del (ptrF P T.L) x.id)) (hu : Upto (fun k => k = B) w w') : TabAt w' b B P (rmT T x.id) := by
  have hsub : ∀ y ∈ (rmT T x.id).L, y ∈ T.L := fun y hy => (rm_mem.1 hy).1
  refine ⟨h.q.upto hu h.ne, ?_, fun y hy => (h.e y (hsub y hy)).upto hu (h.nb y (hsub y hy)).2, h.ne, fun y hy => h.nb y (hsub y hy), fun y hy z hz => h.inj y (hsub y hy) z (hsub z hz), h.f.rm _⟩
  have e1 : (ptrF P T.L x.id).isSome = true := by unfold ptrF; rw [getL_of h.f.rise hx]; rfl
  rw [e1, if_pos rfl] at hm
  have e2 : ptrF P (rmT T x.id).L = del (ptrF P T.L) x.id := by
    funext k
    unfold ptrF del
    show Option.map _ (getL (T.L.filter _) k) = _
    rw [getL_rm]
    by_cases e : k = x.id <;> simp [e]
  have e3 : (rmT T x.id).L.length = T.L.length - 1 := rm_len h.f.rise hx
  rw [e2, e3]
  exact hm
set_option maxRecDepth 100000 in
set_option maxHeartbeats 4000000 in
theorem ended_any (b B : Nat) (P : Int → Nat) (T : Tb) (n : Int) (w : World) (h : TabAt w b B P T) : Calls Try.prog 12 #[.pointer (some ⟨b, 0, none⟩), .int .i64 n] w (TPost b B P T.L (endedT T n).2.2 (.tuple #[entV (endedT T n).1, .bool (endedT T n).2.1]) w) := by
  have hw0 := below_alloc w Z6
  have O := of_any b B P T n (w.alloc Z6) (h.below hw0)
  have H := Lib.hid h
  have HZ : Hid ((w.alloc Z6).heap[w.heap.size]? = some Z6) := Lib.hid (World.alloc_heap_new w _)
  have Hw0 := Lib.hid hw0
  unfold endedT
  cases hof : ofL T.L n with
  | none =>
    rw [hof] at O
    have O2 : Calls Try.prog 25 #[.pointer (some ⟨b, 0, none⟩), .int .i64 n] (w.alloc Z6) (fun e w' => e = .returned (.pointer none) ∧ Below (w.alloc Z6).heap.size (w.alloc Z6) w') := O
    have HO := Lib.hid O2
    clear O O2 h hof hw0
    go_enter Try.func12, Try.ntmps12
    go_wp2_with (go_at_call 25; (with_reducible refine HO.out.mono ?_); rintro e_ w1 ⟨rfl, hb⟩; have hZ1 : w1.heap[w.heap.size]? = some Z6 := (hb.block _ (by simp)).trans HZ.out; have t0 := six_cell hZ1 0 _ rfl; have t1 := six_cell hZ1 1 _ rfl; have t2 := six_cell hZ1 2 _ rfl; have t3 := six_cell hZ1 3 _ rfl; have t4 := six_cell hZ1 4 _ rfl; have t5 := six_cell hZ1 5 _ rfl; have tf := fun o => six_fz hZ1 o; have HZ1 := Lib.hid hZ1; have Hb := Lib.hid hb; clear hZ1 hb)
    have hs := six_done HZ1.out Ent.nil
    have hu := six_upto w1 w.heap.size (.int .u64 0) (.int .i64 0) (.int .i64 0) (.int .i64 0) (.int .i64 0) (.int .i64 0)
    have hb := Below.trans Hw0.out (Hb.out.mono Hw0.out.size)
    exact bodyPost_ret (res_six rfl _ _ w.heap.size Ent.nil hs rfl) rfl ⟨rfl, P, (H.out.below hb).upto hu (fun k hk => by have := H.out.lt hk; omega), (below_upto hb).trans hu (fun k hk => .inr (by rw [hk]; exact Nat.le_refl _)), fun x hx => .inl (.inr (.inr ⟨x, hx, rfl⟩))⟩
  | some x =>
    obtain ⟨hx, hxn⟩ := ofL_mem hof
    rw [hof] at O
    have O2 : Calls Try.prog 25 #[.pointer (some ⟨b, 0, none⟩), .int .i64 n] (w.alloc Z6) (fun e w' => e = .returned (.pointer (some ⟨P x.id, 0, none⟩)) ∧ Below (w.alloc Z6).heap.size (w.alloc Z6) w') := O
    obtain ⟨p, hp⟩ : ∃ p, P x.id = p := ⟨_, rfl⟩
    have hE := h.e x hx
    rw [hp] at O2 hE
    have hpw : p < w.heap.size := hE.lt
    have HE := Lib.hid hE
    have HO := Lib.hid O2
    have Hx := Lib.hid hx
    have Hp := Lib.hid hp
    obtain ⟨t, ht⟩ : ∃ t, x.waits = t := ⟨_, rfl⟩
    have Ht := Lib.hid ht
    simp only [ht]
    clear O O2 h hof hw0 hE hx hxn hp ht
    cases t with
    | true =>
      go_enter Try.func12, Try.ntmps12
      go_wp2_with (first
        | (go_at_call 25; (with_reducible refine HO.out.mono ?_); rintro e_ w1 ⟨rfl, hb⟩; have hb0 : Below w.heap.size w w1 := Below.trans Hw0.out (hb.mono Hw0.out.size); have W1 := waits_any p x w1 (HE.out.below hb0); rw [Ht.out] at W1; have hZ1 : w1.heap[w.heap.size]? = some Z6 := (hb.block _ (by simp)).trans HZ.out; have t0 := six_cell hZ1 0 _ rfl; have t1 := six_cell hZ1 1 _ rfl; have t2 := six_cell hZ1 2 _ rfl; have t3 := six_cell hZ1 3 _ rfl; have t4 := six_cell hZ1 4 _ rfl; have t5 := six_cell hZ1 5 _ rfl; have tf := fun o => six_fz hZ1 o; have HZ1 := Lib.hid hZ1; have Hb := Lib.hid hb0; clear hZ1 hb hb0)
        | (go_at_call 26; (with_reducible refine W1.mono ?_); rintro e_ w2 ⟨rfl, rfl⟩))
      have hs := six_done HZ1.out Ent.nil
      have hu := six_upto w1 w.heap.size (.int .u64 0) (.int .i64 0) (.int .i64 0) (.int .i64 0) (.int .i64 0) (.int .i64 0)
      exact bodyPost_ret (res_six rfl _ _ w.heap.size Ent.nil hs rfl) rfl ⟨rfl, P, (H.out.below Hb.out).upto hu (fun k hk => by have := H.out.lt hk; omega), (below_upto Hb.out).trans hu (fun k hk => .inr (by rw [hk]; exact Nat.le_refl _)), fun x hx => .inl (.inr (.inr ⟨x, hx, rfl⟩))⟩
    | false =>
      go_enter Try.func12, Try.ntmps12
      go_upto_region 4 with (first
        | (go_at_call 25; (with_reducible refine HO.out.mono ?_); rintro e_ w1 ⟨rfl, hb⟩; have hb0 : Below w.heap.size w w1 := Below.trans Hw0.out (hb.mono Hw0.out.size); have W1 := waits_any p x w1 (HE.out.below hb0); rw [Ht.out] at W1; have hZ1 : w1.heap[w.heap.size]? = some Z6 := (hb.block _ (by simp)).trans HZ.out; have HZ1 := Lib.hid hZ1; have Hb := Lib.hid hb0; clear hZ1 hb hb0)
        | (go_at_call 26; (with_reducible refine W1.mono ?_); rintro e_ w2 ⟨rfl, rfl⟩))
      have hT1 := H.out.below Hb.out
      have c4 := hT1.q.c4
      have hE1 := HE.out.below Hb.out
      have c0 := hE1.c0
      have HT1 := Lib.hid hT1
      clear hT1 hE1 W1
      go_still_tail 8, (by kernel_rfl)
      change wpList _ _ _ _ _ w1.drew
      obtain ⟨W2, hW2⟩ : ∃ W, w1.drew = W := ⟨_, rfl⟩
      have u2 : Upto (fun _ => False) w1 w1.drew := (Upto.refl _ w1).drew
      rw [hW2] at u2 ⊢
      have hT2 := HT1.out.upto u2 (fun _ _ h => h)
      have hidr := hT2.f.ids x Hx.out
      have hn2 := hT2.f.n2
      obtain ⟨w3, hrun, hm3, hu3, hs3⟩ := hT2.m.drop (U64.of hidr.1 (by omega)) 0
      have hT3 := hT2.rm Hx.out hm3 hu3
      have hE3 : EntAt w3 p x := by
        have h1 := (hT2.e x Hx.out).upto hu3 (hT2.nb x Hx.out).2
        rwa [Hp.out] at h1
      have hZ3 : w3.heap[w.heap.size]? = some Z6 := by
        have h1 : W2.heap[w.heap.size]? = some Z6 := by rw [← hW2]; exact HZ1.out
        exact (hu3.block w.heap.size (Array.getElem?_eq_some_iff.1 h1).1 (by have := H.out.lt (.inr (.inl rfl)); show ¬ w.heap.size = B; omega)).trans h1
      have HU3 : Hid (Upto (Own b B P T.L) w w3) := Lib.hid ((((below_upto Hb.out).then (u2.mono (fun _ h => h.elim)))).then (hu3.mono (fun k hk => .inl (.inr (.inl hk)))))
      have d0 := hE3.c0
      have d1 := hE3.c1
      have d2 := hE3.c2
      have d3 := hE3.c3
      have d4 := hE3.c4
      have d5 := hE3.c5
      have t0 := six_cell hZ3 0 _ rfl
      have t1 := six_cell hZ3 1 _ rfl
      have t2 := six_cell hZ3 2 _ rfl
      have t3 := six_cell hZ3 3 _ rfl
      have t4 := six_cell hZ3 4 _ rfl
      have t5 := six_cell hZ3 5 _ rfl
      have tf := fun o => six_fz hZ3 o
      have HZ3 := Lib.hid hZ3
      have HT3 := Lib.hid hT3
      clear hT2 hidr hn2 hm3 hu3 hs3 hT3 hE3 hZ3 hW2 u2 c4 c0
      go_wp2
      have hs := six_done HZ3.out x
      have hu := six_upto w3 w.heap.size (.int .u64 x.id) (.int .i64 x.task) (.int .i64 x.st) (.int .i64 x.left) (.int .i64 x.kind) (.int .i64 x.val)
      have hsub : ∀ k, Own b B P (rmT T x.id).L k → Own b B P T.L k := fun k hk => by
        rcases hk with hk | hk | ⟨y, hy, hk⟩
        · exact .inl hk
        · exact .inr (.inl hk)
        · exact .inr (.inr ⟨y, (rm_mem.1 hy).1, hk⟩)
      exact bodyPost_ret (res_six rfl _ _ w.heap.size x hs rfl) rfl ⟨rfl, P, HT3.out.upto hu (fun k hk => by have := H.out.lt (hsub k hk); omega), HU3.out.trans hu (fun k hk => .inr (by rw [hk]; exact Nat.le_refl _)), fun y hy => .inl (hsub _ (.inr (.inr ⟨y, hy, rfl⟩)))⟩
end Go.Proofs.Ytfknkkcpieaikaa
