/- Send. Condition: the table can be read. -/
import Derived.Test.YtfknkkcpieaikaaDrop
import Derived.BigQuiet
import Derived.Outline
namespace Go.Proofs.Ytfknkkcpieaikaa
open Go.RowKit
set_option linter.unusedVariables false
set_option linter.unusedSimpArgs false

theorem idsL_none {L : List Ent} {p : Ent → Bool} (h : L.find? p = none) : idsL L p = [] := by
  unfold idsL
  have : L.filter p = [] := by
    rw [← List.head?_filter] at h
    exact List.head?_eq_none_iff.1 h
  rw [this]; rfl
theorem idsL_some {L : List Ent} {p : Ent → Bool} {x : Ent} (h : L.find? p = some x) : ∃ r, idsL L p = x.id :: r := by
  unfold idsL
  rw [← List.head?_filter] at h
  cases hf : L.filter p with
  | nil => rw [hf] at h; cases h
  | cons a r => rw [hf] at h; cases h; exact ⟨_, rfl⟩
def Ent.sent (x : Ent) : Ent := { x with st := 2 }
theorem sent_keeps : Keeps Ent.sent := fun x => ⟨rfl, rfl⟩
def sendT (T : Tb) : Ent × Bool × Tb :=
  match T.L.find? isInit with
  | none => (Ent.nil, false, T)
  | some x => (x.sent, true, mapT T (one x.id Ent.sent))
/-- The new block q, six cells wide, is written. -/
theorem six_upto (w : World) (q : Nat) (v0 v1 v2 v3 v4 v5 : Value) : Upto (fun k => k = q) w ((((((w.setCell ⟨q, 0, none⟩ v0).setCell ⟨q, 1, none⟩ v1).setCell ⟨q, 2, none⟩ v2).setCell ⟨q, 3, none⟩ v3).setCell ⟨q, 4, none⟩ v4).setCell ⟨q, 5, none⟩ v5) :=
  (((((set_upto w q 0 v0).then (set_upto _ q 1 v1)).then (set_upto _ q 2 v2)).then (set_upto _ q 3 v3)).then (set_upto _ q 4 v4)).then (set_upto _ q 5 v5)
theorem six_cell {w : World} {q : Nat} {cs : Array Value} {t : TypeId} (h : w.heap[q]? = some (.cells cs t (0, 0))) (j : Nat) (v : Value) (hv : cs[j]? = some v) : w.cell? ⟨q, j, none⟩ = some v := by
  unfold World.cell?
  rw [h]
  exact hv
theorem six_fz {w : World} {q : Nat} {cs : Array Value} {t : TypeId} (h : w.heap[q]? = some (.cells cs t (0, 0))) (o : Nat) : w.frozen? ⟨q, o, none⟩ = false := by simp [World.frozen?, h]
abbrev six (w : World) (q : Nat) (x : Ent) : World := (((((w.setCell ⟨q, 0, none⟩ (.int .u64 x.id)).setCell ⟨q, 1, none⟩ (.int .i64 x.task)).setCell ⟨q, 2, none⟩ (.int .i64 x.st)).setCell ⟨q, 3, none⟩ (.int .i64 x.left)).setCell ⟨q, 4, none⟩ (.int .i64 x.kind)).setCell ⟨q, 5, none⟩ (.int .i64 x.val)
theorem six_done {w : World} {q : Nat} {z0 z1 z2 z3 z4 z5 : Value} (h : w.heap[q]? = some (.cells #[z0, z1, z2, z3, z4, z5] 37 (0, 0))) (x : Ent) : EntAt (six w q x) q x :=
  cells_set (cells_set (cells_set (cells_set (cells_set (cells_set h _) _) _) _) _) _
theorem res_six {fn : Func} {p u : Tmp} (hres : fn.results = #[.cell p 37, .tmp u]) (tmps : Array Value) (W : World) (q : Nat) (x : Ent) (hE : EntAt W q x) (hp : tmps.getD p undef = .pointer (some ⟨q, 0, none⟩)) :
    (results fn tmps).run Try.prog W = .ok (.tuple #[entV x, tmps.getD u undef]) W := by
  have d0 := hE.c0
  have d1 := hE.c1
  have d2 := hE.c2
  have d3 := hE.c3
  have d4 := hE.c4
  have d5 := hE.c5
  rw [results_cell_tmp hres, hp]
  unfold entV Ent.cells
  go_simp
theorem drewN_upto (S : Nat → Prop) (w : World) (q : Nat) : Upto S w (w.drewN q) := ⟨rfl, rfl, rfl, Nat.le_refl _, fun _ _ _ => rfl⟩
abbrev Z6 : Obj := .cells #[.int .u64 0, .int .i64 0, .int .i64 0, .int .i64 0, .int .i64 0, .int .i64 0] 37
set_option maxRecDepth 100000 in
set_option maxHeartbeats 4000000 in
theorem send_any (b B : Nat) (P : Int → Nat) (T : Tb) (w : World) (h : TabAt w b B P T) : Calls Try.prog 22 #[.pointer (some ⟨b, 0, none⟩)] w (TPost b B P T.L (sendT T).2.2 (.tuple #[entV (sendT T).1, .bool (sendT T).2.1]) w) := by
  have hw0 := below_alloc w Z6
  have I := ids_init b B P T (w.alloc Z6) (h.below hw0)
  have H := Lib.hid h
  have r0 := new_cell w #[.int .u64 0, .int .i64 0, .int .i64 0, .int .i64 0, .int .i64 0, .int .i64 0] 37 0 rfl
  have r1 := new_cell w #[.int .u64 0, .int .i64 0, .int .i64 0, .int .i64 0, .int .i64 0, .int .i64 0] 37 1 rfl
  have r2 := new_cell w #[.int .u64 0, .int .i64 0, .int .i64 0, .int .i64 0, .int .i64 0, .int .i64 0] 37 2 rfl
  have r3 := new_cell w #[.int .u64 0, .int .i64 0, .int .i64 0, .int .i64 0, .int .i64 0, .int .i64 0] 37 3 rfl
  have r4 := new_cell w #[.int .u64 0, .int .i64 0, .int .i64 0, .int .i64 0, .int .i64 0, .int .i64 0] 37 4 rfl
  have r5 := new_cell w #[.int .u64 0, .int .i64 0, .int .i64 0, .int .i64 0, .int .i64 0, .int .i64 0] 37 5 rfl
  have hZ : (w.alloc Z6).heap[w.heap.size]? = some Z6 := World.alloc_heap_new w _
  have hlen8 : T.L.length ≤ 8 := by have := h.f.len; have := h.f.s2; omega
  have hlk : (idsL T.L isInit).length ≤ 8 := by unfold idsL; rw [List.length_map]; exact Nat.le_trans (List.length_filter_le _ _) hlen8
  unfold sendT
  cases hf : T.L.find? isInit with
  | none =>
    rw [idsL_none hf] at I
    have HI := Lib.hid I
    have HZ := Lib.hid hZ
    have Hw0 := Lib.hid hw0
    clear h I hf hlk hZ hw0 r0 r1 r2 r3 r4 r5
    go_enter Try.func22, Try.ntmps22
    go_wp2_with (go_at_call 27; (with_reducible refine HI.out.mono ?_); rintro e_ w1 ⟨A, c, rfl, hn, hfr, hb⟩; have hZ1 : w1.heap[w.heap.size]? = some Z6 := (hb.block _ (by simp)).trans HZ.out; have t0 := six_cell hZ1 0 _ rfl; have t1 := six_cell hZ1 1 _ rfl; have t2 := six_cell hZ1 2 _ rfl; have t3 := six_cell hZ1 3 _ rfl; have t4 := six_cell hZ1 4 _ rfl; have t5 := six_cell hZ1 5 _ rfl; have tf := fun o => six_fz hZ1 o; have HZ1 := Lib.hid hZ1; have Hb := Lib.hid hb; clear hn hfr hZ1 hb)
    have hs := six_done HZ1.out Ent.nil
    have hu := six_upto w1 w.heap.size (.int .u64 0) (.int .i64 0) (.int .i64 0) (.int .i64 0) (.int .i64 0) (.int .i64 0)
    have hb := Below.trans Hw0.out (Hb.out.mono Hw0.out.size)
    refine bodyPost_ret (res_six rfl _ _ w.heap.size Ent.nil hs rfl) rfl ⟨rfl, P, (H.out.below hb).upto hu (fun k hk => by have := H.out.lt hk; omega), (below_upto hb).trans hu (fun k hk => .inr (by rw [hk]; exact Nat.le_refl _)), fun x hx => .inl (.inr (.inr ⟨x, hx, rfl⟩))⟩
  | some x =>
    have hx := List.mem_of_find?_eq_some hf
    have hst : x.st = 1 := by have := List.find?_some hf; simpa [isInit] using this
    obtain ⟨rr, hrr⟩ := idsL_some hf
    have hpw : P x.id < w.heap.size := (h.e x hx).lt
    have hidr := h.f.ids x hx
    have hn2 := h.f.n2
    have hU64 : U64 x.id := U64.of hidr.1 (by omega)
    have hget := getL_of h.f.rise hx
    have hl1 : 0 < (idsL T.L isInit).length := by rw [hrr]; simp
    have Hhead : Hid ((idsL T.L isInit)[0]? = some x.id) := Lib.hid (by rw [hrr]; rfl)
    obtain ⟨ks, hks⟩ : ∃ ks, idsL T.L isInit = ks := ⟨_, rfl⟩
    rw [hks] at I hl1 Hhead hlk
    obtain ⟨n, hnl⟩ : ∃ n, ks.length = n := ⟨_, rfl⟩
    have I2 : Calls Try.prog 27 #[.pointer (some ⟨b, 0, none⟩), .func (.func 39) #[] #[]] (w.alloc Z6) (fun e w1 => ∃ g o c, e = .returned (.slice (some ⟨g, o, none⟩) n c) ∧ w1.cell? ⟨g, o, none⟩ = some (.int .u64 x.id) ∧ Below (w.alloc Z6).heap.size (w.alloc Z6) w1) := I.mono (fun e w1 ⟨A, c, he, hn, _, hb⟩ => by
      rw [hnl] at he hn
      obtain ⟨g, o, rfl, hc⟩ := hn.at' (by omega)
      exact ⟨g, o, c, he, hc 0 _ Hhead.out, hb⟩)
    rw [hnl] at hl1 hlk
    have HI := Lib.hid I2
    have HZ := Lib.hid hZ
    have Hw0 := Lib.hid hw0
    have HX := Lib.hid (show x ∈ T.L ∧ x.st = 1 ∧ U64 x.id ∧ getL T.L x.id = some x from ⟨hx, hst, hU64, hget⟩)
    obtain ⟨p, hp⟩ : ∃ p, P x.id = p := ⟨_, rfl⟩
    have Hp := Lib.hid hp
    rw [hp] at hpw
    have hn1 : (0 : Int) < n := by omega
    have hnE : ((n : Int) == 0) = false := by simp; omega
    obtain ⟨xi, hxi⟩ : ∃ i, x.id = i := ⟨_, rfl⟩
    have Hxi := Lib.hid hxi
    rw [hxi] at HI
    clear h I I2 hf hZ hw0 r0 r1 r2 r3 r4 r5 hx hst hrr hidr hn2 hU64 hget hks hnl hp hxi
    go_enter Try.func22, Try.ntmps22
    go_wp2_with (go_at_call 27; (with_reducible refine HI.out.mono ?_); rintro e_ w1 ⟨g, o, c, rfl, hc, hb⟩; have hb0 : Below w.heap.size w w1 := Below.trans Hw0.out (hb.mono Hw0.out.size); have hZ1 : w1.heap[w.heap.size]? = some Z6 := (hb.block _ (by simp)).trans HZ.out; have hT1 := H.out.below hb0; have c4 := hT1.q.c4; have HZ1 := Lib.hid hZ1; have Hb := Lib.hid hb0; have HT1 := Lib.hid hT1; clear hZ1 hb hb0 hT1)
    have hlook : ∀ q, (Instr.lookup 60 (.map (some B)) (.int .u64 xi) false).run Try.prog (w1.drewN q) = .ok (.pointer (some ⟨p, 0, none⟩)) (w1.drewN q) := fun q => by
      have := (HT1.out.upto (drewN_upto (fun _ => False) w1 q) (fun _ _ h => h)).look HX.out.2.2.1
      rw [HX.out.2.2.2] at this
      rw [← Hxi.out, ← Hp.out]
      exact this
    go_quiet (fail)
    obtain ⟨W2, hW2⟩ : ∃ W, w1.drewN nq = W := ⟨_, rfl⟩
    have u2 := drewN_upto (fun _ => False) w1 nq
    rw [hW2] at u2 ⊢
    have hx := HX.out.1
    have hT2 := HT1.out.upto u2 (fun _ _ h => h)
    have hE2 := hT2.e x hx
    rw [Hp.out] at hE2
    have d2 := hE2.c2
    have z2 := hE2.fz 2
    have HE2 := Lib.hid hE2
    have HT2 := Lib.hid hT2
    have HZ2 : Hid (W2.heap[w.heap.size]? = some Z6) := Lib.hid (by rw [← hW2]; exact HZ1.out)
    have HU2 : Hid (Upto (fun _ => False) w W2) := Lib.hid ((below_upto Hb.out).then u2)
    clear u2 hT2 hE2 hW2 hlook hc hx
    go_upto_region 6 with fail
    have hu3 := set_upto W2 p 2 (.int .i64 2)
    have hE3 : EntAt (W2.setCell ⟨p, 2, none⟩ (.int .i64 2)) p x.sent := cells_set HE2.out _
    have hZ3 := (hu3.block w.heap.size (Array.getElem?_eq_some_iff.1 HZ2.out).1 (by show ¬ w.heap.size = p; omega)).trans HZ2.out
    obtain ⟨W3, hW3⟩ : ∃ W, W2.setCell ⟨p, 2, none⟩ (.int .i64 2) = W := ⟨_, rfl⟩
    rw [hW3] at hu3 hE3 hZ3 ⊢
    have d0 := hE3.c0
    have e1 := hE3.c1
    have e2 := hE3.c2
    have e3 := hE3.c3
    have e4 := hE3.c4
    have e5 := hE3.c5
    have t0 := six_cell hZ3 0 _ rfl
    have t1 := six_cell hZ3 1 _ rfl
    have t2 := six_cell hZ3 2 _ rfl
    have t3 := six_cell hZ3 3 _ rfl
    have t4 := six_cell hZ3 4 _ rfl
    have t5 := six_cell hZ3 5 _ rfl
    have tf := fun o => six_fz hZ3 o
    have HZ3 := Lib.hid hZ3
    have HE3 := Lib.hid hE3
    have Hu3 := Lib.hid hu3
    clear hZ3 hE3 hu3 hW3 d2 z2 c4
    go_wp2
    have hs := six_done HZ3.out x.sent
    have hu6 := six_upto W3 w.heap.size (.int .u64 x.sent.id) (.int .i64 x.sent.task) (.int .i64 x.sent.st) (.int .i64 x.sent.left) (.int .i64 x.sent.kind) (.int .i64 x.sent.val)
    have ep := Hp.out
    subst ep
    have hx := HX.out.1
    have hwt : x.waits = true := by unfold Ent.waits; rw [HX.out.2.1]; rfl
    have hfe : EFine T.wait x.sent := ⟨fun _ => H.out.f.wait x hx hwt, fun h => by simp [Ent.sent, Ent.waits] at h, by show (1 : Int) ≤ 2; decide, by show (2 : Int) ≤ 4; decide⟩
    have hT3 := HT2.out.one hx sent_keeps hfe Hu3.out HE3.out
    have hU3 : Upto (Own b B P T.L) w W3 := (HU2.out.mono (fun _ h => h.elim)).then (upto_own hx Hu3.out)
    refine bodyPost_ret (res_six rfl _ _ w.heap.size x.sent hs rfl) rfl ⟨rfl, P, hT3.upto hu6 (fun k hk => ?_), hU3.trans hu6 (fun k hk => .inr (by rw [hk]; exact Nat.le_refl _)), fun y hy => .inl (own_map (one_keeps sent_keeps) hy)⟩
    intro e
    have : k < w.heap.size := by
      rcases hk with hk | hk | ⟨y, hy, hk⟩
      · rw [hk]; exact H.out.lt (.inl rfl)
      · rw [hk]; exact H.out.lt (.inr (.inl rfl))
      · rw [hk]; exact H.out.lt (own_map (one_keeps sent_keeps) hy)
    omega
end Go.Proofs.Ytfknkkcpieaikaa
