/- Resolve: where a path leads. Conditions: the nodes can be read; their strings are no longer than strings can be. -/
import Derived.Test.YtnjpodbefcfdhaaDoorRefWalk
import Derived.ControlIn
import Derived.ScopeJumps
import Derived.WalkMore
namespace Go.Proofs.YtnjpodbefcfdhaaDoor
open Go.RowKit Go.Shelf
attribute [local go_sem] Oper.semAt_some
attribute [local go_sem ↓] Go.wp_at_zero Go.wp_at_succ
set_option linter.unusedVariables false
set_option linter.unusedSimpArgs false

/-- A scope in which the run jumps back to one label: the passes first, then the way to the label, which may take a pass for granted. -/
theorem wp_scope_enter {P : Program} {a : Act} {w : World} {Q : Exit → Act → World → Prop} {c rest : Code} (l : Nat) (J : Act → World → Prop) (μ : Act → World → Nat) (hf : findLabel c l = some (Code.skip.seq rest))
    (pass : ∀ a w, J a w → rest.wp P (Exit.jump l (fun a' w' => J a' w' ∧ μ a' w' < μ a w) Q) a w)
    (first : (∀ a w, J a w → rest.wp P (Exit.jump l J Q) a w) → c.wp P (Exit.jump l J Q) a w) : (Code.scope c).wp P Q a w := by
  refine wp_scope_jumps l J μ hf (first fun a w hJ => ?_) fun a w hJ => ?_
  · refine wp_mono (pass a w hJ) fun e a' w' h => ?_
    cases e with
    | goto l' => exact ⟨h.1, h.2.1⟩
    | _ => exact h
  · apply wp_seq_k
    intro K hK
    apply wp_skip
    exact hK _ _ (pass a w hJ)
def unS (pre : List ByteArray) : List (List UInt8) := pre.map (·.data.toList)
theorem unS_snoc (pre : List ByteArray) (x : ByteArray) : rowP (unS (pre ++ [x])) = rowP (unS pre) ++ [.string x] := by simp [rowP, unS, strL_of]
theorem unS_len (pre : List ByteArray) : (unS pre).length = pre.length := by simp [unS]
theorem unS_names (s : ByteArray) : unS (namesS s) = namesL s.data.toList := by
  unfold unS namesS
  rw [List.map_map]
  exact List.map_id'' (fun n => strL_data n) _

theorem cell_one_at (w : World) (o : Obj) (x : Value) (t : TypeId) : ∀ j u, [x][j]? = some u → ((w.alloc o).alloc (.cells #[x] t)).cell? ((⟨w.heap.size + 1, 0, none⟩ : Addr).add j) = some u := by
  have h := cell_one_new (w.alloc o) x t
  rw [show (w.alloc o).heap.size = w.heap.size + 1 by simp] at h
  exact h
/-- What may be appended: nothing, or cells that are there. -/
def SrcAt (w : World) (size : Nat) (A : Option Addr) (m : Nat) (news : List Value) : Prop :=
  news.length = m * size ∧ (0 < m → ∃ g o, A = some ⟨g, o, none⟩ ∧ ∀ (j : Nat) u, news[j]? = some u → w.cell? ⟨g, o + j, none⟩ = some u) ∧ ∀ u ∈ news, u.oneCell' = true
theorem src_drop {w : World} {b o nn cn k : Nat} {ns : List (List UInt8)} (h : StrsAt w (.slice (some ⟨b, o, none⟩) nn cn) ns) (hn : ns.length = nn) : SrcAt w 1 (if cn = k + 1 then some ⟨b, o, none⟩ else some ⟨b, o + (k + 1), none⟩) (nn - (k + 1)) (rowP (ns.drop (k + 1))) := by
  obtain ⟨A, c, h1, h2, h3⟩ := h
  cases h1
  refine ⟨by rw [rowP_len, List.length_drop, hn, Nat.mul_one], fun h0 => ?_, rowP_one⟩
  obtain ⟨b', o', e, hlt, hc⟩ := h3 (by omega)
  cases e
  refine ⟨b, o + (k + 1), by rw [if_neg (by omega)], fun j u hj => ?_⟩
  unfold rowP at hj
  rw [List.getElem?_map, Option.map_eq_some_iff] at hj
  obtain ⟨x, hx, rfl⟩ := hj
  rw [List.getElem?_drop] at hx
  rw [show o + (k + 1) + j = o + (k + 1 + j) by omega]
  exact hc _ x hx
section
variable {P : Program} (w : World)
theorem run_append_src (base : Nat) (t ty e : TypeId) (i : TypeInfo) (z : Value) (size bytes : Nat) (ht : P.underlying t = some (.slice e)) (hi : P.info? e = some i) (hz : i.zero = some z)
    (hsize : i.size = size) (hby : i.bytes = bytes) (hzs : z.cells.size = size) (hsz : 0 < size)
    (v : Value) (n : Nat) (xs : List Value) (hown : w.ownsRow base e size v n xs) (A : Option Addr) (m c : Nat) (news : List Value) (hS : SrcAt w size A m news)
    (h63 : n + m ≤ maxLen) (hbytes : (n + m) * bytes ≤ 140737488355328) (hbase : base ≤ w.heap.size) :
    ∃ v' w', (Builtin.append_ #[t, t] ty #[v, .slice A m c]).run P w = .ok v' w' ∧ w'.ownsRow base e size v' (n + m) (xs ++ news) ∧ w.grownBy w' v.ownBlock ∧ (v'.ownBlock = v.ownBlock ∨ v'.ownBlock = some w.heap.size) := by
  obtain ⟨hl, hs, h1⟩ := hS
  cases A with
  | some ad =>
    have hc : ∀ j u, news[j]? = some u → w.cell? (ad.add j) = some u := by
      intro j u hu
      have hm : 0 < m := by
        rcases Nat.eq_zero_or_pos m with rfl | h
        · have : news = [] := List.eq_nil_of_length_eq_zero (by simpa using hl)
          subst this; simp at hu
        · exact h
      obtain ⟨g, o, e, hc⟩ := hs hm
      injection e with e
      subst e
      rw [addr_add']
      exact hc j u hu
    obtain ⟨v', w', a, b, c', _, d⟩ := run_append_own_at (P := P) w base t ty e i z size bytes ht hi hz hsize hby hzs hsz v n xs hown ad m c news hl hc h1 h63 hbytes hbase
    exact ⟨v', w', a, b, c', d⟩
  | none =>
    have hm : m = 0 := by
      rcases Nat.eq_zero_or_pos m with h | h
      · exact h
      · obtain ⟨g, o, e, _⟩ := hs h
        cases e
    subst hm
    have : news = [] := List.eq_nil_of_length_eq_zero (by simpa using hl)
    subst this
    refine ⟨v, w, ?_, by simpa using hown, World.grownBy.refl w _, .inl rfl⟩
    rcases hown.2 with ⟨rfl, rfl⟩ | ⟨g, cap, cur, rfl, _, _, hnc, _⟩
    · simp [Builtin.append_, run_underlying ht, sizeOf, typeInfo, hi, Builtin.lenOf, Builtin.firstCells]
    · simp [Builtin.append_, run_underlying ht, sizeOf, typeInfo, hi, Builtin.lenOf, Builtin.firstCells, hnc, storeCells]

theorem step_append_src {ops : Array Oper} {o : Oper} {a : Act} {K : Act → World → Prop} {Q : Exit → Act → World → Prop} {E : Prop} (hgd : o.guard = none) (s x : Operand) (t : TypeId)
    (ho : o.op = .call { callee := .builtin .append, args := #[s, x], argTypes := #[t, t] })
    (base : Nat) (e : TypeId) (i : TypeInfo) (z : Value) (size bytes : Nat) (ht : P.underlying t = some (.slice e)) (hi : P.info? e = some i) (hz : i.zero = some z)
    (hsize : i.size = size) (hby : i.bytes = bytes) (hzs : z.cells.size = size) (hsz : 0 < size)
    (v : Value) (n : Nat) (xs : List Value) (hs : a.eval s = v) (hown : w.ownsRow base e size v n xs)
    (A : Option Addr) (m c : Nat) (news : List Value) (hx : a.eval x = .slice A m c) (hS : SrcAt w size A m news)
    (h63 : n + m ≤ maxLen) (hbytes : (n + m) * bytes ≤ 140737488355328) (hbase : base ≤ w.heap.size)
    (h : ∀ v' w', w'.ownsRow base e size v' (n + m) (xs ++ news) → w.grownBy w' v.ownBlock → (v'.ownBlock = v.ownBlock ∨ v'.ownBlock = some w.heap.size) → K (a.put o.dst v') w') :
    if Region.wanted o (yielded ops a.tmps) = true then Oper.wp P o a w K Q else E := by
  have hw : Region.wanted o (yielded ops a.tmps) = true := by simp [Region.wanted, hgd]
  rw [if_pos hw]
  obtain ⟨v', w', hrun, h2, h3, h4⟩ := run_append_src (P := P) w base t o.type e i z size bytes ht hi hz hsize hby hzs hsz v n xs hown A m c news hS h63 hbytes hbase
  unfold Oper.wp execOp
  simp only [ho, resolve, invoke, builtin, Sem.run_bind, Sem.run_pure, Result.andThen_ok, List.map_toArray, List.map_cons, List.map_nil, hs, hx, hrun]
  exact h v' w' h2 h3 h4
end
theorem owns_form {w : World} {b e size n : Nat} {v : Value} {xs : List Value} (h : w.ownsRow b e size v n xs) : ∃ A c, v = .slice A n c := by
  rcases h.2 with ⟨rfl, h0⟩ | ⟨g, cap, cur, rfl, _⟩
  · exact ⟨none, 0, by rw [h0]⟩
  · exact ⟨_, _, rfl⟩
/-- Where the walk stands at the label. -/
def RJ (L : List Nod) (F : Res) (w : World) (A : Option Addr) (n c : Nat) (a' : Act) (W : World) : Prop :=
  ∃ (u : Nat → Value) (av nm : Value) (a ns : List (List UInt8)) (h B D : Nat),
    a' = { tmps := #[.slice A n c, u 1, u 2, u 3, u 4, u 5, u 6, u 7, u 8, av, .pointer (some ⟨B, 0, none⟩), u 11, .int .i64 2, .int .i64 h, u 14, u 15, u 16, u 17, u 18, u 19, u 20, u 21, u 22, u 23, u 24, u 25, u 26, u 27, u 28, u 29, u 30, u 31, u 32, u 33, u 34, u 35, u 36, u 37, u 38, u 39, u 40, u 41, u 42, u 43, u 44, u 45, u 46, u 47, u 48, u 49, u 50, u 51, u 52, u 53, u 54, u 55, u 56, u 57, u 58, u 59, u 60, u 61, u 62, u 63, u 64, u 65, u 66, u 67, u 68, u 69, u 70, u 71, u 72, u 73, u 74, u 75, u 76, u 77, u 78, u 79, u 80, u 81, u 82, u 83, u 84, u 85, u 86, u 87, u 88, u 89, u 90, u 91, u 92, u 93, u 94, u 95, u 96, u 97, u 98, u 99, u 100, u 101, u 102, u 103, u 104, u 105, u 106, u 107, u 108, u 109, u 110, u 111, u 112, u 113, u 114], defers := [{ target := Target.collected D, args := #[] }] } ∧
    w.heap.size ≤ B ∧ w.heap.size ≤ D ∧ Below w.heap.size w W ∧ Boxed W B 43 nm ∧ StrsAt W nm ns ∧ NilOk av ∧ StrsAt W av a ∧ W.heap[D]? = some (.deferred (some [])) ∧
    Here L a ∧ kindOf L (joinL a) = 2 ∧ NamesOk ns ∧ ns.length ≤ 300 * (h + 1) ∧ h ≤ 8 ∧ F = walkH L (8 - h) a ns
theorem frame_of {t : Array Value} {A : Option Addr} {n c h B : Nat} {av : Value} (hs : t.size = 115) (h0 : t.getD 0 undef = .slice A n c) (h9 : t.getD 9 undef = av) (h10 : t.getD 10 undef = .pointer (some ⟨B, 0, none⟩)) (h12 : t.getD 12 undef = .int .i64 2) (h13 : t.getD 13 undef = .int .i64 h) : t = #[.slice A n c, t.getD 1 undef, t.getD 2 undef, t.getD 3 undef, t.getD 4 undef, t.getD 5 undef, t.getD 6 undef, t.getD 7 undef, t.getD 8 undef, av, .pointer (some ⟨B, 0, none⟩), t.getD 11 undef, .int .i64 2, .int .i64 h, t.getD 14 undef, t.getD 15 undef, t.getD 16 undef, t.getD 17 undef, t.getD 18 undef, t.getD 19 undef, t.getD 20 undef, t.getD 21 undef, t.getD 22 undef, t.getD 23 undef, t.getD 24 undef, t.getD 25 undef, t.getD 26 undef, t.getD 27 undef, t.getD 28 undef, t.getD 29 undef, t.getD 30 undef, t.getD 31 undef, t.getD 32 undef, t.getD 33 undef, t.getD 34 undef, t.getD 35 undef, t.getD 36 undef, t.getD 37 undef, t.getD 38 undef, t.getD 39 undef, t.getD 40 undef, t.getD 41 undef, t.getD 42 undef, t.getD 43 undef, t.getD 44 undef, t.getD 45 undef, t.getD 46 undef, t.getD 47 undef, t.getD 48 undef, t.getD 49 undef, t.getD 50 undef, t.getD 51 undef, t.getD 52 undef, t.getD 53 undef, t.getD 54 undef, t.getD 55 undef, t.getD 56 undef, t.getD 57 undef, t.getD 58 undef, t.getD 59 undef, t.getD 60 undef, t.getD 61 undef, t.getD 62 undef, t.getD 63 undef, t.getD 64 undef, t.getD 65 undef, t.getD 66 undef, t.getD 67 undef, t.getD 68 undef, t.getD 69 undef, t.getD 70 undef, t.getD 71 undef, t.getD 72 undef, t.getD 73 undef, t.getD 74 undef, t.getD 75 undef, t.getD 76 undef, t.getD 77 undef, t.getD 78 undef, t.getD 79 undef, t.getD 80 undef, t.getD 81 undef, t.getD 82 undef, t.getD 83 undef, t.getD 84 undef, t.getD 85 undef, t.getD 86 undef, t.getD 87 undef, t.getD 88 undef, t.getD 89 undef, t.getD 90 undef, t.getD 91 undef, t.getD 92 undef, t.getD 93 undef, t.getD 94 undef, t.getD 95 undef, t.getD 96 undef, t.getD 97 undef, t.getD 98 undef, t.getD 99 undef, t.getD 100 undef, t.getD 101 undef, t.getD 102 undef, t.getD 103 undef, t.getD 104 undef, t.getD 105 undef, t.getD 106 undef, t.getD 107 undef, t.getD 108 undef, t.getD 109 undef, t.getD 110 undef, t.getD 111 undef, t.getD 112 undef, t.getD 113 undef, t.getD 114 undef] := by
  have e : t = ((List.range 115).map (fun i => t.getD i undef)).toArray := by
    apply Array.ext
    · simp [hs]
    · intro i h1 h2
      simp [Array.getD, h1]
  rw [← h0, ← h9, ← h10, ← h12, ← h13]
  exact e
theorem RJ_of {L : List Nod} {F : Res} {w : World} {A : Option Addr} {n c : Nat} {a' : Act} {W : World} (av nm : Value) (a ns : List (List UInt8)) (h B D : Nat)
    (hs : a'.tmps.size = 115) (h0 : a'.tmps.getD 0 undef = .slice A n c) (h9 : a'.tmps.getD 9 undef = av) (h10 : a'.tmps.getD 10 undef = .pointer (some ⟨B, 0, none⟩)) (h12 : a'.tmps.getD 12 undef = .int .i64 2) (h13 : a'.tmps.getD 13 undef = .int .i64 h) (hd : a'.defers = [{ target := Target.collected D, args := #[] }])
    (hh : w.heap.size ≤ B ∧ w.heap.size ≤ D ∧ Below w.heap.size w W ∧ Boxed W B 43 nm ∧ StrsAt W nm ns ∧ NilOk av ∧ StrsAt W av a ∧ W.heap[D]? = some (.deferred (some [])) ∧
    Here L a ∧ kindOf L (joinL a) = 2 ∧ NamesOk ns ∧ ns.length ≤ 300 * (h + 1) ∧ h ≤ 8 ∧ F = walkH L (8 - h) a ns) : RJ L F w A n c a' W := by
  obtain ⟨t, ds⟩ := a'
  exact ⟨fun i => t.getD i undef, av, nm, a, ns, h, B, D, congr (congrArg Act.mk (frame_of hs h0 h9 h10 h12 h13)) hd, hh⟩
theorem deferred_setBox {W : World} {nm x : Value} {B D : Nat} {ds : List Deferred} (h : W.heap[D]? = some (.deferred (some ds))) (hb : Boxed W B 43 nm) : (W.setCell ⟨B, 0, none⟩ x).heap[D]? = some (.deferred (some ds)) := by
  refine (Below.heap_setCell _ _ _ _ ?_).trans h
  rintro rfl
  rw [show W.heap[_]? = _ from hb] at h
  cases h
def hopsOf (a : Act) : Nat := (intOf (a.tmps.getD 13 undef)).toNat
/-- Where the loop over the names stands. -/
def RRel (L : List Nod) (f : List UInt8 → List (List UInt8) → List (List UInt8) → Res) (F : Res) (ns : List (List UInt8)) (W : World) (av kv i : Value) (wr : World) : Prop :=
  ∃ (k : Nat) (a : List (List UInt8)) (z : Int), k ≤ ns.length ∧ i = .int .i64 k ∧ kv = .int .i64 z ∧ NilOk av ∧ StrsAt wr av a ∧ Here L a ∧ kindOf L (joinL a) = z ∧ Below W.heap.size W wr ∧ F = walk1 L f a (ns.drop k)
theorem strsAt_setBox {W : World} {v nm x : Value} {ns : List (List UInt8)} {B : Nat} (h : StrsAt W v ns) (hb : Boxed W B 43 nm) (hnm : ∃ A n c, nm = .slice A n c) : StrsAt (W.setCell ⟨B, 0, none⟩ x) v ns := by
  obtain ⟨A, n, c, rfl⟩ := hnm
  obtain ⟨A1, c1, h1, h2, h3⟩ := h
  refine ⟨A1, c1, h1, h2, fun h0 => ?_⟩
  obtain ⟨b, o, e, hlt, hc⟩ := h3 h0
  refine ⟨b, o, e, by simpa [World.setCell] using hlt, fun j y hj => ?_⟩
  have hy := hc j y hj
  refine (World.cell?_setCell_other _ _ _ _ ?_).trans hy
  intro e2
  rw [← e2, hb.cell] at hy
  cases hy
theorem boxed_below {w w1 : World} {B : Nat} {t : TypeId} {v : Value} (h : Boxed w B t v) (hb : Below w.heap.size w w1) : Boxed w1 B t v := (hb.block B h.lt).trans h
theorem deferred_below {w w1 : World} {D : Nat} {o : Obj} (h : w.heap[D]? = some o) (hb : Below w.heap.size w w1) : w1.heap[D]? = some o := (hb.block D (Array.getElem?_eq_some_iff.1 h).1).trans h
theorem drop_next {ns : List (List UInt8)} {k : Nat} {x : List UInt8} (h : ns[k]? = some x) : ns.drop k = x :: ns.drop (k + 1) := by
  have hl := (List.getElem?_eq_some_iff.1 h).1
  rw [List.drop_eq_getElem_cons hl, (List.getElem?_eq_some_iff.1 h).2]
theorem dir_kind {L : List Nod} {p : List UInt8} {y : Nod} (h : findL L p = some y) (h2 : y.k = 2) : kindOf L p = 2 := by unfold kindOf; rw [h]; exact h2
set_option maxRecDepth 100000 in
set_option maxHeartbeats 4000000 in
theorem resolve_early (nv : Value) (L : List Nod) (s : ByteArray) (w : World) (hN : NodesAt w nv L) (hS : ∀ x ∈ L, SizedN x) (h : ¬ ((checkV L).1 = 0 ∧ rightB s.data.toList = true)) : Calls Tryd.prog 10 #[nv, .string s] w (Ret (resT (resolveV L s.data.toList)) w) := by
  have C := fun W hW => check_any nv L W hW hS
  have R := right_any s
  have HN := Lib.hid hN
  obtain ⟨F, hF⟩ : ∃ F, resolveV L s.data.toList = F := ⟨_, rfl⟩
  rw [hF]
  unfold resolveV at hF
  obtain ⟨A, c, rfl⟩ := hN.form
  by_cases h0 : (checkV L).1 = 0
  · have hr : rightB s.data.toList = false := by
      cases hr : rightB s.data.toList with
      | false => rfl
      | true => exact absurd ⟨h0, hr⟩ h
    rw [if_pos h0, hr, if_neg (by decide)] at hF
    unfold pairT at C
    rw [h0] at C
    rw [hr] at R
    subst hF
    clear h0 hr h
    go_enter Tryd.func10, Tryd.ntmps10
    go_wp2
    go_step3
    go_wp2_with (first
      | (go_at_call 14; refine (C _ HN.out).mono ?_; rintro e w1 ⟨rfl, hb1⟩)
      | (go_at_call 17; refine (R _).mono ?_; rintro e w2 ⟨rfl, rfl⟩))
    (try simp only [Exit.inBlock, Exit.then])
    rw [Exit.noGoto_ret]
    refine bodyPost_ret (results_tmp3 rfl _ _ _) rfl ?_
    exact ⟨rfl, hb1⟩
  · rw [if_neg h0] at hF
    obtain ⟨z, hz⟩ : ∃ z, (checkV L).1 = z := ⟨_, rfl⟩
    obtain ⟨z2, hz2⟩ : ∃ z, (checkV L).2 = z := ⟨_, rfl⟩
    unfold pairT at C
    rw [hz] at h0 hF
    rw [hz, hz2] at C
    have hE : (z == 0) = false := by simpa using h0
    subst hF
    clear h0 hz hz2 h
    go_enter Tryd.func10, Tryd.ntmps10
    go_wp2
    go_step3
    go_wp2_with (go_at_call 14; refine (C _ HN.out).mono ?_; rintro e w1 ⟨rfl, hb1⟩)
    (try simp only [Exit.inBlock, Exit.then])
    rw [Exit.noGoto_ret]
    refine bodyPost_ret (results_tmp3 rfl _ _ _) rfl ?_
    exact ⟨rfl, hb1⟩

set_option maxRecDepth 100000 in
set_option maxHeartbeats 16000000 in
theorem resolve_late (nv : Value) (L : List Nod) (s : ByteArray) (w : World) (hN : NodesAt w nv L) (hS : ∀ x ∈ L, SizedN x) (h0 : (checkV L).1 = 0) (hr : rightB s.data.toList = true) :
    CallsIn Fence.wide 3 Tryd.prog 10 #[nv, .string s] w (Ret (resT (walkH L 8 [] (namesL s.data.toList))) w) := by
  have C := fun W hW => check_any nv L W hW hS
  have R := right_any s
  have HN := Lib.hid hN
  have ho := (checkV_ok h0).2
  have Hl64 := Lib.hid (checkV_ok h0).1
  unfold pairT at C
  obtain ⟨z2, hz2⟩ : ∃ z, (checkV L).2 = z := ⟨_, rfl⟩
  rw [h0, hz2] at C
  rw [hr] at R
  clear hz2
  have hNl := namesS_len s
  have hsm := names_small s.data.toList
  obtain ⟨i0, hi, hz0, hz1, hz2⟩ := info_parts info9
  have hml : 10000 ≤ maxLen := by decide
  obtain ⟨A, c, rfl⟩ := hN.form
  obtain ⟨F, hF⟩ : ∃ F, walkH L 8 [] (namesL s.data.toList) = F := ⟨_, rfl⟩
  rw [hF]
  have HF := Lib.hid hF
  have HO := Lib.hid ho
  clear hF h0 hr hN ho
  obtain ⟨nl, hnl⟩ : ∃ nl, L.length = nl := ⟨_, rfl⟩
  have hl64 : L.length ≤ 64 := Hl64.out
  have Fd := fun p W hW => find_any (.slice A L.length c) L p W hW (by omega)
  rw [hnl] at HN C Fd ⊢
  have HFd := Lib.hid Fd
  have HnL := Lib.hid hnl
  clear hnl Fd hl64
  refine callsIn_of_wp_marks Tryd.func10 rfl trivial ?_ rfl
  simp only [Tryd.ntmps10, List.size_toArray, List.length_cons, List.length_nil, Nat.reduceAdd, Nat.reduceSub, Array.replicate_succ, Array.replicate_zero, List.push_toArray, List.append_toArray, List.nil_append, List.cons_append]
  refine wpIn_wide.2 ?_
  go_wp2
  refine wp_scope_enter 1 (RJ L F w A nl c) (fun a' _ => 8 - hopsOf a') rfl ?_ ?_
  · rintro a' W ⟨u, av, nm, a0, ns, hq, B, D, rfl, hBw, hDw, hbW, hbox, hnm, hno, hav, hD, hH, hk2, hnok, hnl, hh, hFe⟩
    rw [walkH_eq] at hFe
    have HFe := Lib.hid hFe
    have HH := Lib.hid hH
    have Hno0 := Lib.hid hno
    have Hav := Lib.hid hav
    have Hnok := Lib.hid hnok
    have Hbx0 := Lib.hid hbox
    have HD0 := Lib.hid hD
    have Hk2 := Lib.hid hk2
    have bx0 := hbox.cell
    obtain ⟨An, cn, rfl⟩ := strsAt_form hnm
    have Hnm := Lib.hid hnm
    clear hFe hH hno hav hnok hbox hD hnm hk2
    obtain ⟨nn, hnn⟩ : ∃ nn, ns.length = nn := ⟨_, rfl⟩
    rw [hnn] at Hnm bx0 hnl Hbx0
    have hcn : nn ≤ cn := by
      obtain ⟨_, _, e, h2, _⟩ := Hnm.out
      cases e
      rw [← hnn]; exact h2
    have Hnn := Lib.hid hnn
    clear hnn
    go_wp2
    go_step3
    go_wp2
    go_loopw [9, 12, 13, 38] (fun av kv hv i wr => hv = .int .i64 hq ∧ RRel L (walkF L (8 - hq)) F ns W av kv i wr) (fun _ _ _ i _ => nn - (intOf i).toNat)
    case atStart => exact ⟨rfl, 0, a0, 2, Nat.zero_le _, rfl, rfl, Hno0.out, Hav.out, HH.out, Hk2.out, Below.refl _ _, by rw [List.drop_zero]; exact HFe.out⟩
    case round =>
      obtain ⟨rfl, k, a, z, hk, rfl, rfl, hno, hA, ha, hz, hb, hf⟩ := hrel
      rw [Hnn.out] at hk
      have Hno := Lib.hid hno
      have HA := Lib.hid hA
      have Ha := Lib.hid ha
      have Hz := Lib.hid hz
      have Hf := Lib.hid hf
      have hbr := bchain hbW hbW.size hb
      have Hbox := Lib.hid (boxed_below Hbx0.out hb)
      have HD := Lib.hid (deferred_below HD0.out hb)
      have bx1 := Hbox.out.cell
      have hta := here_total HO.out ha
      have hal := total_len a
      obtain ⟨A3, c3, rfl⟩ := strsAt_form hA
      have hc3 : a.length ≤ c3 := by
        obtain ⟨_, _, e, h2, _⟩ := hA
        cases e; exact h2
      have hnn4 : nn ≤ 2700 := by omega
      clear hno hA ha hz hf
      by_cases hlt : k < nn
      case neg =>
        obtain rfl : k = nn := by omega
        have hend : F = (joinL a, z, 0) := by rw [Hf.out, List.drop_eq_nil_of_le (by rw [Hnn.out]; exact Nat.le_refl _)]; simp only [walk1]; rw [Hz.out]
        have Hend := Lib.hid hend
        have J := fun W hS => join_any (.slice A3 a.length c3) a W hS (by omega)
        obtain ⟨js, hjs⟩ : ∃ js, strL (joinL a) = js := ⟨_, rfl⟩
        simp only [hjs] at J
        have Hjs := Lib.hid hjs
        obtain ⟨al, hal2⟩ : ∃ al, a.length = al := ⟨_, rfl⟩
        rw [hal2] at J HA
        rw [hal2]
        clear hend hjs hal2 Hf
        go_wp2_with (go_at_call 18; refine (J _ HA.out).mono ?_; rintro e w7 ⟨rfl, hb7⟩)
        (try simp only [Exit.inBlock, Exit.then])
        have hKe := deferred_below HD.out hb7
        refine ⟨by simp, .inl ⟨_, _, rfl, run_takeDeferred hKe, ?_⟩⟩
        exact ⟨_, results_tmp3 rfl _ _ _, by rw [Hend.out]; unfold resT; rw [Hjs.out]; rfl, (bchain hbr hbr.size hb7).trans (belowK_b (w := w) (Nat.le_refl _) _ D _ _ hDw hKe rfl rfl)⟩

      obtain ⟨n, hn⟩ : ∃ n, ns[k]? = some n := ⟨_, List.getElem?_eq_getElem (by rw [Hnn.out]; exact hlt)⟩
      have hlt' : (k : Int) < nn := by omega
      obtain ⟨_, _, e4, _, hcell4⟩ := Hnm.out
      injection e4 with e41 e42 e43
      subst e41 e43
      obtain ⟨b4, o4, rfl, hlt4, hx4⟩ := hcell4 (by rw [Hnn.out]; omega)
      have c0 : wr.cell? ⟨b4, o4 + k, none⟩ = some (.string (strL n)) := keep_cell hb (hx4 k n hn)
      have tn : (strL n).toList = n := ByteArray.toList_eq _
      have hnn1 := Hnok.out n (List.mem_of_getElem? hn)
      have Hnn1 := Lib.hid hnn1
      have hnl1 : n.length ≤ 256 := hnn1.1
      have Hdn := Lib.hid (drop_next hn)
      have Hrn : Hid (NamesOk (ns.drop (k + 1))) := Lib.hid (fun x hx => Hnok.out x (List.mem_of_mem_drop hx))
      obtain ⟨t, ht⟩ : ∃ t, strL n = t := ⟨_, rfl⟩
      rw [ht] at c0 tn
      have Ht := Lib.hid ht
      clear hx4 hcell4 e42 hn hnn1 ht
      by_cases hdd : n = [46, 46]
      · have hd : (n == [46, 46]) = true := by simpa using hdd
        subst hdd
        have Hgo := Lib.hid (Hf.out.trans ((congrArg (walk1 L (walkF L (8 - hq)) a) Hdn.out).trans walk1_dots))
        rcases Nat.eq_zero_or_pos a.length with h0 | h0
        · have ha0 : a = [] := List.length_eq_zero_iff.1 h0
          subst ha0
          clear h0
          go_wp2
          go_roundw
          case rel => exact ⟨rfl, k + 1, [], 2, by rw [Hnn.out]; omega, by go_num, rfl, Hno.out, HA.out, Ha.out, rfl, hb, Hgo.out⟩
          case measure => (simp [intOf] <;> omega)
        · obtain ⟨q, hq⟩ : ∃ q, a.length = q + 1 := ⟨a.length - 1, by omega⟩
          have hq1 : q ≤ 256 := by omega
          have hkm : max (q : Int) 0 = q := by omega
          have hTk := strsAt_take HA.out q (by omega)
          have htk : a.take (a.length - 1) = a.take q := by rw [hq]; rfl
          rw [htk] at Hgo
          have hht := here_take HO.out Ha.out
          rw [htk] at hht
          obtain ⟨_, _, hxx, _⟩ := Ha.out
          obtain ⟨y, hy, hy2⟩ := HO.out.dir Ha.out.1 hxx
          rw [htk] at hy
          have Hdk := Lib.hid (dir_kind hy hy2)
          have Hht := Lib.hid hht
          have HTk := Lib.hid hTk
          have hqc : q + 1 ≤ c3 := by omega
          have hqc' : (q : Int) ≤ c3 := by omega
          have Hnq := Lib.hid (nilOk_take Hno.out (k := q) (by omega))
          rw [hq]
          clear h0 htk hht hTk hq hxx hy hy2
          go_wp2
          go_roundw
          case rel => exact ⟨rfl, k + 1, _, 2, by rw [Hnn.out]; omega, by go_num, rfl, Hnq.out, HTk.out, Hht.out, Hdk.out, hb, Hgo.out⟩
          case measure => (simp [intOf] <;> omega)
      have hd : (n == [46, 46]) = false := by simpa using hdd
      have Hdd := Lib.hid hdd
      clear hdd
      have htn := total_snoc a n
      have J := fun v W hS => join_any v (a ++ [n]) W hS (by omega)
      have Fd := HFd.out (joinL (a ++ [n]))
      have hrow : rowP (a ++ [n]) = rowP a ++ [.string t] := by unfold rowP; rw [List.map_append]; simp [Ht.out]
      have hlenA : (a ++ [n]).length = a.length + 1 := by simp
      have Hrow := Lib.hid hrow
      have HlenA := Lib.hid hlenA
      have hsrc : ∀ ad, A3 = some ad → ∀ W, Below wr.heap.size wr W → ∀ j u, (rowP a)[j]? = some u → W.cell? (ad.add j) = some u := by
        intro ad e W hW
        subst e
        exact strsAt_cells (strsAt_below HA.out hW)
      have hnil : A3 = none → a.length = 0 ∧ a.length = 0 := by
        intro e
        subst e
        have := Hno.out _ _ rfl
        omega
      have rest0 : ∀ (W6 : World) (v6 : Value) (b : Nat), W6.ownsRow b 9 1 v6 (a.length + 1) (rowP a ++ [.string t]) → StrsAt W6 v6 (a ++ [n]) := fun W6 v6 b h => strsAt_of_row (base := b) (by rw [Hrow.out, HlenA.out]; exact h)
      have Hsrc := Lib.hid hsrc
      have Hrest0 := Lib.hid rest0
      have Hnil := Lib.hid hnil
      obtain ⟨js, hjs⟩ : ∃ js, strL (joinL (a ++ [n])) = js := ⟨_, rfl⟩
      rw [hjs] at J Fd
      clear hjs hrow hlenA htn hsrc rest0 hnil
      have HJ := Lib.hid J
      have HF2 := Lib.hid Fd
      clear J Fd
      obtain ⟨al, hal2⟩ : ∃ al, a.length = al := ⟨_, rfl⟩
      have Hal : Hid ((rowP a).length = al * 1) := Lib.hid (by rw [rowP_len, hal2, Nat.mul_one])
      rw [hal2] at Hrest0 HA Hno Hnil hal hc3 ⊢
      have halm : al ≤ 300 := by omega
      have halc : (al : Int) ≤ c3 := by omega
      clear hal2
      have HfD := Lib.hid (Hf.out.trans (congrArg (walk1 L (walkF L (8 - hq)) a) Hdn.out))
      have hrl : (ns.drop (k + 1)).length = nn - (k + 1) := by rw [List.length_drop, Hnn.out]
      have Hrl := Lib.hid hrl
      clear hrl Hf
      cases hx : findL L (joinL (a ++ [n])) with
      | none =>
        have Hr := Lib.hid (HfD.out.trans (walk1_none Hdd.out hx))
        rw [hx] at HF2
        unfold findV zeroN at HF2
        simp only at HF2
        clear hx
        go_wp2_with (first
          | (at_builtin; refine wpList_append_grows _ rfl (Operand.tmp 58) (Operand.tmp 60) 43 rfl 9 i0 (.string ⟨#[]⟩) 1 16 Tryd.underlying43 hi hz0 hz1 hz2 rfl (by decide) A3 al al (rowP a) rfl Hnil.out Hal.out (fun ad e j u hu => Hsrc.out ad e _ (below_alloc _ _) j u hu) ⟨wr.heap.size, 0, none⟩ 1 1 [.string t] rfl rfl (cell_one_new _ _ _) (by simp [Value.oneCell']) (by omega) (by omega) (by omega) ?_; intro v6 w6 hown6 hgrow6; have k6 : Below wr.heap.size wr w6 := (below_alloc wr _).grown hgrow6 (by simp) (fun j hj => by cases hj); have hS6 := Hrest0.out w6 v6 _ hown6)
          | (go_at_call 18; refine (HJ.out _ _ hS6).mono ?_; rintro e w7 ⟨rfl, hb7⟩; have k7 := bchain k6 k6.size hb7)
          | (go_at_call 13; (with_reducible refine (HF2.out _ (HN.out.below (bchain hbr hbr.size k7))).mono ?_); rintro e w8 ⟨rfl, hb8⟩; have k8 := bchain k7 k7.size hb8; have k8a := (k8.alloc k8.size (.cells #[.string ⟨#[]⟩, .int .i64 0, .string ⟨#[]⟩] 32)); have bxx := boxed_below (boxed_below (boxed_below Hbox.out k6) hb7) hb8; have bx := bxx.cell; have hBlt := bxx.lt))
        (try simp only [Exit.inBlock, Exit.then])
        have hKe := deferred_below HD.out k8a
        refine ⟨by simp, .inl ⟨_, _, rfl, run_takeDeferred hKe, ?_⟩⟩
        exact ⟨_, results_tmp3 rfl _ _ _, by rw [Hr.out]; rfl, (bchain hbr hbr.size k8a).trans (belowK_b (w := w) (Nat.le_refl _) _ D _ _ hDw hKe rfl rfl)⟩

      | some x =>
        have hkf : kindOf L (joinL (a ++ [n])) = x.k := by unfold kindOf; rw [hx]
        rw [hx] at HF2
        unfold findV nodV at HF2
        obtain ⟨xp, xk, xt⟩ := x
        simp only at HF2 hkf
        have Hkf := Lib.hid hkf
        have tt : (strL xt).toList = xt := ByteArray.toList_eq _
        obtain ⟨xps, hxps⟩ : ∃ u, strL xp = u := ⟨_, rfl⟩
        obtain ⟨t2, ht2⟩ : ∃ u, strL xt = u := ⟨_, rfl⟩
        simp only [hxps, ht2] at HF2
        clear hkf
        by_cases hk1 : xk = 1 ∧ ns.drop (k + 1) ≠ []
        · have Hr := Lib.hid (HfD.out.trans (walk1_file Hdd.out hx hk1.1 hk1.2))
          have hm0 : (k : Int) < (nn : Int) - 1 := by
            have h1 := List.length_pos_iff.2 hk1.2
            rw [Hrl.out] at h1
            omega
          obtain ⟨rfl, -⟩ := hk1
          clear hx hxps ht2
          go_wp2_with (first
            | (at_builtin; refine wpList_append_grows _ rfl (Operand.tmp 58) (Operand.tmp 60) 43 rfl 9 i0 (.string ⟨#[]⟩) 1 16 Tryd.underlying43 hi hz0 hz1 hz2 rfl (by decide) A3 al al (rowP a) rfl Hnil.out Hal.out (fun ad e j u hu => Hsrc.out ad e _ (below_alloc _ _) j u hu) ⟨wr.heap.size, 0, none⟩ 1 1 [.string t] rfl rfl (cell_one_new _ _ _) (by simp [Value.oneCell']) (by omega) (by omega) (by omega) ?_; intro v6 w6 hown6 hgrow6; have k6 : Below wr.heap.size wr w6 := (below_alloc wr _).grown hgrow6 (by simp) (fun j hj => by cases hj); have hS6 := Hrest0.out w6 v6 _ hown6)
            | (go_at_call 18; refine (HJ.out _ _ hS6).mono ?_; rintro e w7 ⟨rfl, hb7⟩; have k7 := bchain k6 k6.size hb7)
            | (go_at_call 13; (with_reducible refine (HF2.out _ (HN.out.below (bchain hbr hbr.size k7))).mono ?_); rintro e w8 ⟨rfl, hb8⟩; have k8 := bchain k7 k7.size hb8; have k8a := (k8.alloc k8.size (.cells #[.string xps, .int .i64 1, .string t2] 32)); have bxx := boxed_below (boxed_below (boxed_below Hbox.out k6) hb7) hb8; have bx := bxx.cell; have hBlt := bxx.lt))
          (try simp only [Exit.inBlock, Exit.then])
          have hKe := deferred_below HD.out k8a
          refine ⟨by simp, .inl ⟨_, _, rfl, run_takeDeferred hKe, ?_⟩⟩
          exact ⟨_, results_tmp3 rfl _ _ _, by rw [Hr.out]; rfl, (bchain hbr hbr.size k8a).trans (belowK_b (w := w) (Nat.le_refl _) _ D _ _ hDw hKe rfl rfl)⟩

        · by_cases hk3 : xk = 3
          · have htg := HO.out.link hx hk3
            have Hr := Lib.hid (HfD.out.trans (walk1_link Hdd.out hx hk3))
            obtain ⟨yd, hyd, hyd2⟩ := HO.out.dir_snoc (good_snoc Ha.out.1 (Hnn1.out.2 Hdd.out)) hx
            have Hkd := Lib.hid (dir_kind hyd hyd2)
            subst hk3
            obtain ⟨htne, htl, _⟩ := tgtB_parts htg
            have Htg := Lib.hid htg
            clear hk1 hx htg hyd hyd2
            by_cases h8 : hq = 8
            · subst h8
              clear hxps ht2
              go_wp2_with (first
                | (at_builtin; refine wpList_append_grows _ rfl (Operand.tmp 58) (Operand.tmp 60) 43 rfl 9 i0 (.string ⟨#[]⟩) 1 16 Tryd.underlying43 hi hz0 hz1 hz2 rfl (by decide) A3 al al (rowP a) rfl Hnil.out Hal.out (fun ad e j u hu => Hsrc.out ad e _ (below_alloc _ _) j u hu) ⟨wr.heap.size, 0, none⟩ 1 1 [.string t] rfl rfl (cell_one_new _ _ _) (by simp [Value.oneCell']) (by omega) (by omega) (by omega) ?_; intro v6 w6 hown6 hgrow6; have k6 : Below wr.heap.size wr w6 := (below_alloc wr _).grown hgrow6 (by simp) (fun j hj => by cases hj); have hS6 := Hrest0.out w6 v6 _ hown6)
                | (go_at_call 18; refine (HJ.out _ _ hS6).mono ?_; rintro e w7 ⟨rfl, hb7⟩; have k7 := bchain k6 k6.size hb7)
                | (go_at_call 13; (with_reducible refine (HF2.out _ (HN.out.below (bchain hbr hbr.size k7))).mono ?_); rintro e w8 ⟨rfl, hb8⟩; have k8 := bchain k7 k7.size hb8; have k8a := (k8.alloc k8.size (.cells #[.string xps, .int .i64 3, .string t2] 32)); have bxx := boxed_below (boxed_below (boxed_below Hbox.out k6) hb7) hb8; have bx := bxx.cell; have hBlt := bxx.lt))
              (try simp only [Exit.inBlock, Exit.then])
              have hKe := deferred_below HD.out k8a
              refine ⟨by simp, .inl ⟨_, _, rfl, run_takeDeferred hKe, ?_⟩⟩
              exact ⟨_, results_tmp3 rfl _ _ _, by rw [Hr.out]; rfl, (bchain hbr hbr.size k8a).trans (belowK_b (w := w) (Nat.le_refl _) _ D _ _ hDw hKe rfl rfl)⟩

            · obtain ⟨m8, hm8⟩ : ∃ m8, 8 - hq = m8 + 1 := ⟨8 - hq - 1, by omega⟩
              have hE8 : ((hq : Int) == 8) = false := by simp; omega
              have h8b : hq + 1 ≤ 8 := by omega
              clear h8
              have P := parts_any (strL xt) (by rw [strL_size]; exact htl)
              rw [strL_data] at P
              have hpl : (partsL xt).length ≤ 257 := parts_len htl
              obtain ⟨b0, hb0⟩ : ∃ b0, xt.head? = some b0 := by
                cases xt with
                | nil => exact absurd rfl htne
                | cons b0 l => exact ⟨b0, rfl⟩
              have hsz : 0 < t2.size := by rw [← ht2, strL_size]; exact List.length_pos_iff.2 htne
              have hsz' : (0 : Int) < (t2.size : Int) := by omega
              have hidx : ∀ hh : 0 < t2.size, t2[0]'hh = b0 := by
                subst ht2
                intro hh
                have h1 := get_data (strL xt) 0 hh
                rw [strL_data, ← List.head?_eq_getElem?, hb0] at h1
                exact (Option.some.inj h1).symm
              have hrowM : rowP (partsL xt ++ ns.drop (k + 1)) = rowP (partsL xt) ++ rowP (ns.drop (k + 1)) := by unfold rowP; rw [List.map_append]
              have HrowM := Lib.hid hrowM
              have HnsN := Lib.hid (namesOk_append (namesOk_parts Htg.out) Hrn.out)
              have hlen2 : (partsL xt ++ ns.drop (k + 1)).length = (partsL xt).length + (nn - (k + 1)) := by rw [List.length_append, Hrl.out]
              have Hlen2 := Lib.hid hlen2
              have hMk : ∀ (W : World) (v : Value) (B : Nat), W.ownsRow B 9 1 v ((partsL xt).length + (nn - (k + 1))) (rowP (partsL xt) ++ rowP (ns.drop (k + 1))) → StrsAt W v (partsL xt ++ ns.drop (k + 1)) := fun W v B h => strsAt_of_row (base := B) (by rw [HrowM.out, Hlen2.out]; exact h)
              have HMk := Lib.hid hMk
              simp only [ht2] at P
              obtain ⟨pn, hpn⟩ : ∃ pn, (partsL xt).length = pn := ⟨_, rfl⟩
              rw [hpn] at hpl hlen2 HMk
              have HP : Hid (∀ W, Calls Tryd.prog 19 #[.string t2] W fun e W' => ∃ Ag cg, e = .returned (.slice Ag pn cg) ∧ W'.ownsRow W.heap.size 9 1 (.slice Ag pn cg) pn (rowP (partsL xt)) ∧ Below W.heap.size W W') := Lib.hid (fun W => by
                have h := P W
                unfold GivesOwn at h
                rw [hpn] at h
                refine h.mono ?_
                rintro e W' ⟨v, rfl, h1, h2⟩
                obtain ⟨Ag, cg, rfl⟩ := owns_form h1
                exact ⟨Ag, cg, rfl, h1, h2⟩)
              have Hlen3 := Lib.hid hlen2
              have hsr : ∀ W, Below wr.heap.size wr W → SrcAt W 1 (if cn = k + 1 then some ⟨b4, o4, none⟩ else some ⟨b4, o4 + (k + 1), none⟩) (nn - (k + 1)) (rowP (ns.drop (k + 1))) := fun W hW => src_drop (strsAt_below Hnm.out (hb.trans (hW.mono hb.size))) Hnn.out
              have Hsr := Lib.hid hsr
              clear hrowM hMk hpn P hxps ht2 hsr hlen2
              have HF8 : Hid (F = walkH L m8 (nextA xt a) (partsL xt ++ ns.drop (k + 1))) := Lib.hid (by rw [Hr.out, hm8]; rfl)
              by_cases hb47 : b0 = 47
              · have hcc : (((t2[0]).toNat : Int) == 47) = true := by rw [hidx]; rw [hb47]; rfl
                have hnx : nextA xt a = [] := by unfold nextA; rw [if_pos (by rw [hb0, hb47])]
                have HhX := Lib.hid (show F = walkH L m8 [] (partsL xt ++ ns.drop (k + 1)) by rw [HF8.out, hnx])
                clear hnx hidx hb0 hb47
                go_wp2_with (first
                  | (at_builtin; refine wpList_append_grows _ rfl (Operand.tmp 58) (Operand.tmp 60) 43 rfl 9 i0 (.string ⟨#[]⟩) 1 16 Tryd.underlying43 hi hz0 hz1 hz2 rfl (by decide) A3 al al (rowP a) rfl Hnil.out Hal.out (fun ad e j u hu => Hsrc.out ad e _ (below_alloc _ _) j u hu) ⟨wr.heap.size, 0, none⟩ 1 1 [.string t] rfl rfl (cell_one_new _ _ _) (by simp [Value.oneCell']) (by omega) (by omega) (by omega) ?_; intro v6 w6 hown6 hgrow6; have k6 : Below wr.heap.size wr w6 := (below_alloc wr _).grown hgrow6 (by simp) (fun j hj => by cases hj); have hS6 := Hrest0.out w6 v6 _ hown6)
                  | (go_at_call 18; refine (HJ.out _ _ hS6).mono ?_; rintro e w7 ⟨rfl, hb7⟩; have k7 := bchain k6 k6.size hb7)
                  | (go_at_call 13; (with_reducible refine (HF2.out _ (HN.out.below (bchain hbr hbr.size k7))).mono ?_); rintro e w8 ⟨rfl, hb8⟩; have k8 := bchain k7 k7.size hb8; have k8a := (k8.alloc k8.size (.cells #[.string xps, .int .i64 3, .string t2] 32)); have bxx := boxed_below (boxed_below (boxed_below Hbox.out k6) hb7) hb8; have bx := bxx.cell; have hBlt := bxx.lt))
                have htz := Trio.new w8 (.string xps) (.int .i64 3) (.string t2)
                have hbz := boxed_below bxx (below_alloc w8 (.cells #[.string xps, .int .i64 3, .string t2] 32))
                obtain ⟨wz, hwz⟩ : ∃ wz, w8.alloc (.cells #[.string xps, .int .i64 3, .string t2] 32) = wz := ⟨_, rfl⟩
                rw [hwz] at k8a htz hbz ⊢
                have y2 := htz.c2
                have bz := hbz.cell
                have hk0 : (0 : Int) ≤ (k : Int) + 1 := by omega
                have hk1 : (k : Int) + 1 ≤ (nn : Int) := by omega
                have hk2 : (nn : Int) ≤ (cn : Int) := by omega
                have hk3 : (k : Int) + 1 ≤ (cn : Int) := by omega
                have hk4 : k + 1 ≤ nn := by omega
                have hk5 : k + 1 ≤ cn := by omega
                have hkw : IntKind.i64.wrap ((k : Int) + 1) = (k : Int) + 1 := by unfold IntKind.wrap; simp [IntKind.bits, IntKind.signed]; omega
                obtain ⟨ad, had⟩ : ∃ ad, (if cn = k + 1 then some (⟨b4, o4, none⟩ : Addr) else some ⟨b4, o4 + (k + 1), none⟩) = some ad := by
                  by_cases h1 : cn = k + 1
                  · exact ⟨_, by rw [if_pos h1]⟩
                  · exact ⟨_, by rw [if_neg h1]⟩
                rw [had] at Hsr
                have hdr := drew_below wz
                have htlz := htz.lt
                have Htz := Lib.hid htz
                have Hbz := Lib.hid hbz
                clear htz hbz bx bx0 bx1 bxx hwz
                refine wp_region_noPanic ?_
                go_region_law (first
                  | (go_simp; go_at_call 19; refine (HP.out _).mono ?_; rintro e w9 ⟨Ag, cg, rfl, hown9, hb9⟩; have k9 := bchain hdr hdr.size hb9; have hown9' : w9.ownsRow wz.heap.size 9 1 (.slice Ag pn cg) pn (rowP (partsL xt)) := hown9; have bz9 := (boxed_below Hbz.out k9).cell)
                  | (refine step_append_src _ (by rfl) (Operand.tmp 101) (Operand.tmp 105) _ (by rfl) wz.heap.size 9 i0 _ 1 16 Tryd.underlying43 hi hz0 hz1 hz2 rfl (by decide) (.slice Ag pn cg) pn (rowP (partsL xt)) (by rfl) hown9' _ _ _ (rowP (ns.drop (k + 1))) (by rfl) (Hsr.out _ (bchain k8a k8a.size k9)) (by unfold maxLen; omega) (by omega) k9.size ?_; intro v10 w10 hown10 hgrow10 _hat10; clear _hat10; obtain ⟨Ah, ch, rfl⟩ := owns_form hown10; have k10 : Below wz.heap.size wz w10 := k9.grown hgrow10 k9.size (own_ge hown9'); have bz10 := boxed_below Hbz.out k10; have bc10 := bz10.cell; have bf10 := bz10.frozen)
                  | fail)
                all_goals (refine NoPanic.normal ?_)
                all_goals
                  have y10 : w10.cell? ⟨w8.heap.size, 2, none⟩ = some (.string t2) := keep_cell k10 y2
                  go_wp2
                  go_step3
                  refine ⟨rfl, ?_, ?_⟩
                  · refine RJ_of (.slice none 0 0) (.slice Ah (pn + (nn - (k + 1))) ch) ([]) (partsL xt ++ ns.drop (k + 1)) (hq + 1) B D rfl rfl rfl rfl rfl rfl rfl ⟨hBw, hDw, ?_, bz10.set _, strsAt_setBox (HMk.out _ _ _ hown10) bz10 ⟨_, _, _, rfl⟩, nilOk_nil, (⟨none, 0, rfl, Nat.le_refl _, fun h => absurd h (by simp)⟩), deferred_setBox (deferred_below HD.out (bchain k8a k8a.size k10)) bz10, here_nil L, rfl, HnsN.out, ?_, by omega, ?_⟩
                    · exact (bchain hbr hbr.size (bchain k8a k8a.size k10)).setCell (p := ⟨B, 0, none⟩) hBw _
                    · rw [Hlen3.out]; omega
                    · rw [show 8 - (hq + 1) = m8 by omega, HhX.out]
                  · show 8 - hopsOf _ < 8 - hopsOf _
                    unfold hopsOf
                    simp [intOf]
                    omega
              · have hcc : (((t2[0]).toNat : Int) == 47) = false := by
                  rw [hidx]
                  simp only [beq_eq_false_iff_ne]
                  intro h
                  exact hb47 ((byte_eq (n := 47) (by omega)).1 h)
                have hnx : nextA xt a = a := by unfold nextA; rw [if_neg (by rw [hb0]; intro h; exact hb47 (Option.some.inj h))]
                have HhX := Lib.hid (show F = walkH L m8 a (partsL xt ++ ns.drop (k + 1)) by rw [HF8.out, hnx])
                clear hnx hidx hb0 hb47
                go_wp2_with (first
                  | (at_builtin; refine wpList_append_grows _ rfl (Operand.tmp 58) (Operand.tmp 60) 43 rfl 9 i0 (.string ⟨#[]⟩) 1 16 Tryd.underlying43 hi hz0 hz1 hz2 rfl (by decide) A3 al al (rowP a) rfl Hnil.out Hal.out (fun ad e j u hu => Hsrc.out ad e _ (below_alloc _ _) j u hu) ⟨wr.heap.size, 0, none⟩ 1 1 [.string t] rfl rfl (cell_one_new _ _ _) (by simp [Value.oneCell']) (by omega) (by omega) (by omega) ?_; intro v6 w6 hown6 hgrow6; have k6 : Below wr.heap.size wr w6 := (below_alloc wr _).grown hgrow6 (by simp) (fun j hj => by cases hj); have hS6 := Hrest0.out w6 v6 _ hown6)
                  | (go_at_call 18; refine (HJ.out _ _ hS6).mono ?_; rintro e w7 ⟨rfl, hb7⟩; have k7 := bchain k6 k6.size hb7)
                  | (go_at_call 13; (with_reducible refine (HF2.out _ (HN.out.below (bchain hbr hbr.size k7))).mono ?_); rintro e w8 ⟨rfl, hb8⟩; have k8 := bchain k7 k7.size hb8; have k8a := (k8.alloc k8.size (.cells #[.string xps, .int .i64 3, .string t2] 32)); have bxx := boxed_below (boxed_below (boxed_below Hbox.out k6) hb7) hb8; have bx := bxx.cell; have hBlt := bxx.lt))
                have htz := Trio.new w8 (.string xps) (.int .i64 3) (.string t2)
                have hbz := boxed_below bxx (below_alloc w8 (.cells #[.string xps, .int .i64 3, .string t2] 32))
                obtain ⟨wz, hwz⟩ : ∃ wz, w8.alloc (.cells #[.string xps, .int .i64 3, .string t2] 32) = wz := ⟨_, rfl⟩
                rw [hwz] at k8a htz hbz ⊢
                have y2 := htz.c2
                have bz := hbz.cell
                have hk0 : (0 : Int) ≤ (k : Int) + 1 := by omega
                have hk1 : (k : Int) + 1 ≤ (nn : Int) := by omega
                have hk2 : (nn : Int) ≤ (cn : Int) := by omega
                have hk3 : (k : Int) + 1 ≤ (cn : Int) := by omega
                have hk4 : k + 1 ≤ nn := by omega
                have hk5 : k + 1 ≤ cn := by omega
                have hkw : IntKind.i64.wrap ((k : Int) + 1) = (k : Int) + 1 := by unfold IntKind.wrap; simp [IntKind.bits, IntKind.signed]; omega
                obtain ⟨ad, had⟩ : ∃ ad, (if cn = k + 1 then some (⟨b4, o4, none⟩ : Addr) else some ⟨b4, o4 + (k + 1), none⟩) = some ad := by
                  by_cases h1 : cn = k + 1
                  · exact ⟨_, by rw [if_pos h1]⟩
                  · exact ⟨_, by rw [if_neg h1]⟩
                rw [had] at Hsr
                have hdr := drew_below wz
                have htlz := htz.lt
                have Htz := Lib.hid htz
                have Hbz := Lib.hid hbz
                clear htz hbz bx bx0 bx1 bxx hwz
                refine wp_region_noPanic ?_
                go_region_law (first
                  | (go_simp; go_at_call 19; refine (HP.out _).mono ?_; rintro e w9 ⟨Ag, cg, rfl, hown9, hb9⟩; have k9 := bchain hdr hdr.size hb9; have hown9' : w9.ownsRow wz.heap.size 9 1 (.slice Ag pn cg) pn (rowP (partsL xt)) := hown9; have bz9 := (boxed_below Hbz.out k9).cell)
                  | (refine step_append_src _ (by rfl) (Operand.tmp 101) (Operand.tmp 105) _ (by rfl) wz.heap.size 9 i0 _ 1 16 Tryd.underlying43 hi hz0 hz1 hz2 rfl (by decide) (.slice Ag pn cg) pn (rowP (partsL xt)) (by rfl) hown9' _ _ _ (rowP (ns.drop (k + 1))) (by rfl) (Hsr.out _ (bchain k8a k8a.size k9)) (by unfold maxLen; omega) (by omega) k9.size ?_; intro v10 w10 hown10 hgrow10 _hat10; clear _hat10; obtain ⟨Ah, ch, rfl⟩ := owns_form hown10; have k10 : Below wz.heap.size wz w10 := k9.grown hgrow10 k9.size (own_ge hown9'); have bz10 := boxed_below Hbz.out k10; have bc10 := bz10.cell; have bf10 := bz10.frozen)
                  | fail)
                all_goals (refine NoPanic.normal ?_)
                all_goals
                  have y10 : w10.cell? ⟨w8.heap.size, 2, none⟩ = some (.string t2) := keep_cell k10 y2
                  go_wp2
                  go_step3
                  refine ⟨rfl, ?_, ?_⟩
                  · refine RJ_of (.slice A3 al c3) (.slice Ah (pn + (nn - (k + 1))) ch) (a) (partsL xt ++ ns.drop (k + 1)) (hq + 1) B D rfl rfl rfl rfl rfl rfl rfl ⟨hBw, hDw, ?_, bz10.set _, strsAt_setBox (HMk.out _ _ _ hown10) bz10 ⟨_, _, _, rfl⟩, Hno.out, strsAt_setBox (strsAt_below HA.out (bchain k8a k8a.size k10)) bz10 ⟨_, _, _, rfl⟩, deferred_setBox (deferred_below HD.out (bchain k8a k8a.size k10)) bz10, Ha.out, Hkd.out, HnsN.out, ?_, by omega, ?_⟩
                    · exact (bchain hbr hbr.size (bchain k8a k8a.size k10)).setCell (p := ⟨B, 0, none⟩) hBw _
                    · rw [Hlen3.out]; omega
                    · rw [show 8 - (hq + 1) = m8 by omega, HhX.out]
                  · show 8 - hopsOf _ < 8 - hopsOf _
                    unfold hopsOf
                    simp [intOf]
                    omega
          · have hkk : ¬ (xk = 1 ∧ k + 1 < nn) := by
              rintro ⟨h1, h2⟩
              exact hk1 ⟨h1, fun e => by have h3 := Hrl.out; rw [e] at h3; simp at h3; omega⟩
            have Hr := Lib.hid (HfD.out.trans (walk1_go Hdd.out hx hk1 hk3))
            have hg2 : Here L (a ++ [n]) := ⟨good_snoc Ha.out.1 (Hnn1.out.2 Hdd.out), _, hx, hk3⟩
            have Hg2 := Lib.hid hg2
            have hE3 : (xk == 3) = false := by simpa using hk3
            have hE3b : (xk != 3) = true := by simpa using hk3
            clear hk1 hk3 hx hg2 hxps ht2
            by_cases hx1 : xk = 1
            · subst hx1
              have hkl : k + 1 = nn := by omega
              have hkl2 : (nn : Int) - 1 = k := by omega
              clear hkk
              go_wp2_with (first
                | (at_builtin; refine wpList_append_grows _ rfl (Operand.tmp 58) (Operand.tmp 60) 43 rfl 9 i0 (.string ⟨#[]⟩) 1 16 Tryd.underlying43 hi hz0 hz1 hz2 rfl (by decide) A3 al al (rowP a) rfl Hnil.out Hal.out (fun ad e j u hu => Hsrc.out ad e _ (below_alloc _ _) j u hu) ⟨wr.heap.size, 0, none⟩ 1 1 [.string t] rfl rfl (cell_one_new _ _ _) (by simp [Value.oneCell']) (by omega) (by omega) (by omega) ?_; intro v6 w6 hown6 hgrow6; have k6 : Below wr.heap.size wr w6 := (below_alloc wr _).grown hgrow6 (by simp) (fun j hj => by cases hj); have hS6 := Hrest0.out w6 v6 _ hown6)
                | (go_at_call 18; refine (HJ.out _ _ hS6).mono ?_; rintro e w7 ⟨rfl, hb7⟩; have k7 := bchain k6 k6.size hb7)
                | (go_at_call 13; (with_reducible refine (HF2.out _ (HN.out.below (bchain hbr hbr.size k7))).mono ?_); rintro e w8 ⟨rfl, hb8⟩; have k8 := bchain k7 k7.size hb8; have k8a := (k8.alloc k8.size (.cells #[.string xps, .int .i64 1, .string t2] 32)); have bxx := boxed_below (boxed_below (boxed_below Hbox.out k6) hb7) hb8; have bx := bxx.cell; have hBlt := bxx.lt)
                | (at_builtin; refine wpList_append_grows _ rfl (Operand.tmp 89) (Operand.tmp 91) 43 rfl 9 i0 (.string ⟨#[]⟩) 1 16 Tryd.underlying43 hi hz0 hz1 hz2 rfl (by decide) A3 al al (rowP a) rfl Hnil.out Hal.out (fun ad e j u hu => Hsrc.out ad e _ (k8a.alloc k8a.size _) j u hu) ⟨w8.heap.size + 1, 0, none⟩ 1 1 [.string t] rfl rfl (cell_one_at w8 _ _ _) (by simp [Value.oneCell']) (by omega) (by omega) (by omega) ?_; intro v9 w9 hown9 hgrow9; have kz9 : Below (w8.alloc (.cells #[.string xps, .int .i64 1, .string t2] 32)).heap.size (w8.alloc (.cells #[.string xps, .int .i64 1, .string t2] 32)) w9 := (below_alloc _ _).grown hgrow9 (by simp) (fun j hj => by cases hj); have k9 := bchain k8a k8a.size kz9; have y1 := ((Trio.new w8 (.string xps) (.int .i64 1) (.string t2)).below kz9).c1; have hS9 := Hrest0.out w9 v9 _ hown9))
              go_roundw
              case rel => exact ⟨rfl, k + 1, _, _, by rw [Hnn.out]; omega, by go_num, rfl, nilOk_own hown9, hS9, Hg2.out, Hkf.out, bchain hb hb.size k9, Hr.out⟩
              case measure => (simp [intOf] <;> omega)
            · have hE1 : (xk == 1) = false := by simpa using hx1
              clear hkk
              go_wp2_with (first
                | (at_builtin; refine wpList_append_grows _ rfl (Operand.tmp 58) (Operand.tmp 60) 43 rfl 9 i0 (.string ⟨#[]⟩) 1 16 Tryd.underlying43 hi hz0 hz1 hz2 rfl (by decide) A3 al al (rowP a) rfl Hnil.out Hal.out (fun ad e j u hu => Hsrc.out ad e _ (below_alloc _ _) j u hu) ⟨wr.heap.size, 0, none⟩ 1 1 [.string t] rfl rfl (cell_one_new _ _ _) (by simp [Value.oneCell']) (by omega) (by omega) (by omega) ?_; intro v6 w6 hown6 hgrow6; have k6 : Below wr.heap.size wr w6 := (below_alloc wr _).grown hgrow6 (by simp) (fun j hj => by cases hj); have hS6 := Hrest0.out w6 v6 _ hown6)
                | (go_at_call 18; refine (HJ.out _ _ hS6).mono ?_; rintro e w7 ⟨rfl, hb7⟩; have k7 := bchain k6 k6.size hb7)
                | (go_at_call 13; (with_reducible refine (HF2.out _ (HN.out.below (bchain hbr hbr.size k7))).mono ?_); rintro e w8 ⟨rfl, hb8⟩; have k8 := bchain k7 k7.size hb8; have k8a := (k8.alloc k8.size (.cells #[.string xps, .int .i64 xk, .string t2] 32)); have bxx := boxed_below (boxed_below (boxed_below Hbox.out k6) hb7) hb8; have bx := bxx.cell; have hBlt := bxx.lt)
                | (at_builtin; refine wpList_append_grows _ rfl (Operand.tmp 89) (Operand.tmp 91) 43 rfl 9 i0 (.string ⟨#[]⟩) 1 16 Tryd.underlying43 hi hz0 hz1 hz2 rfl (by decide) A3 al al (rowP a) rfl Hnil.out Hal.out (fun ad e j u hu => Hsrc.out ad e _ (k8a.alloc k8a.size _) j u hu) ⟨w8.heap.size + 1, 0, none⟩ 1 1 [.string t] rfl rfl (cell_one_at w8 _ _ _) (by simp [Value.oneCell']) (by omega) (by omega) (by omega) ?_; intro v9 w9 hown9 hgrow9; have kz9 : Below (w8.alloc (.cells #[.string xps, .int .i64 xk, .string t2] 32)).heap.size (w8.alloc (.cells #[.string xps, .int .i64 xk, .string t2] 32)) w9 := (below_alloc _ _).grown hgrow9 (by simp) (fun j hj => by cases hj); have k9 := bchain k8a k8a.size kz9; have y1 := ((Trio.new w8 (.string xps) (.int .i64 xk) (.string t2)).below kz9).c1; have hS9 := Hrest0.out w9 v9 _ hown9))
              go_roundw
              case rel => exact ⟨rfl, k + 1, _, _, by rw [Hnn.out]; omega, by go_num, rfl, nilOk_own hown9, hS9, Hg2.out, Hkf.out, bchain hb hb.size k9, Hr.out⟩
              case measure => (simp [intOf] <;> omega)

  · intro hpass
    go_wp2_with (first
      | (go_at_call 14; refine (C _ HN.out).mono ?_; rintro e w1 ⟨rfl, hb1⟩)
      | (go_at_call 17; refine (R _).mono ?_; rintro e w2 ⟨rfl, rfl⟩)
      | (go_at_call 15; refine (callsIn_wide.1 (all_in 3 s _)).mono ?_; rintro e w' ⟨rfl, rfl⟩))
    have bO := Boxed.new w1 43 (.slice none 0 0)
    have bN := Boxed.new (w1.alloc (.cells #[.slice none 0 0] 43)) 9 (.string s)
    rw [World.size_alloc] at bN
    have hB0 : Below w1.heap.size w1 ((w1.alloc (.cells #[.slice none 0 0] 43)).alloc (.cells #[.string s] 9)) := ((Below.refl _ w1).alloc (Nat.le_refl _) _).alloc (by simp) _
    refine (wpIn_wide (n := 3)).1 ?_
    refine wpIn_rangeFunc_ownG rfl (show 1 ≤ 3 by omega) (gf := 27) (lb := #[.pointer (some ⟨w1.heap.size + 1, 0, none⟩)]) rfl trivial (enters_of Tryd.func27 (by kernel_rfl) rfl)
      (names_stops _ (by omega) (w1.heap.size + 1) w1.heap.size s _ (by simp) bN.cell) belowK_t (belowK_b (by simp; omega)) (Below.refl _ _) (fun _ => rfl)
      (fun pre W => (∃ v, Boxed W w1.heap.size 43 v ∧ W.ownsRow w1.heap.size 9 1 v pre.length (rowP (unS pre)) ∧ True) ∧ Below w1.heap.size w1 W)
      (fun _ _ _ => False)
      (OwnFrom.and (Own.from (holdsRow_own w1.heap.size w1.heap.size 43 9 1 (fun pre : List ByteArray => pre.length) (fun pre : List ByteArray => rowP (unS pre)) (fun pre v => True)) _) (ownFrom_below (Nat.le_refl _) (by simp; omega)))
      (fun _ _ _ _ _ hs _ _ => hs)
      ⟨⟨_, bO.alloc _, World.ownsRow_nil _ _ _ _, trivial⟩, hB0⟩
      (fun x => { tmps := #[Value.slice A nl c, Value.string s, undef, undef, Value.string { data := #[] }, Value.int IntKind.i64 0, Value.int IntKind.i64 0, Value.int IntKind.i64 0, Value.int IntKind.i64 z2, Value.slice none 0 0, Value.pointer (some { block := w1.heap.size, off := 0 }), .string x, undef, undef, undef, undef, undef, undef, Value.tuple #[Value.int IntKind.i64 0, Value.int IntKind.i64 z2], Value.slice A nl c, Value.tuple #[Value.int IntKind.i64 0, Value.int IntKind.i64 z2], Value.int IntKind.i64 0, Value.int IntKind.i64 z2, Value.int IntKind.i64 0, Value.bool false, undef, Value.string s, Value.bool true, Value.bool false, Value.string s, Value.func (Fn.func 27) #[] #[Value.pointer (some { block := w1.heap.size + 1, off := 0 })], .string x, undef, undef, undef, undef, undef, undef, undef, undef, undef, undef, undef, undef, undef, undef, undef, undef, undef, undef, undef, undef, undef, undef, undef, undef, undef, undef, undef, undef, undef, undef, undef, undef, undef, undef, undef, undef, undef, undef, undef, undef, undef, undef, undef, undef, undef, undef, undef, undef, undef, undef, undef, undef, undef, undef, undef, undef, undef, undef, undef, undef, undef, undef, undef, undef, undef, undef, undef, undef, undef, undef, undef, undef, undef, undef, undef, undef, undef, undef, undef, undef, undef, undef, undef], defers := [] }) ?assign ?body ?done ?stop
    case assign =>
      intro l x W K hK
      gi_wp2
      exact hK
    case body =>
      rintro l pre x W ⟨⟨v, hv, hrow, -⟩, hB⟩ hlt
      have hc := hv.cell
      gi_wp2_with (gi_at_builtin; refine wpListIn_append_own _ rfl _ _ 43 rfl w1.heap.size 9 i0 (.string ⟨#[]⟩) 1 16 Tryd.underlying43 hi hz0 hz1 hz2 rfl (by decide) _ _ _ rfl (hrow.alloc _) ⟨W.heap.size, 0, none⟩ 1 1 [.string x] rfl rfl (cell_one_new _ _ _) (by simp [Value.oneCell']) (by omega) (by omega) (by have := hB.size; simp; omega) ?_; intro v' w5 hown' hgrow _; obtain ⟨g', cap', rfl⟩ := ownsRow_succ hown'; obtain ⟨hv1, hv2, hr2, hk2, hb2⟩ := hv.appended (by decide) hrow hB.size (Nat.le_refl _) hown' hgrow; have hc1 := hv1.cell; have hf1 := hv1.frozen)
      exact ⟨hk2.from _, hb2, ⟨_, hv2, by rw [unS_snoc, List.length_append]; exact hr2, trivial⟩, hB.trans hb2⟩
    case done =>
      rintro D ys W hD rfl ⟨⟨v, hv, hrow, -⟩, hB⟩ hK
      have hc := hv.cell
      have hl : (namesS s).length = (namesL s.data.toList).length := by rw [← unS_names, unS_len]
      rw [unS_names, hl] at hrow
      go_wp2
      go_step3
      (try simp only [Exit.then])
      rename_i hK0
      refine hK0 _ _ ?_
      have hDge : w.heap.size ≤ D := by have := hb1.size; simp at hD; omega
      refine hpass _ _ ⟨fun i => ([Value.slice A nl c, Value.string s, undef, undef, Value.string { data := #[] }, Value.int IntKind.i64 0, Value.int IntKind.i64 0, Value.int IntKind.i64 0, Value.int IntKind.i64 z2, Value.slice none 0 0, Value.pointer (some { block := w1.heap.size, off := 0 }), undef, Value.int IntKind.i64 2, Value.int IntKind.i64 0, undef, undef, undef, undef, Value.tuple #[Value.int IntKind.i64 0, Value.int IntKind.i64 z2], Value.slice A nl c, Value.tuple #[Value.int IntKind.i64 0, Value.int IntKind.i64 z2], Value.int IntKind.i64 0, Value.int IntKind.i64 z2, Value.int IntKind.i64 0, Value.bool false, undef, Value.string s, Value.bool true, Value.bool false, Value.string s, Value.func (Fn.func 27) #[] #[Value.pointer (some { block := w1.heap.size + 1, off := 0 })], undef, undef, undef, undef, undef, undef, undef, undef, undef, undef, undef, undef, undef, undef, undef, undef, undef, undef, undef, undef, undef, undef, undef, undef, undef, undef, undef, undef, undef, undef, undef, undef, undef, undef, undef, undef, undef, undef, undef, undef, undef, undef, undef, undef, undef, undef, undef, undef, undef, undef, undef, undef, undef, undef, undef, undef, undef, undef, undef, undef, undef, undef, undef, undef, undef, undef, undef, undef, undef, undef, undef, undef, undef, undef, undef, undef, undef, undef, undef, undef, undef, undef, undef, undef] : List Value).getD i undef, .slice none 0 0, v, [], namesL s.data.toList, 0, w1.heap.size, D, rfl, hb1.size, hDge, bchain hb1 hb1.size hB, hv, strsAt_of_row hrow, nilOk_nil, ⟨none, 0, rfl, Nat.le_refl _, fun h => absurd h (by simp)⟩, hK, here_nil L, rfl, namesOk_names _, by omega, by omega, HF.out.symm⟩
    case stop =>
      rintro D c pre W _ _ h _
      exact h.elim
theorem resolve_any (nv : Value) (L : List Nod) (s : ByteArray) (w : World) (hN : NodesAt w nv L) (hS : ∀ x ∈ L, SizedN x) : Calls Tryd.prog 10 #[nv, .string s] w (Ret (resT (resolveV L s.data.toList)) w) := by
  by_cases h : (checkV L).1 = 0 ∧ rightB s.data.toList = true
  · have e : resolveV L s.data.toList = walkH L 8 [] (namesL s.data.toList) := by unfold resolveV; rw [if_pos h.1, if_pos h.2]
    rw [e]
    exact callsIn_wide.1 (resolve_late nv L s w hN hS h.1 h.2)
  · exact resolve_early nv L s w hN hS h
end Go.Proofs.YtnjpodbefcfdhaaDoor
