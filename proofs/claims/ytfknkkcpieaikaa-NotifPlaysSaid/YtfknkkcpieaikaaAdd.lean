/- Add, Len. Condition: the table can be read. -/
import Derived.Test.YtfknkkcpieaikaaSend
import Derived.StillTailTactics
import Derived.Deep.RegionLaw
import Derived.BigRegion
namespace Go.Proofs.Ytfknkkcpieaikaa
open Go.RowKit
set_option linter.unusedVariables false
set_option linter.unusedSimpArgs false

theorem step_len {w : World} {B n : Nat} {f : Int → Option Nat} {ops : Array Oper} {o : Oper} {a : Act} {K : Act → World → Prop} {Q : Exit → Act → World → Prop} {E : Prop} (hgd : o.guard = none) (m : Operand)
    (ho : o.op = .call { callee := .builtin .len, args := #[m], argTypes := #[60] }) (hm : a.eval m = .map (some B)) (hM : MapIs w B n f) (h : K (a.put o.dst (.int .i64 n)) w) :
    if Region.wanted o (yielded ops a.tmps) = true then Oper.wp Try.prog o a w K Q else E := by
  have hw : Region.wanted o (yielded ops a.tmps) = true := by simp [Region.wanted, hgd]
  rw [if_pos hw]
  have hrun := hM.len o.type
  unfold Oper.wp execOp
  simp only [ho, resolve, invoke, builtin, Sem.run_bind, Sem.run_pure, Result.andThen_ok, List.map_toArray, List.map_cons, List.map_nil, hm, hrun]
  exact h
theorem below_drewN {B : Nat} {w w' : World} (h : Below B w w') (d : Nat) : Below B w (w'.drewN d) := ⟨h.os, h.tape, h.output, h.size, h.block⟩
def fresh (T : Tb) (n : Int) : Ent := ⟨T.next, n, 1, T.wait, 0, 0⟩
def pushT (T : Tb) (n : Int) : Tb := { T with next := T.next + 1, L := T.L ++ [fresh T n] }
def addT (T : Tb) (n : Int) : Int × Int × Tb :=
  if n < 1 ∨ 4 < n then (0, 1, T)
  else match ofL T.L n with
    | some _ => (0, 21, T)
    | none => if T.size ≤ T.L.length ∨ T.next = 18446744073709551615 then (0, 16, T) else (T.next, 0, pushT T n)
theorem Fine.push {T : Tb} (h : Fine T) {n : Int} (h1 : 1 ≤ n) (h4 : n ≤ 4) (hof : ofL T.L n = none) (hl : (T.L.length : Int) < T.size) (hn : T.next < 18446744073709551615) : Fine (pushT T n) := by
  have ht : ∀ x ∈ T.L, x.task ≠ n := fun x hx e => by
    have := List.find?_eq_none.1 hof x hx
    simp [e] at this
  have hm : ∀ x ∈ (pushT T n).L, x ∈ T.L ∨ x = fresh T n := fun x hx => by simpa [pushT] using hx
  have n1 := h.n1
  refine ⟨h.s1, h.s2, h.w1, h.w2, by show 0 ≤ T.next + 1; omega, by show T.next + 1 < _; omega, h.e1, h.e2, ?_, ?_, ?_, fun x hx => ?_, fun x hx => ?_, fun x hx => ?_, fun x hx => ?_, fun x hx => ?_⟩
  · show (((T.L ++ [fresh T n]).length : Nat) : Int) ≤ T.size
    rw [List.length_append]; simp; omega
  · show (T.L ++ [fresh T n]).Pairwise _
    rw [List.pairwise_append]
    exact ⟨h.rise, by simp, fun a ha b hb => by simp at hb; subst hb; exact (h.ids a ha).2⟩
  · show (T.L ++ [fresh T n]).Pairwise _
    rw [List.pairwise_append]
    exact ⟨h.tasks, by simp, fun a ha b hb => by simp at hb; subst hb; exact ht a ha⟩
  · rcases hm x hx with hx | rfl
    · have := h.ids x hx; show 0 ≤ x.id ∧ x.id < T.next + 1; omega
    · show 0 ≤ T.next ∧ T.next < T.next + 1; omega
  · rcases hm x hx with hx | rfl
    · exact h.tsk x hx
    · exact ⟨h1, h4⟩
  · rcases hm x hx with hx | rfl
    · exact h.wait x hx
    · exact fun _ => ⟨h.w1, Int.le_refl _⟩
  · rcases hm x hx with hx | rfl
    · exact h.done x hx
    · intro h; simp [fresh, Ent.waits] at h
  · rcases hm x hx with hx | rfl
    · exact h.st x hx
    · show (1 : Int) ≤ 1 ∧ (1 : Int) ≤ 4; decide
def setP (P : Int → Nat) (id : Int) (pn : Nat) : Int → Nat := fun k => if k = id then pn else P k
theorem TabAt.push {w w' : World} {b B : Nat} {P : Int → Nat} {T : Tb} {n : Int} {pn : Nat} {S : Nat → Prop} (h : TabAt w b B P T) (hF : Fine (pushT T n)) (hu : Upto S w w') (hS : ∀ k, S k → k = b ∨ k = B) (hpn : w.heap.size ≤ pn) (hq : Quint w' b (pushT T n) B) (hm : MapIs w' B (T.L.length + 1) (upd (ptrF P T.L) T.next pn)) (hE : EntAt w' pn (fresh T n)) :
    TabAt w' b B (setP P T.next pn) (pushT T n) := by
  have hmm : ∀ x ∈ (pushT T n).L, x ∈ T.L ∨ x = fresh T n := fun x hx => by simpa [pushT] using hx
  have hP : ∀ x ∈ T.L, setP P T.next pn x.id = P x.id := fun x hx => by
    have := h.f.ids x hx
    unfold setP
    rw [if_neg (by omega)]
  have hPf : setP P T.next pn (fresh T n).id = pn := if_pos rfl
  have hlt : ∀ x ∈ T.L, P x.id < pn := fun x hx => Nat.lt_of_lt_of_le (h.e x hx).lt hpn
  refine ⟨hq, ?_, fun x hx => ?_, h.ne, fun x hx => ?_, fun x hx y hy e => ?_, hF⟩
  · have e : ptrF (setP P T.next pn) (pushT T n).L = upd (ptrF P T.L) T.next pn := by
      funext k
      unfold ptrF upd
      show Option.map _ (getL (T.L ++ [fresh T n]) k) = _
      unfold getL
      rw [List.find?_append]
      by_cases e : k = T.next
      · subst e
        have : List.find? (fun x => x.id == T.next) T.L = none := List.find?_eq_none.2 (fun x hx => by have := h.f.ids x hx; simp; omega)
        rw [this, if_pos rfl, Option.none_or, List.find?_cons, show ((fresh T n).id == T.next) = true by simp [fresh]]
        exact congrArg some hPf
      · rw [if_neg e]
        show _ = Option.map (fun x => P x.id) (List.find? (fun x => x.id == k) T.L)
        cases hf : List.find? (fun x => x.id == k) T.L with
        | none =>
          rw [Option.none_or, List.find?_cons, show ((fresh T n).id == k) = false by simpa [fresh] using fun h => e h.symm]
          rfl
        | some x =>
          rw [Option.some_or]
          show some (setP P T.next pn x.id) = some (P x.id)
          rw [hP x (List.mem_of_find?_eq_some hf)]
    show MapIs w' B (T.L ++ [fresh T n]).length _
    rw [e, List.length_append]
    exact hm
  · rcases hmm x hx with hx | rfl
    · rw [hP x hx]
      exact (h.e x hx).upto hu (fun hs => by rcases hS _ hs with e | e; exact (h.nb x hx).1 e; exact (h.nb x hx).2 e)
    · rw [hPf]; exact hE
  · rcases hmm x hx with hx | rfl
    · rw [hP x hx]; exact h.nb x hx
    · rw [hPf]
      have h1 := h.q.lt
      have h2 := h.m.lt
      omega
  · rcases hmm x hx with hx | rfl <;> rcases hmm y hy with hy | rfl
    · rw [hP x hx, hP y hy] at e; exact h.inj x hx y hy e
    · rw [hP x hx, hPf] at e
      have := hlt x hx; omega
    · rw [hP y hy, hPf] at e
      have := hlt y hy; omega
    · rfl
set_option maxRecDepth 100000 in
theorem len_any (b B : Nat) (P : Int → Nat) (T : Tb) (w : World) (h : TabAt w b B P T) : Calls Try.prog 20 #[.pointer (some ⟨b, 0, none⟩)] w (fun e w' => e = .returned (.int .i64 (T.L.length : Nat)) ∧ w = w') := by
  have c4 := h.q.c4
  have hlen := h.m.len 3
  obtain ⟨n, hn⟩ : ∃ n, T.L.length = n := ⟨_, rfl⟩
  rw [hn] at hlen ⊢
  clear h hn
  go_enter Try.func20, Try.ntmps20
  go_wp2
  go_ret
  exact ⟨rfl, rfl⟩
set_option maxRecDepth 100000 in
set_option maxHeartbeats 4000000 in
theorem add_any (b B : Nat) (P : Int → Nat) (T : Tb) (n : Int) (w : World) (h : TabAt w b B P T) : Calls Try.prog 21 #[.pointer (some ⟨b, 0, none⟩), .int .i64 n] w (TPost b B P T.L (addT T n).2.2 (.tuple #[.int .u64 (addT T n).1, .int .i64 (addT T n).2.1]) w) := by
  have H := Lib.hid h
  have Hsame := fun (w' : World) (hb : Below w.heap.size w w') => show ∃ P', TabAt w' b B P' T ∧ Upto (Own b B P T.L) w w' ∧ ∀ x ∈ T.L, Own b B P T.L (P' x.id) ∨ w.heap.size ≤ P' x.id from ⟨P, h.below hb, below_upto hb, fun x hx => .inl (.inr (.inr ⟨x, hx, rfl⟩))⟩
  have HS := Lib.hid Hsame
  have O := of_any b B P T n w h
  unfold addT
  clear h Hsame
  by_cases h1 : n < 1
  · rw [if_pos (.inl h1)]
    clear O
    go_enter Try.func21, Try.ntmps21
    go_wp2
    go_ret2
    exact ⟨rfl, HS.out _ (Below.refl _ _)⟩
  have h1' : 1 ≤ n := by omega
  by_cases h4 : 4 < n
  · rw [if_pos (.inr h4)]
    clear O h1
    go_enter Try.func21, Try.ntmps21
    go_wp2
    go_ret2
    exact ⟨rfl, HS.out _ (Below.refl _ _)⟩
  have h4' : n ≤ 4 := by omega
  rw [if_neg (by omega)]
  clear h1 h4
  cases hof : ofL T.L n with
  | some x =>
    rw [hof] at O
    have O2 : Calls Try.prog 25 #[.pointer (some ⟨b, 0, none⟩), .int .i64 n] w (fun e w' => e = .returned (.pointer (some ⟨P x.id, 0, none⟩)) ∧ Below w.heap.size w w') := O
    clear O hof
    go_enter Try.func21, Try.ntmps21
    go_wp2_with (go_at_call 25; (with_reducible refine O2.mono ?_); rintro e_ w1 ⟨rfl, hb⟩)
    go_ret2
    exact ⟨rfl, HS.out _ hb⟩
  | none =>
    rw [hof] at O
    have O2 : Calls Try.prog 25 #[.pointer (some ⟨b, 0, none⟩), .int .i64 n] w (fun e w' => e = .returned (.pointer none) ∧ Below w.heap.size w w') := O
    have Hof := Lib.hid hof
    clear O hof
    simp only
    have hbw := H.out.lt (.inl rfl)
    obtain ⟨m, hm⟩ : ∃ m, T.L.length = m := ⟨_, rfl⟩
    obtain ⟨sz, hsz⟩ : ∃ m, T.size = m := ⟨_, rfl⟩
    obtain ⟨nx, hnx⟩ : ∃ m, T.next = m := ⟨_, rfl⟩
    have Hm := Lib.hid hm
    have Hsz := Lib.hid hsz
    have Hnx := Lib.hid hnx
    rw [hm, hsz, hnx]
    clear hm hsz hnx
    by_cases hfull : sz ≤ m
    · rw [if_pos (.inl hfull)]
      go_enter Try.func21, Try.ntmps21
      go_upto_region 5 with (go_at_call 25; (with_reducible refine O2.mono ?_); rintro e_ w1 ⟨rfl, hb⟩)
      have hT1 := H.out.below hb
      have c0 := hT1.q.c0
      have c4 := hT1.q.c4
      have c2 := hT1.q.c2
      rw [Hsz.out] at c0
      rw [Hnx.out] at c2
      have hlen : ∀ q, (Builtin.len_ #[60] 3 #[.map (some B)]).run Try.prog (w1.drewN q) = .ok (.int .i64 m) (w1.drewN q) := fun q => by
        have := (hT1.m.upto (drewN_upto (fun _ => False) w1 q) (fun h => h)).len 3
        rwa [Hm.out] at this
      have hge : decide (sz ≤ (m : Int)) = true := by simpa using hfull
      clear hT1
      go_quiet (fail)
      go_wp2
      go_ret2
      exact ⟨rfl, HS.out _ (below_drewN hb _)⟩
    · have hnf : (m : Int) < sz := by omega
      by_cases hmax : nx = 18446744073709551615
      · rw [if_pos (.inr hmax)]
        subst hmax
        go_enter Try.func21, Try.ntmps21
        go_upto_region 5 with (go_at_call 25; (with_reducible refine O2.mono ?_); rintro e_ w1 ⟨rfl, hb⟩)
        have hT1 := H.out.below hb
        have c0 := hT1.q.c0
        have c4 := hT1.q.c4
        have c2 := hT1.q.c2
        rw [Hsz.out] at c0
        rw [Hnx.out] at c2
        have hlen : ∀ q, (Builtin.len_ #[60] 3 #[.map (some B)]).run Try.prog (w1.drewN q) = .ok (.int .i64 m) (w1.drewN q) := fun q => by
          have := (hT1.m.upto (drewN_upto (fun _ => False) w1 q) (fun h => h)).len 3
          rwa [Hm.out] at this
        have hge : decide (sz ≤ (m : Int)) = false := by simpa using hnf
        clear hT1
        go_quiet (fail)
        go_wp2
        go_ret2
        exact ⟨rfl, HS.out _ (below_drewN hb _)⟩
      · rw [if_neg (by omega)]
        have hF := H.out.f.push h1' h4' Hof.out (by rw [Hm.out, Hsz.out]; exact hnf) (by have := H.out.f.n2; rw [Hnx.out] at this ⊢; omega)
        have HF := Lib.hid hF
        have hn1 := H.out.f.n1
        have hn2 := H.out.f.n2
        rw [Hnx.out] at hn1 hn2
        have hU64 : U64 nx := U64.of hn1 hn2
        have hnE : (nx == 18446744073709551615) = false := by simpa using hmax
        have hwrap : IntKind.u64.wrap (nx + 1) = nx + 1 := by rw [IntKind.wrap_u64]; omega
        have HU := Lib.hid hU64
        obtain ⟨wt, hwt⟩ : ∃ m, T.wait = m := ⟨_, rfl⟩
        have Hwt := Lib.hid hwt
        have hgood : (m : Int) < sz := hnf
        clear hF hmax hfull hU64 hwt
        go_enter Try.func21, Try.ntmps21
        go_upto_region 5 with (go_at_call 25; (with_reducible refine O2.mono ?_); rintro e_ w1 ⟨rfl, hb⟩)
        have hT1 := H.out.below hb
        have c0 := hT1.q.c0
        have c4 := hT1.q.c4
        have c2 := hT1.q.c2
        rw [Hsz.out] at c0
        rw [Hnx.out] at c2
        have hlen : ∀ q, (Builtin.len_ #[60] 3 #[.map (some B)]).run Try.prog (w1.drewN q) = .ok (.int .i64 m) (w1.drewN q) := fun q => by
          have := (hT1.m.upto (drewN_upto (fun _ => False) w1 q) (fun h => h)).len 3
          rwa [Hm.out] at this
        have hge : decide (sz ≤ (m : Int)) = false := by simpa using hnf
        have HT1 := Lib.hid hT1
        clear hT1
        go_quiet (fail)
        obtain ⟨W2, hW2⟩ : ∃ W, w1.drewN nq = W := ⟨_, rfl⟩
        have u2 := drewN_upto (fun _ => False) w1 nq
        rw [hW2] at u2 ⊢
        have hT2 := HT1.out.upto u2 (fun _ _ h => h)
        have b2 := hT2.q.c2
        rw [Hnx.out] at b2
        have z2 := hT2.q.fz 2
        have HT2 := Lib.hid hT2
        have HU2 : Hid (Upto (Own b B P T.L) w W2) := Lib.hid ((below_upto hb).then (u2.mono (fun _ h => h.elim)))
        clear c0 c4 c2 hlen hge hW2 u2 hT2 HT1 hb
        go_upto_region 9 with fail
        have u3 := set_upto W2 b 2 (.int .u64 (nx + 1))
        have hq3 : Quint (W2.setCell ⟨b, 2, none⟩ (.int .u64 (nx + 1))) b (pushT T n) B := by
          have h1 := cells_set (o := 2) HT2.out.q (.int .u64 (nx + 1))
          rw [← Hnx.out] at h1 ⊢
          exact h1
        obtain ⟨W3, hW3⟩ : ∃ W, W2.setCell ⟨b, 2, none⟩ (.int .u64 (nx + 1)) = W := ⟨_, rfl⟩
        rw [hW3] at u3 hq3 ⊢
        have c4 := hq3.c4
        have c1 := hq3.c1
        rw [show (pushT T n).wait = wt from Hwt.out] at c1
        have HQ3 := Lib.hid hq3
        have Hu3 := Lib.hid u3
        clear u3 hq3 hW3 b2 z2
        have u23 : Upto (fun k => k = b) W2 W3 := Hu3.out
        have hm3 := HT2.out.m.upto u23 (fun e => HT2.out.ne e.symm)
        have hba := below_alloc W3 (.cells #[.int .u64 nx, .int .i64 n, .int .i64 1, .int .i64 wt, .int .i64 0, .int .i64 0] 37)
        have c4a := keep_cell hba c4
        have c1a := keep_cell hba c1
        have hs2 := H.out.f.s2
        rw [Hsz.out] at hs2
        have hmd : MapIs (W3.alloc (.cells #[.int .u64 nx, .int .i64 n, .int .i64 1, .int .i64 wt, .int .i64 0, .int .i64 0] 37)).drew B T.L.length (ptrF P T.L) := hm3.below hba.drew
        obtain ⟨w6, hrun, hm6, hu6', hs6⟩ := hmd.put (by rw [Hm.out]; omega) (x := nx) (c := W3.heap.size) HU.out
        have hu6 : Upto (fun k => k = B) (W3.alloc (.cells #[.int .u64 nx, .int .i64 n, .int .i64 1, .int .i64 wt, .int .i64 0, .int .i64 0] 37)) w6 := ((Upto.refl _ _).drew).then hu6'
        have hnone : (ptrF P T.L nx).isSome = false := by
          cases hg : getL T.L nx with
          | none => unfold ptrF; rw [hg]; rfl
          | some y =>
            obtain ⟨hy, hid⟩ := getL_mem hg
            have := H.out.f.ids y hy
            rw [Hnx.out] at this
            omega
        rw [hnone] at hm6
        have hE6 : EntAt w6 W3.heap.size (fresh T n) := by
          have h1 : EntAt (W3.alloc (.cells #[.int .u64 nx, .int .i64 n, .int .i64 1, .int .i64 wt, .int .i64 0, .int .i64 0] 37)) W3.heap.size (fresh T n) := by
            rw [← Hnx.out, ← Hwt.out]; exact World.alloc_heap_new W3 _
          exact h1.upto hu6 (by have := hm3.lt; show ¬ W3.heap.size = B; omega)
        have hq6 : Quint w6 b (pushT T n) B := (HQ3.out.upto (below_upto (S := fun _ => False) hba) (fun h => h)).upto hu6 HT2.out.ne
        have HW4 : Hid (W2.heap.size ≤ W3.heap.size) := Lib.hid u23.size
        have hu26 : Upto (fun k => k = b ∨ k = B) W2 w6 := ((u23.mono (fun k hk => .inl (.inl hk))).then (below_upto hba)).then (hu6.mono (fun k hk => .inl (.inr hk)))
        have HT6 : Hid (TabAt w6 b B (setP P T.next W3.heap.size) (pushT T n)) := Lib.hid (HT2.out.push HF.out hu26 (fun k hk => hk) HW4.out hq6 (by rw [Hnx.out]; exact hm6) hE6)
        have HU6 : Hid (Upto (Own b B P T.L) w w6) := Lib.hid (HU2.out.then (hu26.mono (fun k hk => .inl (by rcases hk with e | e; exact .inl e; exact .inr (.inl e)))))
        have HWw : Hid (w.heap.size ≤ W3.heap.size) := Lib.hid (Nat.le_trans HU2.out.size HW4.out)
        clear u23 hm3 hba hm6 hu6 hu6' hs6 hnone hE6 hq6 hu26 hmd
        go_region
        go_wp2
        go_ret2
        refine ⟨rfl, _, HT6.out, HU6.out, fun x hx => ?_⟩
        rcases (show x ∈ T.L ∨ x = fresh T n by simpa [pushT] using hx) with hx | rfl
        · have := H.out.f.ids x hx
          unfold setP
          rw [if_neg (by omega)]
          exact .inl (.inr (.inr ⟨x, hx, rfl⟩))
        · unfold setP
          rw [if_pos (show (fresh T n).id = T.next from rfl)]
          exact .inr HWw.out
end Go.Proofs.Ytfknkkcpieaikaa
