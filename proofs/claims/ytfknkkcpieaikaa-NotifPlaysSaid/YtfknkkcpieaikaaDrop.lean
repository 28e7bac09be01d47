/- Drop, Rise. Condition: the table can be read. -/
import Derived.Test.YtfknkkcpieaikaaMap
namespace Go.Proofs.Ytfknkkcpieaikaa
open Go.RowKit
set_option linter.unusedVariables false
set_option linter.unusedSimpArgs false

/-- The first j of ks have turned. -/
def stage (ks : List Int) (j : Nat) (g : Ent → Ent) : Ent → Ent := fun x => if x.id ∈ ks.take j then g x else x
theorem stage_keeps {ks : List Int} {j : Nat} {g : Ent → Ent} (h : Keeps g) : Keeps (stage ks j g) := fun x => by
  unfold stage
  split
  · exact h x
  · exact ⟨rfl, rfl⟩
theorem stage_zero (ks : List Int) (g : Ent → Ent) (T : Tb) : mapT T (stage ks 0 g) = T := by
  unfold mapT
  have : stage ks 0 g = id := by funext x; simp [stage]
  rw [this, List.map_id]
theorem not_take {ks : List Int} (hn : ks.Pairwise (· < ·)) {j : Nat} {k : Int} (hk : ks[j]? = some k) : k ∉ ks.take j := by
  intro hx
  obtain ⟨i, hi⟩ := List.getElem?_of_mem hx
  have hij : i < j := by have := (List.getElem?_eq_some_iff.1 hi).1; simp at this; omega
  rw [List.getElem?_take_of_lt hij] at hi
  obtain ⟨h1, h1'⟩ := List.getElem?_eq_some_iff.1 hi
  obtain ⟨h2, h2'⟩ := List.getElem?_eq_some_iff.1 hk
  have := (List.pairwise_iff_getElem.1 hn) i j h1 h2 hij
  omega
theorem stage_succ {ks : List Int} (hn : ks.Pairwise (· < ·)) {j : Nat} {k : Int} (hk : ks[j]? = some k) {g : Ent → Ent} (hg : Keeps g) (T : Tb) : mapT (mapT T (stage ks j g)) (one k g) = mapT T (stage ks (j + 1) g) := by
  unfold mapT
  congr 1
  rw [List.map_map]
  congr 1
  funext x
  have hnot := not_take hn hk
  show one k g (stage ks j g x) = stage ks (j + 1) g x
  unfold one
  rw [(stage_keeps hg x).1]
  unfold stage
  rw [List.take_add_one, hk]
  by_cases e : x.id = k
  · subst e
    simp [hnot]
  · simp [e]
theorem stage_at {ks : List Int} (hn : ks.Pairwise (· < ·)) {j : Nat} {x : Ent} (hk : ks[j]? = some x.id) (g : Ent → Ent) : stage ks j g x = x := by
  unfold stage
  rw [if_neg (not_take hn hk)]
theorem stage_all {L : List Ent} (hr : L.Pairwise (fun x y => x.id < y.id)) (p : Ent → Bool) (g : Ent → Ent) {T : Tb} (hL : T.L = L) : mapT T (stage (idsL L p) (idsL L p).length g) = mapT T (fun x => if p x then g x else x) := by
  unfold mapT
  congr 1
  apply List.map_congr_left
  intro x hx
  unfold stage
  rw [List.take_of_length_le (Nat.le_refl _)]
  rw [hL] at hx
  by_cases h : p x = true
  · rw [if_pos ((idsL_mem hr p x.id).2 ⟨x, getL_of hr hx, h⟩), if_pos h]
  · rw [if_neg (fun hm => h ?_), if_neg h]
    obtain ⟨c, hc, hp⟩ := (idsL_mem hr p x.id).1 hm
    rw [getL_of hr hx] at hc
    cases hc
    exact hp
theorem NumsAt.upto {S : Nat → Prop} {w w' : World} {A : Option Addr} {n c : Nat} {xs : List Int} (h : NumsAt w (.slice A n c) xs) (hu : Upto S w w') (hA : ∀ a, A = some a → ¬ S a.block) : NumsAt w' (.slice A n c) xs := by
  obtain ⟨A', c', e, h2⟩ := h
  refine ⟨A', c', e, fun h0 => ?_⟩
  obtain ⟨g, o, e2, hc⟩ := h2 h0
  injection e with e3
  exact ⟨g, o, e2, fun j x hx => hu.cell (show ¬ S g from hA ⟨g, o, none⟩ (e3.trans e2)) (hc j x hx)⟩
theorem NumsAt.at' {w : World} {A : Option Addr} {c n : Nat} {xs : List Int} (h : NumsAt w (.slice A n c) xs) (h0 : 0 < n) : ∃ g o, A = some ⟨g, o, none⟩ ∧ ∀ (j : Nat) x, xs[j]? = some x → w.cell? ⟨g, o + j, none⟩ = some (.int .u64 x) := by
  obtain ⟨A', c', e, h⟩ := h
  injection e with e1 e2 e3
  subst e1 e2
  exact h h0
def dropT (T : Tb) : Tb := mapT T (fun x => if x.waits then x.go 7 else x)
set_option maxRecDepth 100000 in
theorem drop_any (b B : Nat) (P : Int → Nat) (T : Tb) (w : World) (h : TabAt w b B P T) : Calls Try.prog 24 #[.pointer (some ⟨b, 0, none⟩)] w (TPost b B P T.L (dropT T) (.tuple #[]) w) := by
  have I := ids_waits b B P T w h
  have H := Lib.hid h
  have hlen8 : T.L.length ≤ 8 := by have := h.f.len; have := h.f.s2; omega
  have hlk : (idsL T.L Ent.waits).length ≤ 8 := by unfold idsL; rw [List.length_map]; exact Nat.le_trans (List.length_filter_le _ _) hlen8
  clear h
  go_enter Try.func24, Try.ntmps24
  go_wp2_with (go_at_call 27; (with_reducible refine I.mono ?_); rintro e_ w1 ⟨A, c, rfl, hn, hfr, hb⟩)
  obtain ⟨ks, hks⟩ : ∃ ks, idsL T.L Ent.waits = ks := ⟨_, rfl⟩
  have Hks := Lib.hid hks
  have Hrise : Hid (ks.Pairwise (· < ·)) := Lib.hid (by rw [← hks]; exact idsL_rise H.out.f.rise _)
  rw [hks] at hn hlk ⊢
  obtain ⟨n, hnl⟩ : ∃ n, ks.length = n := ⟨_, rfl⟩
  rw [hnl] at hn hlk ⊢
  have Hnl := Lib.hid hnl
  have Hn := Lib.hid hn
  have Hfr := Lib.hid hfr
  have Hb := Lib.hid hb
  have HT1 : Hid (TabAt w1 b B P (mapT T (stage ks 0 (fun x => x.go 7)))) := Lib.hid (by rw [stage_zero]; exact H.out.below hb)
  clear hn hfr hb hks hnl I
  go_loopw [3, 7] (fun _ iv wr => ∃ j : Nat, j ≤ n ∧ iv = .int .i64 j ∧ TabAt wr b B P (mapT T (stage ks j (fun x => x.go 7))) ∧ Upto (Own b B P T.L) w1 wr) (fun _ iv _ => n - (intOf iv).toNat)
  case atStart => exact ⟨0, Nat.zero_le _, rfl, HT1.out, Upto.refl _ _⟩
  case round =>
    obtain ⟨j, hj, rfl, hT, hU⟩ := hrel
    have HT := Lib.hid hT
    have HU := Lib.hid hU
    have c4 := hT.q.c4
    by_cases hlt : j < n
    · have hlt' : (j : Int) < n := by omega
      obtain ⟨k, hk⟩ : ∃ k, ks[j]? = some k := ⟨_, List.getElem?_eq_getElem (by rw [Hnl.out]; exact hlt)⟩
      obtain ⟨x, hx, hw⟩ := (idsL_mem H.out.f.rise Ent.waits k).1 (by rw [Hks.out]; exact List.mem_of_getElem? hk)
      obtain ⟨hxL, rfl⟩ := getL_mem hx
      have hN := Hn.out.upto hU (fun a ha h => by have h1 := Hfr.out a ha; have h2 := H.out.lt h; omega)
      obtain ⟨g, o, rfl, hcl⟩ := hN.at' (by omega)
      have ck := hcl j x.id hk
      have hid := H.out.f.ids x hxL
      have hn2 := H.out.f.n2
      have hU64 : U64 x.id := U64.of hid.1 (by omega)
      have hlook := hT.look hU64
      have hget : getL (mapT T (stage ks j (fun x => x.go 7))).L x.id = some x := by
        show getL (T.L.map _) x.id = _
        rw [getL_map (stage_keeps (go_keeps 7)), hx]
        show some (stage ks j _ x) = _
        rw [stage_at Hrise.out hk]
      rw [hget] at hlook
      have hlook2 : (Instr.lookup 60 (.map (some B)) (.int .u64 x.id) false).run Try.prog wr = .ok (.pointer (some ⟨P x.id, 0, none⟩)) wr := hlook
      have hxm : x ∈ (mapT T (stage ks j (fun x => x.go 7))).L := (getL_mem hget).1
      have G1 := gone_any (P x.id) x 7 wr (hT.e x hxm)
      have HX := Lib.hid (show TabAt wr b B P (mapT T (stage ks j (fun x => x.go 7))) ∧ x ∈ (mapT T (stage ks j (fun x => x.go 7))).L ∧ ks[j]? = some x.id ∧ x ∈ T.L from ⟨hT, hxm, hk, hxL⟩)
      obtain ⟨p, hp⟩ : ∃ p, P x.id = p := ⟨_, rfl⟩
      obtain ⟨xi, hxi⟩ : ∃ i, x.id = i := ⟨_, rfl⟩
      rw [hxi] at ck hlook2
      rw [← hxi, hp] at hlook2
      rw [hxi] at hlook2
      rw [hp] at G1
      have Hp := Lib.hid hp
      clear hT hU hk hx hxL hw hN hcl hid hn2 hU64 hlook hget hxm hp hxi HT
      go_wp2_with (go_at_call 28; (with_reducible refine G1.mono ?_); rintro e_ w3 ⟨rfl, hE3, hu3⟩)
      have e1 := Hp.out
      subst e1
      have hst := stage_succ Hrise.out HX.out.2.2.1 (go_keeps 7) T
      have hT3 := HX.out.1.one HX.out.2.1 (go_keeps 7) (go_fine 7 _ (by decide) x) hu3 hE3
      rw [hst] at hT3
      have HT3 := Lib.hid hT3
      have HU3 := Lib.hid (HU.out.then (upto_own HX.out.2.2.2 hu3))
      clear hst hT3 hE3 hu3
      go_roundw
      case rel => exact ⟨j + 1, by omega, by go_num, HT3.out, HU3.out⟩
      case measure => (simp [intOf] <;> omega)
    · obtain rfl : n = j := by omega
      have hall := stage_all H.out.f.rise Ent.waits (fun x => x.go 7) (T := T) rfl
      rw [Hks.out, Hnl.out] at hall
      have HTE : Hid (TabAt wr b B P (dropT T)) := Lib.hid (by unfold dropT; rw [← hall]; exact hT)
      clear hT hU hall HT
      go_wp2
      go_end0
      exact ⟨rfl, P, HTE.out, (below_upto Hb.out).then HU.out, fun y hy => .inl (own_map (fun x => by by_cases hh : x.waits = true <;> simp [hh, Ent.go]) hy)⟩
def riseT (T : Tb) (e : Int) : Int × Tb := if e ≤ T.epoch then (22, T) else (0, dropT { T with epoch := e })
set_option maxRecDepth 100000 in
theorem rise_any (b B : Nat) (P : Int → Nat) (T : Tb) (e : Int) (he1 : 0 ≤ e) (he2 : e < 18446744073709551616) (w : World) (h : TabAt w b B P T) : Calls Try.prog 15 #[.pointer (some ⟨b, 0, none⟩), .int .u64 e] w (TPost b B P T.L (riseT T e).2 (.int .i64 (riseT T e).1) w) := by
  have c3 := h.q.c3
  have H := Lib.hid h
  unfold riseT
  by_cases hle : e ≤ T.epoch
  · rw [if_pos hle]
    obtain ⟨te, hte⟩ : ∃ t, T.epoch = t := ⟨_, rfl⟩
    rw [hte] at c3 hle
    clear h hte
    go_enter Try.func15, Try.ntmps15
    go_wp2
    go_ret
    exact ⟨rfl, P, H.out, Upto.refl _ _, fun x hx => .inl (.inr (.inr ⟨x, hx, rfl⟩))⟩
  · rw [if_neg hle]
    have z3 := h.q.fz 3
    have hgt : T.epoch < e := by omega
    have hu := set_upto w b 3 (.int .u64 e)
    have hT' : TabAt (w.setCell ⟨b, 3, none⟩ (.int .u64 e)) b B P { T with epoch := e } :=
      ⟨cells_set h.q _, h.m.upto hu (fun e => h.ne e.symm), fun x hx => (h.e x hx).upto hu (h.nb x hx).1, h.ne, h.nb, h.inj,
        ⟨h.f.s1, h.f.s2, h.f.w1, h.f.w2, h.f.n1, h.f.n2, he1, he2, h.f.len, h.f.rise, h.f.tasks, h.f.ids, h.f.tsk, h.f.wait, h.f.done, h.f.st⟩⟩
    have D := drop_any b B P _ _ hT'
    obtain ⟨te, hte⟩ : ∃ t, T.epoch = t := ⟨_, rfl⟩
    rw [hte] at c3 hgt
    have Hu := Lib.hid hu
    clear h hte hle hT' hu
    go_enter Try.func15, Try.ntmps15
    go_wp2_with (go_at_call 24; (with_reducible refine D.mono ?_); rintro e_ w3 ⟨rfl, P', hT3, hu3, hp3⟩)
    go_ret
    have hub : Upto (Own b B P T.L) w (w.setCell ⟨b, 3, none⟩ (.int .u64 e)) := Hu.out.mono (fun k hk => .inl (.inl hk))
    exact ⟨rfl, P', hT3, hub.then hu3, fun x hx => (hp3 x hx).imp id (fun h => by simpa [World.setCell] using h)⟩
end Go.Proofs.Ytfknkkcpieaikaa
