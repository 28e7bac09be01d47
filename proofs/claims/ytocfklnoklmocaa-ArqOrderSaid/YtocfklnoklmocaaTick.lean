/- Ids and Tick of the timers. Conditions: the timers can be read; what each has left is 1 to every, every 1 to 1000; they are no more than a million. -/
import Derived.Test.YtocfklnoklmocaaRise
namespace Go.Proofs.Ytocfklnoklmocaa
open Go.RowKit Go.Maps
set_option linter.unusedVariables false
set_option linter.unusedSimpArgs false

theorem NumsAt.turn {w w' : World} {v : Value} {xs : List Int} {B K : Nat} {f : Int → Option Int} (h : NumsAt w v xs) (hm : MapIs w B K f) (hu : Upto (fun k => k = B) w w') : NumsAt w' v xs := by
  obtain ⟨A, c, rfl, h⟩ := h
  refine ⟨A, c, rfl, fun h0 => ?_⟩
  obtain ⟨g, o, rfl, hc⟩ := h h0
  refine ⟨g, o, rfl, fun j x hx => hu.cell ?_ (hc j x hx)⟩
  intro e
  have e : g = B := e
  subst e
  obtain ⟨D, ⟨es, clock, hh, _⟩, _⟩ := hm
  have := hc j x hx
  simp [World.cell?, hh] at this

theorem NumsAt.form {w : World} {v : Value} {xs : List Int} (h : NumsAt w v xs) : ∃ A c, v = .slice A xs.length c := by
  obtain ⟨A, c, rfl, _⟩ := h
  exact ⟨A, c, rfl⟩
def IdsPost (K : Nat) (f : Int → Option Int) (p : Int → Bool) (w : World) (en : Ending) (w' : World) : Prop :=
  ∃ A c ks, en = .returned (.slice A ks.length c) ∧ NumsAt w' (.slice A ks.length c) ks ∧ Keys f p ks ∧ ((∀ x ∈ ks, U64 x) ∧ ∀ a, A = some a → w.heap.size ≤ a.block) ∧ ks.length ≤ K ∧ Below w.heap.size w w'
theorem rise_all' (B K : Nat) (f : Int → Option Int) (w : World) (hK : K ≤ 1000000) (h : MapIs w B K f) : Calls Try.prog 22 #[.map (some B), .func (.func 24) #[] #[]] w (IdsPost K f (fun _ => true) w) :=
  (rise_all B K f w hK h).mono (fun e w' ⟨v, ks, h1, h2, h3, h4, h5⟩ => by obtain ⟨A, c, rfl⟩ := h2.form; exact ⟨A, c, ks, h1, h2, h3, ⟨h4.1, fun a ha => h4.2 a _ _ (by rw [ha])⟩, h5⟩)
theorem rise_zero' (B K : Nat) (f : Int → Option Int) (w : World) (hK : K ≤ 1000000) (h : MapIs w B K f) : Calls Try.prog 22 #[.map (some B), .func (.func 23) #[] #[]] w (IdsPost K f (fun c => c == 0) w) :=
  (rise_zero B K f w hK h).mono (fun e w' ⟨v, ks, h1, h2, h3, h4, h5⟩ => by obtain ⟨A, c, rfl⟩ := h2.form; exact ⟨A, c, ks, h1, h2, h3, ⟨h4.1, fun a ha => h4.2 a _ _ (by rw [ha])⟩, h5⟩)

theorem ids_any (b B K : Nat) (e : Int) (f : Int → Option Int) (w : World) (hK : K ≤ 1000000) (h : TimAt w b B K e f) : Calls Try.prog 20 #[.pointer (some ⟨b, 0, none⟩)] w (IdsPost K f (fun _ => true) w) := by
  have R := rise_all' B K f w hK h.2.2.2
  have e0 := h.1
  have e1 := h.2.1
  clear h
  go_enter Try.func20, Try.ntmps20
  go_wp2_with (go_at_call 22; (with_reducible refine R.mono ?_); rintro e w1 ⟨A, c, ks, rfl, hn, hk, hu, hl, hb⟩)
  go_ret
  exact ⟨A, c, ks, rfl, hn, hk, hu, hl, hb⟩

/-! ### what a tick makes of it -/
def Fine (e : Int) (f : Int → Option Int) : Prop := 1 ≤ e ∧ e ≤ 1000 ∧ ∀ x c, f x = some c → 1 ≤ c ∧ c ≤ e
def decF (f : Int → Option Int) (l : List Int) : Int → Option Int := fun y => if y ∈ l then (f y).map (· - 1) else f y
def putF (f : Int → Option Int) (e : Int) (l : List Int) : Int → Option Int := fun y => if y ∈ l then some e else f y
def tickF (e : Int) (f : Int → Option Int) : Int → Option Int := fun y => (f y).map (fun c => if c = 1 then e else c - 1)
theorem decF_succ {f : Int → Option Int} {ks : List Int} {j : Nat} {x c : Int} (hn : ks.Nodup) (hj : ks[j]? = some x) (hf : f x = some c) : decF f (ks.take (j + 1)) = upd (decF f (ks.take j)) x (c - 1) := by
  have hnew : x ∉ ks.take j := by
    intro hx
    obtain ⟨i, hi⟩ := List.getElem?_of_mem hx
    have hil := (List.getElem?_eq_some_iff.1 hi).1
    have hij : i < j := by simp at hil; omega
    rw [List.getElem?_take_of_lt hij] at hi
    obtain ⟨h1, h1'⟩ := List.getElem?_eq_some_iff.1 hi
    obtain ⟨h2, h2'⟩ := List.getElem?_eq_some_iff.1 hj
    exact (List.pairwise_iff_getElem.1 hn) i j h1 h2 hij (h1'.trans h2'.symm)
  funext y
  unfold decF upd
  rw [List.take_add_one, hj]
  by_cases e : y = x
  · subst e
    simp [hf]
  · simp [e]
theorem decF_at {f : Int → Option Int} {ks : List Int} {j : Nat} {x c : Int} (hn : ks.Nodup) (hj : ks[j]? = some x) (hf : f x = some c) : decF f (ks.take j) x = some c := by
  have hnew : x ∉ ks.take j := by
    intro hx
    obtain ⟨i, hi⟩ := List.getElem?_of_mem hx
    have hil := (List.getElem?_eq_some_iff.1 hi).1
    have hij : i < j := by simp at hil; omega
    rw [List.getElem?_take_of_lt hij] at hi
    obtain ⟨h1, h1'⟩ := List.getElem?_eq_some_iff.1 hi
    obtain ⟨h2, h2'⟩ := List.getElem?_eq_some_iff.1 hj
    exact (List.pairwise_iff_getElem.1 hn) i j h1 h2 hij (h1'.trans h2'.symm)
  unfold decF
  rw [if_neg hnew, hf]
theorem putF_succ {f : Int → Option Int} {e : Int} {ks : List Int} {j : Nat} {x : Int} (hj : ks[j]? = some x) : putF f e (ks.take (j + 1)) = upd (putF f e (ks.take j)) x e := by
  funext y
  unfold putF upd
  rw [List.take_add_one, hj]
  by_cases h : y = x
  · subst h
    simp
  · simp [h]
theorem decF_nil (f : Int → Option Int) (l : List Int) : decF f (l.take 0) = f := by funext y; simp [decF]
theorem putF_nil (f : Int → Option Int) (e : Int) (l : List Int) : putF f e (l.take 0) = f := by funext y; simp [putF]
theorem putF_some {f : Int → Option Int} {e : Int} {ks : List Int} {j : Nat} {x : Int} (h : (f x).isSome = true) : (putF f e (ks.take j) x).isSome = true := by
  unfold putF
  split
  · rfl
  · exact h
theorem nodup_keys {f : Int → Option Int} {p : Int → Bool} {ks : List Int} (h : Keys f p ks) : ks.Nodup := h.1.imp (fun {a b} h => Int.ne_of_lt h)
theorem dec_all {f : Int → Option Int} {ks : List Int} (h : Keys f (fun _ => true) ks) : decF f ks = fun y => (f y).map (· - 1) := by
  funext y
  unfold decF
  split
  · rfl
  · rename_i hn
    cases hf : f y with
    | none => rfl
    | some c => exact absurd ((h.2 y).2 ⟨c, hf, rfl⟩) hn
theorem tick_all {e : Int} {f : Int → Option Int} {ks : List Int} (h : Keys (fun y => (f y).map (· - 1)) (fun c => c == 0) ks) : putF (fun y => (f y).map (· - 1)) e ks = tickF e f ∧ Keys f (fun c => c == 1) ks := by
  have hm : ∀ x, x ∈ ks ↔ f x = some 1 := fun x => by
    rw [h.2 x]
    constructor
    · rintro ⟨c, h1, h2⟩
      obtain ⟨d, hd, rfl⟩ := Option.map_eq_some_iff.1 h1
      have : d - 1 = 0 := by simpa using h2
      rw [hd]; congr 1; omega
    · intro hf
      exact ⟨0, by show (f x).map _ = _; rw [hf]; rfl, rfl⟩
  refine ⟨?_, h.1, fun x => ?_⟩
  · funext y
    unfold putF tickF
    cases hf : f y with
    | none =>
      have : y ∉ ks := fun hy => by rw [hm y, hf] at hy; cases hy
      simp [this, hf]
    | some c =>
      by_cases hc : c = 1
      · subst hc
        have : y ∈ ks := (hm y).2 hf
        simp [this, hf]
      · have : y ∉ ks := fun hy => by rw [hm y, hf] at hy; exact hc (by cases hy; rfl)
        simp [this, hc, hf]
  · rw [hm x]
    constructor
    · intro hf; exact ⟨1, hf, rfl⟩
    · rintro ⟨c, h1, h2⟩
      have : c = 1 := by simpa using h2
      rw [h1, this]
theorem Fine.tick {e : Int} {f : Int → Option Int} (h : Fine e f) : Fine e (tickF e f) := by
  refine ⟨h.1, h.2.1, fun x c hc => ?_⟩
  unfold tickF at hc
  obtain ⟨d, hd, rfl⟩ := Option.map_eq_some_iff.1 hc
  have h1 := h.2.2 x d hd
  have h2 := h.1
  split <;> omega
theorem Fine.upd {e : Int} {f : Int → Option Int} (h : Fine e f) (x : Int) : Fine e (upd f x e) := by
  refine ⟨h.1, h.2.1, fun y c hc => ?_⟩
  unfold Ytocfklnoklmocaa.upd at hc
  have h2 := h.1
  split at hc
  · cases hc; omega
  · exact h.2.2 y c hc
theorem Fine.del {e : Int} {f : Int → Option Int} (h : Fine e f) (x : Int) : Fine e (del f x) := by
  refine ⟨h.1, h.2.1, fun y c hc => ?_⟩
  unfold Ytocfklnoklmocaa.del at hc
  split at hc
  · cases hc
  · exact h.2.2 y c hc
theorem wf_small {c : Int} (h1 : 0 ≤ c) (h2 : c ≤ 1000) : (Lit.int .i64 c).wf = true := WalkArith.wf_i64 (by omega)
def TickPost (b B K : Nat) (e : Int) (f : Int → Option Int) (w : World) (en : Ending) (w' : World) : Prop :=
  ∃ A c ks, en = .returned (.slice A ks.length c) ∧ NumsAt w' (.slice A ks.length c) ks ∧ Keys f (fun c => c == 1) ks ∧ ((∀ x ∈ ks, U64 x) ∧ ∀ a, A = some a → w.heap.size ≤ a.block) ∧ ks.length ≤ K ∧ TimAt w' b B K e (tickF e f) ∧ Upto (fun k => k = B) w w'

set_option maxRecDepth 100000 in
set_option maxHeartbeats 4000000 in
theorem tick_any (b B K : Nat) (e : Int) (f : Int → Option Int) (w : World) (hK : K ≤ 900000) (hF : Fine e f) (h : TimAt w b B K e f) : Calls Try.prog 18 #[.pointer (some ⟨b, 0, none⟩)] w (TickPost b B K e f w) := by
  have I := ids_any b B K e f w (by omega) h
  have H := Lib.hid h
  have HF := Lib.hid hF
  clear h hF
  go_enter Try.func18, Try.ntmps18
  go_wp2_with (go_at_call 20; (with_reducible refine I.mono ?_); rintro e_ w1 ⟨A, c, ks, rfl, hn, hk, hu, hl, hb⟩)
  have T1 := H.out.below hb
  have HT1 := Lib.hid T1
  have Hn := Lib.hid hn
  have Hk := Lib.hid hk
  have Hu := Lib.hid hu.1
  have hB1 := below_upto (S := fun k => k = B) hb
  have HB1 := Lib.hid hB1
  obtain ⟨n, hnl⟩ : ∃ n, ks.length = n := ⟨_, rfl⟩
  rw [hnl] at Hn hl ⊢
  have Hnl := Lib.hid hnl
  clear hn hk hu hb hB1 T1 hnl
  go_loopw [11] (fun i wr => ∃ j : Nat, j ≤ n ∧ i = .int .i64 j ∧ Upto (fun k => k = B) w1 wr ∧ MapIs wr B K (decF f (ks.take j))) (fun i _ => n - (intOf i).toNat)
  case atStart => exact ⟨0, Nat.zero_le _, rfl, Upto.refl _ _, by rw [decF_nil]; exact HT1.out.2.2.2⟩
  case round =>
    obtain ⟨j, hj, rfl, hup, hm⟩ := hrel
    have Hup := Lib.hid hup
    have Hm := Lib.hid hm
    clear hup hm
    have TW := HT1.out.turn Hup.out Hm.out
    have c0 := TW.1
    have c1 := TW.2.1
    have HTW := Lib.hid TW
    clear TW
    by_cases hlt : j < n
    · have hlt' : (j : Int) < n := by omega
      have hN := Hn.out.turn HT1.out.2.2.2 Hup.out
      obtain ⟨x, hx⟩ : ∃ x, ks[j]? = some x := ⟨_, List.getElem?_eq_getElem (by rw [Hnl.out]; exact hlt)⟩
      obtain ⟨A', c', e1, hcl⟩ := hN
      injection e1 with e1 e2 e3
      subst e1
      obtain ⟨g, o, rfl, hcl2⟩ := hcl (by rw [Hnl.out]; omega)
      have hcx := hcl2 j x hx
      have hxU := Hu.out x (List.mem_of_getElem? hx)
      obtain ⟨d, hd, _⟩ := (Hk.out.2 x).1 (List.mem_of_getElem? hx)
      have hd1 := HF.out.2.2 x d hd
      have hd2 := HF.out.2.1
      have hdx := decF_at (nodup_keys Hk.out) hx hd
      have hlook := Hm.out.look hxU
      rw [hdx] at hlook
      have hlook2 : (Instr.lookup 53 (.map (some B)) (.int .u64 x) false).run Try.prog wr = .ok (.int .i64 d) wr := hlook
      obtain ⟨w', hrun, hm', hu', hs'⟩ := Hm.out.put (by omega) hxU (c := d - 1) (wf_small (by omega) (by omega))
      rw [hdx, if_pos (show (some d).isSome = true from rfl), ← decF_succ (nodup_keys Hk.out) hx hd] at hm'
      have Hm' := Lib.hid hm'
      have Hu' := Lib.hid hu'
      have hd1a := hd1.1
      have hd1b : d ≤ 1000 := by omega
      clear hcl hcl2 e2 e3 hlook hm' hu' hx hd1 hd2 hdx hd hxU hs'
      go_wp2
      go_roundw
      case rel => exact ⟨j + 1, by omega, by go_num, Hup.out.then Hu'.out, Hm'.out⟩
      case measure => (simp [intOf] <;> omega)
    · obtain rfl : n = j := by omega
      have hall : ks.take n = ks := List.take_of_length_le (by rw [Hnl.out]; exact Nat.le_refl _)
      have hm2 := Hm.out
      rw [hall, dec_all Hk.out] at hm2
      have R := rise_zero' B K _ wr (by omega) hm2
      have Hm2 := Lib.hid hm2
      clear hall hm2 Hm
      go_wp2_with (go_at_call 22; (with_reducible refine R.mono ?_); rintro e_ w2 ⟨A2, c2, ks2, rfl, hn2, hk2, hu2, hl2, hb2⟩)
      have hB2 := below_upto (S := fun k => k = B) hb2
      have T2 := (HTW.out.turn (Upto.refl _ _) Hm2.out).below hb2
      have HT2 := Lib.hid T2
      have Hn2 := Lib.hid hn2
      have Hk2 := Lib.hid (tick_all (e := e) hk2)
      have Hk3 := Lib.hid hk2
      have Hu2 := Lib.hid hu2.1
      have HFr := Lib.hid (show ∀ a, A2 = some a → w.heap.size ≤ a.block from fun a ha => Nat.le_trans (HB1.out.then Hup.out).size (hu2.2 a ha))
      have HUp2 := Lib.hid ((HB1.out.then Hup.out).then hB2)
      obtain ⟨n2, hnl2⟩ : ∃ n, ks2.length = n := ⟨_, rfl⟩
      rw [hnl2] at Hn2 hl2 ⊢
      have Hnl2 := Lib.hid hnl2
      clear hn2 hk2 hu2 hb2 hB2 T2 hnl2 R
      go_loopw [30] (fun i wr => ∃ j : Nat, j ≤ n2 ∧ i = .int .i64 j ∧ Upto (fun k => k = B) w2 wr ∧ MapIs wr B K (putF (fun y => (f y).map (· - 1)) e (ks2.take j))) (fun i _ => n2 - (intOf i).toNat)
      case atStart => exact ⟨0, Nat.zero_le _, rfl, Upto.refl _ _, by rw [putF_nil]; exact HT2.out.2.2.2⟩
      case round =>
        obtain ⟨j2, hj2, rfl, hup, hm⟩ := hrel
        have Hup3 := Lib.hid hup
        have Hm3 := Lib.hid hm
        clear hup hm c0 c1
        have TW3 := HT2.out.turn Hup3.out Hm3.out
        have c0 := TW3.1
        have c1 := TW3.2.1
        have HTW3 := Lib.hid TW3
        clear TW3
        by_cases hlt2 : j2 < n2
        · have hlt2' : (j2 : Int) < n2 := by omega
          have hN := Hn2.out.turn HT2.out.2.2.2 Hup3.out
          obtain ⟨x, hx⟩ : ∃ x, ks2[j2]? = some x := ⟨_, List.getElem?_eq_getElem (by rw [Hnl2.out]; exact hlt2)⟩
          obtain ⟨A', c', e1, hcl⟩ := hN
          injection e1 with e1 e2 e3
          subst e1
          obtain ⟨g, o, rfl, hcl2⟩ := hcl (by rw [Hnl2.out]; omega)
          have hcx := hcl2 j2 x hx
          have hxU := Hu2.out x (List.mem_of_getElem? hx)
          obtain ⟨d, hd, _⟩ := (Hk3.out.2 x).1 (List.mem_of_getElem? hx)
          have hdx := putF_some (f := fun y => (f y).map (· - 1)) (x := x) (e := e) (ks := ks2) (j := j2) (show ((fun y => (f y).map (· - 1)) x).isSome = true by rw [hd]; rfl)
          have hmd : MapIs wr.drew B K (putF (fun y => (f y).map (· - 1)) e (ks2.take j2)) := Hm3.out
          obtain ⟨w', hrun, hm', hu', hs'⟩ := hmd.put (by omega) hxU (c := e) (wf_small (by have := HF.out.1; omega) HF.out.2.1)
          rw [hdx, if_pos rfl, ← putF_succ hx] at hm'
          have Hm' := Lib.hid hm'
          have Hu' := Lib.hid (((Upto.refl (fun k => k = B) wr).drew).then hu')
          clear hcl hcl2 e2 e3 hm' hu' hx hdx hd hxU hs' hmd
          go_wp2
          go_region
          go_wp2
          go_roundw
          case rel => exact ⟨j2 + 1, by omega, by go_num, Hup3.out.then Hu'.out, Hm'.out⟩
          case measure => (simp [intOf] <;> omega)
        · obtain rfl : n2 = j2 := by omega
          have hall : ks2.take n2 = ks2 := List.take_of_length_le (by rw [Hnl2.out]; exact Nat.le_refl _)
          have hm4 := Hm3.out
          rw [hall, Hk2.out.1] at hm4
          have hn4 := Hn2.out.turn HT2.out.2.2.2 Hup3.out
          have HE := Lib.hid (show TickPost b B K e f w (.returned (.slice A2 n2 c2)) wr from ⟨A2, c2, ks2, by rw [Hnl2.out], by rw [Hnl2.out]; exact hn4, Hk2.out.2, ⟨Hu2.out, HFr.out⟩, by rw [Hnl2.out]; omega, HT2.out.turn Hup3.out hm4, HUp2.out.then Hup3.out⟩)
          clear hall hm4 hn4
          go_wp2
          go_ret
          exact HE.out
end Go.Proofs.Ytocfklnoklmocaa
