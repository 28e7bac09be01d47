/- A table some notifications of which have turned. No conditions. -/
import Derived.Test.YtfknkkcpieaikaaIds
namespace Go.Proofs.Ytfknkkcpieaikaa
open Go.RowKit
set_option linter.unusedVariables false
set_option linter.unusedSimpArgs false

def mapT (T : Tb) (g : Ent → Ent) : Tb := { T with L := T.L.map g }
/-- g lets stand who it is. -/
def Keeps (g : Ent → Ent) : Prop := ∀ x, (g x).id = x.id ∧ (g x).task = x.task
/-- x is as a table of such a wait may have it. -/
def EFine (wait : Int) (x : Ent) : Prop := (x.waits = true → 1 ≤ x.left ∧ x.left ≤ wait) ∧ (x.waits = false → x.kind ≠ 0) ∧ 1 ≤ x.st ∧ x.st ≤ 4
theorem Fine.each {T : Tb} (h : Fine T) {x : Ent} (hx : x ∈ T.L) : EFine T.wait x := ⟨h.wait x hx, h.done x hx, h.st x hx⟩
theorem Fine.map {T : Tb} (h : Fine T) {g : Ent → Ent} (hk : Keeps g) (he : ∀ x ∈ T.L, EFine T.wait (g x)) : Fine (mapT T g) := by
  have hm : ∀ x ∈ T.L.map g, ∃ y ∈ T.L, g y = x := fun x hx => by simpa using hx
  refine ⟨h.s1, h.s2, h.w1, h.w2, h.n1, h.n2, h.e1, h.e2, by simpa [mapT] using h.len, ?_, ?_, fun x hx => ?_, fun x hx => ?_, fun x hx => ?_, fun x hx => ?_, fun x hx => ?_⟩
  · show (T.L.map g).Pairwise _
    rw [List.pairwise_map]
    exact h.rise.imp (fun {a b} hab => by rw [(hk a).1, (hk b).1]; exact hab)
  · show (T.L.map g).Pairwise _
    rw [List.pairwise_map]
    exact h.tasks.imp (fun {a b} hab => by rw [(hk a).2, (hk b).2]; exact hab)
  · obtain ⟨y, hy, rfl⟩ := hm x hx
    rw [(hk y).1]; exact h.ids y hy
  · obtain ⟨y, hy, rfl⟩ := hm x hx
    rw [(hk y).2]; exact h.tsk y hy
  · obtain ⟨y, hy, rfl⟩ := hm x hx
    exact (he y hy).1
  · obtain ⟨y, hy, rfl⟩ := hm x hx
    exact (he y hy).2.1
  · obtain ⟨y, hy, rfl⟩ := hm x hx
    exact (he y hy).2.2
theorem getL_map {L : List Ent} {g : Ent → Ent} (hk : Keeps g) (id : Int) : getL (L.map g) id = (getL L id).map g := by
  unfold getL
  rw [List.find?_map]
  congr 2
  funext x
  simp [(hk x).1]
theorem ptrF_map {L : List Ent} {g : Ent → Ent} (hk : Keeps g) (P : Int → Nat) : ptrF P (L.map g) = ptrF P L := by
  funext id
  unfold ptrF
  rw [getL_map hk]
  cases getL L id <;> simp [(hk _).1]
section
variable {w w' : World} {b B : Nat} {P : Int → Nat} {T : Tb} {S : Nat → Prop}
theorem TabAt.map (h : TabAt w b B P T) {g : Ent → Ent} (hk : Keeps g) (hf : ∀ x ∈ T.L, EFine T.wait (g x)) (hu : Upto S w w') (hb : ¬ S b) (hB : ¬ S B) (he : ∀ x ∈ T.L, EntAt w' (P x.id) (g x)) : TabAt w' b B P (mapT T g) := by
  have hm : ∀ x ∈ T.L.map g, ∃ y ∈ T.L, g y = x := fun x hx => by simpa using hx
  refine ⟨h.q.upto hu hb, ?_, fun x hx => ?_, h.ne, fun x hx => ?_, fun x hx y hy e => ?_, h.f.map hk hf⟩
  · show MapIs w' B (T.L.map g).length (ptrF P (T.L.map g))
    rw [ptrF_map hk, List.length_map]
    exact h.m.upto hu hB
  · obtain ⟨y, hy, rfl⟩ := hm x hx
    rw [(hk y).1]; exact he y hy
  · obtain ⟨y, hy, rfl⟩ := hm x hx
    rw [(hk y).1]; exact h.nb y hy
  · obtain ⟨x', hx', rfl⟩ := hm x hx
    obtain ⟨y', hy', rfl⟩ := hm y hy
    rw [(hk x').1, (hk y').1] at *
    exact h.inj x' hx' y' hy' e
end
def one (k : Int) (g : Ent → Ent) : Ent → Ent := fun x => if x.id = k then g x else x
theorem one_keeps {k : Int} {g : Ent → Ent} (h : Keeps g) : Keeps (one k g) := fun x => by
  unfold one
  split
  · exact h x
  · exact ⟨rfl, rfl⟩
theorem go_keeps (k : Int) : Keeps (fun x => x.go k) := fun x => ⟨rfl, rfl⟩
theorem go_fine (k wait : Int) (hk : k ≠ 0) (x : Ent) : EFine wait (x.go k) := by
  unfold EFine Ent.go Ent.waits
  simp [hk]
/-- One notification has turned. -/
theorem TabAt.one {w w' : World} {b B : Nat} {P : Int → Nat} {T : Tb} (h : TabAt w b B P T) {x : Ent} (hx : x ∈ T.L) {g : Ent → Ent} (hk : Keeps g) (hf : EFine T.wait (g x)) (hu : Upto (fun k => k = P x.id) w w') (he : EntAt w' (P x.id) (g x)) : TabAt w' b B P (mapT T (one x.id g)) := by
  have hn := h.nb x hx
  refine h.map (one_keeps hk) (fun y hy => ?_) hu (fun e => hn.1 e.symm) (fun e => hn.2 e.symm) (fun y hy => ?_)
  · unfold Ytfknkkcpieaikaa.one
    by_cases e : y.id = x.id
    · rw [if_pos e, ids_same h.f.rise hy hx e]; exact hf
    · rw [if_neg e]; exact h.f.each hy
  · unfold Ytfknkkcpieaikaa.one
    by_cases e : y.id = x.id
    · rw [if_pos e, ids_same h.f.rise hy hx e]; exact he
    · rw [if_neg e]
      exact (h.e y hy).upto hu (fun e2 => e (h.inj y hy x hx e2))
/-- What a call leaves: the table T', no block turned but the table's own. -/
def TPost (b B : Nat) (P : Int → Nat) (L : List Ent) (T' : Tb) (r : Value) (w : World) (e : Ending) (w' : World) : Prop :=
  e = .returned r ∧ ∃ P', TabAt w' b B P' T' ∧ Upto (Own b B P L) w w' ∧ ∀ x ∈ T'.L, Own b B P L (P' x.id) ∨ w.heap.size ≤ P' x.id
theorem own_map {b B : Nat} {P : Int → Nat} {L : List Ent} {g : Ent → Ent} (hk : Keeps g) {x : Ent} (hx : x ∈ L.map g) : Own b B P L (P x.id) := by
  obtain ⟨y, hy, rfl⟩ : ∃ y ∈ L, g y = x := by simpa using hx
  rw [(hk y).1]
  exact .inr (.inr ⟨y, hy, rfl⟩)
theorem upto_own {w w' : World} {b B : Nat} {P : Int → Nat} {L : List Ent} {x : Ent} (hx : x ∈ L) (h : Upto (fun k => k = P x.id) w w') : Upto (Own b B P L) w w' := h.mono (fun k hk => .inl (.inr (.inr ⟨x, hx, hk⟩)))

/-! ### Kill -/
def killT (T : Tb) (n : Int) : Bool × Tb :=
  match ofL T.L n with
  | none => (false, T)
  | some x => if x.waits then (true, mapT T (one x.id (fun y => y.go 4))) else (false, T)
set_option maxRecDepth 100000 in
theorem kill_any (b B : Nat) (P : Int → Nat) (T : Tb) (n : Int) (w : World) (h : TabAt w b B P T) : Calls Try.prog 23 #[.pointer (some ⟨b, 0, none⟩), .int .i64 n] w (TPost b B P T.L (killT T n).2 (.bool (killT T n).1) w) := by
  have O := of_any b B P T n w h
  have H := Lib.hid h
  unfold killT
  cases hof : ofL T.L n with
  | none =>
    rw [hof] at O
    have O2 : Calls Try.prog 25 #[.pointer (some ⟨b, 0, none⟩), .int .i64 n] w (fun e w' => e = .returned (.pointer none) ∧ Below w.heap.size w w') := O
    clear O h hof
    go_enter Try.func23, Try.ntmps23
    go_wp2_with (go_at_call 25; (with_reducible refine O2.mono ?_); rintro e w1 ⟨rfl, hb1⟩)
    go_ret
    exact ⟨rfl, P, H.out.below hb1, below_upto hb1, fun x hx => .inl (.inr (.inr ⟨x, hx, rfl⟩))⟩
  | some x =>
    obtain ⟨hx, hxn⟩ := ofL_mem hof
    rw [hof] at O
    have O2 : Calls Try.prog 25 #[.pointer (some ⟨b, 0, none⟩), .int .i64 n] w (fun e w' => e = .returned (.pointer (some ⟨P x.id, 0, none⟩)) ∧ Below w.heap.size w w') := O
    have HE := Lib.hid (h.e x hx)
    obtain ⟨p, hp⟩ : ∃ p, P x.id = p := ⟨_, rfl⟩
    rw [hp] at O2 HE
    have Hx := Lib.hid hx
    have Hp := Lib.hid hp
    obtain ⟨t, ht⟩ : ∃ t, x.waits = t := ⟨_, rfl⟩
    have Ht := Lib.hid ht
    simp only [ht]
    clear O h hof hx hxn hp ht
    cases t with
    | false =>
      go_enter Try.func23, Try.ntmps23
      go_wp2_with (first
        | (go_at_call 25; (with_reducible refine O2.mono ?_); rintro e w1 ⟨rfl, hb1⟩; have W1 := waits_any p x w1 (HE.out.below hb1); rw [Ht.out] at W1)
        | (go_at_call 26; (with_reducible refine W1.mono ?_); rintro e w2 ⟨rfl, rfl⟩))
      go_ret
      exact ⟨rfl, P, H.out.below hb1, below_upto hb1, fun x hx => .inl (.inr (.inr ⟨x, hx, rfl⟩))⟩
    | true =>
      go_enter Try.func23, Try.ntmps23
      go_wp2_with (first
        | (go_at_call 25; (with_reducible refine O2.mono ?_); rintro e w1 ⟨rfl, hb1⟩; have W1 := waits_any p x w1 (HE.out.below hb1); rw [Ht.out] at W1; have G1 := gone_any p x 4 w1 (HE.out.below hb1))
        | (go_at_call 26; (with_reducible refine W1.mono ?_); rintro e w2 ⟨rfl, rfl⟩)
        | (go_at_call 28; (with_reducible refine G1.mono ?_); rintro e w3 ⟨rfl, hE3, hu3⟩))
      go_ret
      have e1 := Hp.out
      subst e1
      exact ⟨rfl, P, (H.out.below hb1).one Hx.out (go_keeps 4) (go_fine 4 _ (by decide) x) hu3 hE3, (below_upto hb1).then (upto_own Hx.out hu3), fun y hy => .inl (own_map (one_keeps (go_keeps 4)) hy)⟩
end Go.Proofs.Ytfknkkcpieaikaa
