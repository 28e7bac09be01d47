/- What waits has ended behind as many ticks as it has left: the plain law of NotifTimes. No conditions. -/
import Derived.Test.YtfknkkcpieaikaaPlay
namespace Go.Proofs.Ytfknkkcpieaikaa
set_option linter.unusedVariables false
set_option linter.unusedSimpArgs false

/-- None that waits has more than k left. -/
def Bound (k : Int) (T : Tb) : Prop := ∀ x ∈ T.L, x.waits = true → x.left ≤ k
theorem Bound.map {k : Int} {T : Tb} (h : Bound k T) {g : Ent → Ent} (hg : ∀ x ∈ T.L, (g x).waits = true → x.waits = true ∧ (g x).left = x.left) : Bound k (mapT T g) := by
  intro y hy hw
  obtain ⟨x, hx, rfl⟩ : ∃ x ∈ T.L, g x = y := by simpa [mapT] using hy
  obtain ⟨h1, h2⟩ := hg x hx hw
  rw [h2]; exact h x hx h1
theorem go_waits (x : Ent) (k : Int) : (x.go k).waits = false := by simp [Ent.go, Ent.waits]
theorem Bound.send {k : Int} {T : Tb} (h : Bound k T) (hF : Fine T) : Bound k (sendT T).2.2 := by
  unfold sendT
  cases hf : T.L.find? isInit with
  | none => exact h
  | some x =>
    have hst : x.st = 1 := by have := List.find?_some hf; simpa [isInit] using this
    have hx := List.mem_of_find?_eq_some hf
    refine h.map (fun z hz hw => ?_)
    unfold one at hw ⊢
    by_cases e : z.id = x.id
    · have hzx := ids_same hF.rise hz hx e
      subst hzx
      rw [if_pos rfl]
      exact ⟨by simp [Ent.waits, hst], rfl⟩
    · rw [if_neg e] at hw ⊢
      exact ⟨hw, rfl⟩
theorem Bound.reply {k : Int} {T : Tb} (h : Bound k T) (ep id a v : Int) : Bound k (replyT T ep id a v).2 := by
  unfold replyT
  split
  · cases getL T.L id with
    | none => exact h
    | some x =>
      simp only
      split
      · split
        · refine h.map (fun z hz hw => ?_)
          unfold one at hw ⊢
          by_cases e : z.id = x.id
          · rw [if_pos e] at hw
            simp [Ent.waits, Ent.rep] at hw
          · rw [if_neg e] at hw ⊢
            exact ⟨hw, rfl⟩
        · exact h
      · exact h
  · exact h
theorem Bound.ended {k : Int} {T : Tb} (h : Bound k T) (n : Int) : Bound k (endedT T n).2.2 := by
  unfold endedT
  cases ofL T.L n with
  | none => exact h
  | some x =>
    simp only
    split
    · exact h
    · exact fun y hy hw => h y (rm_mem.1 hy).1 hw
theorem Bound.tick {k : Int} {T : Tb} (h : Bound k T) : Bound (k - 1) (tickT T) := by
  intro y hy hw
  obtain ⟨x, hx, rfl⟩ : ∃ x ∈ T.L, (if x.waits = true then gt x else x) = y := by simpa [tickT, mapT] using hy
  by_cases hxw : x.waits = true
  · rw [if_pos hxw] at hw ⊢
    unfold gt at hw ⊢
    by_cases hl : x.left = 1
    · rw [if_pos hl] at hw
      rw [go_waits] at hw
      cases hw
    · rw [if_neg hl]
      have := h x hx hxw
      show x.left - 1 ≤ k - 1
      omega
  · rw [if_neg hxw] at hw
    exact absurd hw hxw
theorem Bound.kill {k : Int} {T : Tb} (h : Bound k T) (n : Int) : Bound k (killT T n).2 := by
  unfold killT
  cases ofL T.L n with
  | none => exact h
  | some x =>
    simp only
    split
    · refine h.map (fun y hy hw => ?_)
      unfold one at hw ⊢
      by_cases e : y.id = x.id
      · rw [if_pos e] at hw
        have h2 : (y.go 4).waits = true := hw
        rw [go_waits] at h2
        cases h2
      · rw [if_neg e] at hw ⊢
        exact ⟨hw, rfl⟩
    · exact h
theorem Bound.drop {k : Int} {T : Tb} (h : Bound k T) : Bound k (dropT T) := by
  unfold dropT
  refine h.map (fun y hy hw => ?_)
  by_cases e : y.waits = true
  · simp only [e, if_true] at hw
    rw [go_waits] at hw
    cases hw
  · simp only [e] at hw
    exact absurd hw e
theorem Bound.mono {k j : Int} {T : Tb} (h : Bound k T) (hk : k ≤ j) : Bound j T := fun x hx hw => Int.le_trans (h x hx hw) hk
theorem Bound.rise {k : Int} {T : Tb} (h : Bound k T) (e : Int) : Bound k (riseT T e).2 := by
  unfold riseT
  split
  · exact h
  · exact Bound.drop (T := { T with epoch := e }) h
theorem Bound.does {k : Int} {T : Tb} (h : Bound k T) (hF : Fine T) (o : Opn) (hd : 1 < o.d) : Bound k (does1 T o).2 := by
  unfold does1
  rw [if_neg (by omega)]
  repeat' split
  · exact h.send hF
  · exact h.reply _ _ _ _
  · exact h.kill _
  · exact h.tick.mono (by omega)
  · exact h.rise _
  · exact h.drop
  · exact h.ended _
  · exact h
theorem wait_does (T : Tb) (o : Opn) : (does1 T o).2.wait = T.wait := by
  unfold does1
  split
  · show (addT T o.n).2.2.wait = _
    unfold addT
    split
    · rfl
    · cases ofL T.L o.n with
      | some x => rfl
      | none => simp only; split <;> rfl
  repeat' split
  · show (sendT T).2.2.wait = _
    unfold sendT; cases T.L.find? isInit <;> rfl
  · show (replyT T _ _ _ _).2.wait = _
    unfold replyT
    split
    · cases getL T.L o.id with
      | none => rfl
      | some x => simp only; split; split <;> rfl; rfl
    · rfl
  · show (killT T o.n).2.wait = _
    unfold killT
    cases ofL T.L o.n with
    | none => rfl
    | some x => simp only; split <;> rfl
  · rfl
  · show (riseT T o.id).2.wait = _
    unfold riseT; split <;> rfl
  · rfl
  · show (endedT T o.n).2.2.wait = _
    unfold endedT
    cases ofL T.L o.n with
    | none => rfl
    | some x => simp only; split <;> rfl
  · rfl
theorem play_wait (T : Tb) (l : List Opn) : ∀ i, (playL T (l.take i)).2.wait = T.wait
  | 0 => by simp [playL]
  | i + 1 => by
    have ih := play_wait T l i
    cases h : l[i]? with
    | none =>
      have hl : l.length ≤ i := by simpa using h
      rw [List.take_of_length_le (by omega)]
      rw [List.take_of_length_le hl] at ih
      exact ih
    | some o =>
      rw [play_succ h]
      show (does1 _ o).2.wait = _
      rw [wait_does, ih]
theorem Bound.zero {T : Tb} (h : Bound 0 T) (hF : Fine T) : ∀ x ∈ T.L, x.waits = false ∧ x.kind ≠ 0 := by
  intro x hx
  cases hw : x.waits with
  | true =>
    have h1 := h x hx hw
    have h2 := (hF.wait x hx hw).1
    omega
  | false => exact ⟨rfl, hF.done x hx hw⟩
end Go.Proofs.Ytfknkkcpieaikaa
