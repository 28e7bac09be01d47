/- Reply. Condition: the table can be read. -/
import Derived.Test.YtfknkkcpieaikaaSend
import Derived.BigRegion
namespace Go.Proofs.Ytfknkkcpieaikaa
open Go.RowKit
set_option linter.unusedVariables false
set_option linter.unusedSimpArgs false

def Ent.rep (x : Ent) (k v : Int) : Ent := { x with st := 3, kind := k, val := v }
theorem rep_keeps (k v : Int) : Keeps (fun x => x.rep k v) := fun x => ⟨rfl, rfl⟩
def replyT (T : Tb) (ep id k v : Int) : Int × Tb :=
  if ep = T.epoch then
    match getL T.L id with
    | none => (17, T)
    | some x => if x.st = 2 then (if 1 ≤ k ∧ k ≤ 3 then (0, mapT T (one x.id (fun y => y.rep k v))) else (1, T)) else (18, T)
  else (22, T)
abbrev O2 (k v : Int) : Obj := .cells #[.int .i64 k, .int .i64 v] 35
set_option maxRecDepth 100000 in
set_option maxHeartbeats 4000000 in
theorem reply_any (b B : Nat) (P : Int → Nat) (T : Tb) (ep id k v : Int) (w : World) (hU : U64 id) (h : TabAt w b B P T) : Calls Try.prog 16 #[.pointer (some ⟨b, 0, none⟩), .int .u64 ep, .int .u64 id, .agg #[.int .i64 k, .int .i64 v]] w (TPost b B P T.L (replyT T ep id k v).2 (.int .i64 (replyT T ep id k v).1) w) := by
  have hw0 := below_alloc w (O2 k v)
  have hT0 := h.below hw0
  have c3 := hT0.q.c3
  have c4 := hT0.q.c4
  have hlook := hT0.look hU
  have k0 := new_cell w #[.int .i64 k, .int .i64 v] 35 0 rfl
  have k1 := new_cell w #[.int .i64 k, .int .i64 v] 35 1 rfl
  have H := Lib.hid h
  have Hw0 := Lib.hid hw0
  have Hsame := Lib.hid (show ∃ P', TabAt (w.alloc (O2 k v)) b B P' T ∧ Upto (Own b B P T.L) w (w.alloc (O2 k v)) ∧ ∀ x ∈ T.L, Own b B P T.L (P' x.id) ∨ w.heap.size ≤ P' x.id from ⟨P, hT0, below_upto hw0, fun x hx => .inl (.inr (.inr ⟨x, hx, rfl⟩))⟩)
  have HT0 := Lib.hid hT0
  unfold replyT
  obtain ⟨te, hte⟩ : ∃ t, T.epoch = t := ⟨_, rfl⟩
  rw [hte] at c3 ⊢
  cases hg : getL T.L id with
  | none =>
    rw [hg] at hlook
    have hlook2 : (Instr.lookup 60 (.map (some B)) (.int .u64 id) false).run Try.prog (w.alloc (O2 k v)) = .ok (.pointer none) (w.alloc (O2 k v)) := hlook
    clear h hw0 hT0 hlook hg hte
    by_cases he : ep = te
    · subst he
      rw [if_pos rfl]
      have heE : (ep == ep) = true := by simp
      go_enter Try.func16, Try.ntmps16
      go_wp2
      go_ret
      exact ⟨rfl, Hsame.out⟩
    · rw [if_neg he]
      have heE : (ep == te) = false := by simpa using he
      clear he
      go_enter Try.func16, Try.ntmps16
      go_wp2
      go_ret
      exact ⟨rfl, Hsame.out⟩
  | some x =>
    obtain ⟨hx, hid⟩ := getL_mem hg
    rw [hg] at hlook
    have hlook2 : (Instr.lookup 60 (.map (some B)) (.int .u64 id) false).run Try.prog (w.alloc (O2 k v)) = .ok (.pointer (some ⟨P x.id, 0, none⟩)) (w.alloc (O2 k v)) := hlook
    have hE := hT0.e x hx
    obtain ⟨p, hp⟩ : ∃ p, P x.id = p := ⟨_, rfl⟩
    have hpw : p < w.heap.size := by rw [← hp]; exact (h.e x hx).lt
    rw [hp] at hE hlook2
    have d2 := hE.c2
    have d4 := hE.c4
    have d5 := hE.c5
    have zf := fun o => hE.fz o
    have hE0 := h.e x hx
    rw [hp] at hE0
    have g2 := hE0.c2
    have g4 := hE0.c4
    have g5 := hE0.c5
    have gf := fun o => hE0.fz o
    have HE0 := Lib.hid hE0
    have HE := Lib.hid hE
    have Hx := Lib.hid hx
    have Hp := Lib.hid hp
    obtain ⟨s, hs⟩ : ∃ s, x.st = s := ⟨_, rfl⟩
    simp only [hs]
    rw [hs] at d2 g2
    clear h hw0 hT0 hlook hg hte hid hx hE hE0 hp hs
    by_cases he : ep = te
    case neg =>
      rw [if_neg he]
      have heE : (ep == te) = false := by simpa using he
      clear he
      go_enter Try.func16, Try.ntmps16
      go_wp2
      go_ret
      exact ⟨rfl, Hsame.out⟩
    subst he
    rw [if_pos rfl]
    have heE : (ep == ep) = true := by simp
    by_cases h2 : s = 2
    case neg =>
      rw [if_neg h2]
      have h2E : (s == 2) = false := by simpa using h2
      clear h2
      go_enter Try.func16, Try.ntmps16
      go_wp2
      go_ret
      exact ⟨rfl, Hsame.out⟩
    subst h2
    rw [if_pos rfl]
    by_cases hk1 : k < 1
    · rw [if_neg (by omega)]
      go_enter Try.func16, Try.ntmps16
      go_wp2
      go_ret
      exact ⟨rfl, Hsame.out⟩
    have hk1' : 1 ≤ k := by omega
    by_cases hk3 : 3 < k
    · rw [if_neg (by omega)]
      clear hk1
      go_enter Try.func16, Try.ntmps16
      go_wp2
      go_ret
      exact ⟨rfl, Hsame.out⟩
    have hk3' : k ≤ 3 := by omega
    rw [if_pos ⟨hk1', hk3'⟩]
    clear hk1 hk3
    go_enter Try.func16, Try.ntmps16
    go_wp2
    go_region
    go_wp2
    go_ret
    have epp := Hp.out
    subst epp
    have hu := ((set_upto w (P x.id) 2 (.int .i64 3)).then (set_upto _ (P x.id) 4 (.int .i64 k))).then (set_upto _ (P x.id) 5 (.int .i64 v))
    have hEn : EntAt (((w.setCell ⟨P x.id, 2, none⟩ (.int .i64 3)).setCell ⟨P x.id, 4, none⟩ (.int .i64 k)).setCell ⟨P x.id, 5, none⟩ (.int .i64 v)) (P x.id) (x.rep k v) := cells_set (cells_set (cells_set HE0.out _) _) _
    have hT := H.out.one Hx.out (rep_keeps k v) ⟨fun h => by simp [Ent.rep, Ent.waits] at h, fun _ => by show k ≠ 0; omega, by show (1 : Int) ≤ 3; decide, by show (3 : Int) ≤ 4; decide⟩ hu hEn
    have ha := ((Upto.refl (fun _ => False) (((w.setCell ⟨P x.id, 2, none⟩ (.int .i64 3)).setCell ⟨P x.id, 4, none⟩ (.int .i64 k)).setCell ⟨P x.id, 5, none⟩ (.int .i64 v))).alloc (O2 k v)).drew
    exact ⟨rfl, P, hT.upto ha (fun _ _ h => h), (upto_own Hx.out hu).then (ha.mono (fun _ h => h.elim)), fun y hy => .inl (own_map (one_keeps (rep_keeps k v)) hy)⟩
end Go.Proofs.Ytfknkkcpieaikaa
