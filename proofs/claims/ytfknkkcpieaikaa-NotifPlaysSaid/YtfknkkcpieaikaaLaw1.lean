/- NotifRises: it answers true. Conditions: the calls can be read; first is a number. -/
import Derived.Test.YtfknkkcpieaikaaAwake
namespace Go.Proofs.Ytfknkkcpieaikaa
open Go.RowKit
set_option linter.unusedVariables false
set_option linter.unusedSimpArgs false

theorem next_send (T : Tb) : (sendT T).2.2.next = T.next := by unfold sendT; cases T.L.find? isInit <;> rfl
theorem next_reply (T : Tb) (e i k v : Int) : (replyT T e i k v).2.next = T.next := by
  unfold replyT
  split
  · cases getL T.L i with
    | none => rfl
    | some x => simp only; split; split <;> rfl; rfl
  · rfl
theorem next_kill (T : Tb) (n : Int) : (killT T n).2.next = T.next := by
  unfold killT
  cases ofL T.L n with
  | none => rfl
  | some x => simp only; split <;> rfl
theorem next_rise (T : Tb) (e : Int) : (riseT T e).2.next = T.next := by unfold riseT; split <;> rfl
theorem next_ended (T : Tb) (n : Int) : (endedT T n).2.2.next = T.next := by
  unfold endedT
  cases ofL T.L n with
  | none => rfl
  | some x => simp only; split <;> rfl
theorem next_add (T : Tb) (n : Int) : ((if (addT T n).2.1 = 0 then [(addT T n).1] else []) = ([] : List Int) ∧ (addT T n).2.2.next = T.next) ∨ ((if (addT T n).2.1 = 0 then [(addT T n).1] else []) = [T.next] ∧ (addT T n).2.2.next = T.next + 1 ∧ T.next ≠ 18446744073709551615) := by
  unfold addT
  split
  · left; exact ⟨rfl, rfl⟩
  · cases ofL T.L n with
    | some x => left; exact ⟨rfl, rfl⟩
    | none =>
      simp only
      split
      · left; exact ⟨rfl, rfl⟩
      · rename_i h
        right
        exact ⟨rfl, rfl, fun e => h (.inr e)⟩
theorem does_next (T : Tb) (o : Opn) : ((does1 T o).1 = [] ∧ (does1 T o).2.next = T.next) ∨ ((does1 T o).1 = [T.next] ∧ (does1 T o).2.next = T.next + 1 ∧ T.next ≠ 18446744073709551615) := by
  unfold does1
  split
  · exact next_add T o.n
  · left
    repeat' split
    · exact ⟨rfl, next_send T⟩
    · exact ⟨rfl, next_reply T _ _ _ _⟩
    · exact ⟨rfl, next_kill T _⟩
    · exact ⟨rfl, rfl⟩
    · exact ⟨rfl, next_rise T _⟩
    · exact ⟨rfl, rfl⟩
    · exact ⟨rfl, next_ended T _⟩
    · exact ⟨rfl, rfl⟩
theorem play_ids (T : Tb) (l : List Opn) : ∀ i, (playL T (l.take i)).2.next = T.next + (playL T (l.take i)).1.length ∧ ∀ (j : Nat) x, (playL T (l.take i)).1[j]? = some x → x = T.next + j ∧ x ≠ 18446744073709551615
  | 0 => by
    simp [playL]
  | i + 1 => by
    obtain ⟨h1, h2⟩ := play_ids T l i
    cases h : l[i]? with
    | none =>
      have hl : l.length ≤ i := by simpa using h
      rw [List.take_of_length_le (by omega)]
      rw [List.take_of_length_le hl] at h1 h2
      exact ⟨h1, h2⟩
    | some o =>
      rw [play_succ h]
      rcases does_next (playL T (l.take i)).2 o with ⟨e1, e2⟩ | ⟨e1, e2, e3⟩
      · rw [e1, e2, List.append_nil]
        exact ⟨h1, h2⟩
      · rw [e1, e2, h1]
        refine ⟨by rw [List.length_append]; simp; omega, fun j x hx => ?_⟩
        rcases Nat.lt_or_ge j (playL T (l.take i)).1.length with hj | hj
        · rw [List.getElem?_append_left hj] at hx
          exact h2 j x hx
        · rw [List.getElem?_append_right hj] at hx
          have hj0 : j - (playL T (l.take i)).1.length = 0 := by
            have := (List.getElem?_eq_some_iff.1 hx).1
            simp at this; omega
          rw [hj0] at hx
          cases hx
          exact ⟨by omega, by rw [h1] at e3; exact e3⟩
theorem ops_low {w w' : World} {lv : Value} {L : List Opn} (h : OpsAt w lv L) (hb : Below w.heap.size w w') : OpsAt w' lv L := by
  obtain ⟨A, c, h1, h2, h3⟩ := h
  refine ⟨A, c, h1, h2, fun h0 => ?_⟩
  obtain ⟨g, o, e, hc⟩ := h3 h0
  exact ⟨g, o, e, fun i p hp => by
    obtain ⟨a0, a1, a2, a3, a4, a5⟩ := hc i p hp
    exact ⟨keep_cell hb a0, keep_cell hb a1, keep_cell hb a2, keep_cell hb a3, keep_cell hb a4, a5⟩⟩
abbrev X2 (s t : Int) : Obj := .cells #[.int .i64 s, .int .i64 t] 22
set_option maxRecDepth 100000 in
set_option maxHeartbeats 4000000 in
theorem law_rises (s t f : Int) (lv : Value) (L : List Opn) (w : World) (hf1 : 0 ≤ f) (hf2 : f < 18446744073709551616) (hL : OpsAt w lv L) : Calls Try.prog 3 #[.agg #[.int .i64 s, .int .i64 t], .int .u64 f, lv] w (Ret (.bool true) w) := by
  have A0 := awake_any (w.alloc (X2 s t))
  have k0 := new_cell w #[.int .i64 s, .int .i64 t] 22 0 rfl
  have k1 := new_cell w #[.int .i64 s, .int .i64 t] 22 1 rfl
  have hb0 := below_alloc w (X2 s t)
  cases hok : newOk s t with
  | false =>
    have N := fun W => new_bad s t f hok W
    clear hok hL
    go_enter Try.func3, Try.ntmps3
    go_wp2_with (first
      | (go_at_call 8; refine A0.mono ?_; rintro e_ w1 ⟨rfl, hb1⟩; have d0 := keep_cell hb1 k0; have d1 := keep_cell hb1 k1)
      | (go_at_call 9; refine (N _).mono ?_; rintro e_ w2 ⟨rfl, rfl⟩))
    go_ret
    exact ⟨rfl, Below.trans hb0 (hb1.mono hb0.size)⟩
  | true =>
    have N := fun W => new_ok s t f hok hf1 hf2 W
    have HLw := Lib.hid hL
    clear hok hL
    go_enter Try.func3, Try.ntmps3
    go_wp2_with (first
      | (go_at_call 8; refine A0.mono ?_; rintro e_ w1 ⟨rfl, hb1⟩; have d0 := keep_cell hb1 k0; have d1 := keep_cell hb1 k1)
      | (go_at_call 9; refine (N _).mono ?_; rintro e_ w2 ⟨b, B, rfl, hbb, hBB, hT2, hb2⟩; have hw1 : w.heap.size ≤ w1.heap.size := Nat.le_trans hb0.size hb1.size; have l2 : ∀ k, Own b B (fun _ => 0) (⟨s, t, f, 0, []⟩ : Tb).L k → w.heap.size ≤ k := (fun k hk => by rcases hk with hk | hk | ⟨x, hx, _⟩; (rw [hk]; exact Nat.le_trans hw1 hbb); (rw [hk]; exact Nat.le_trans hw1 hBB); (simp at hx)); have hlow : Below w.heap.size w w2 := (Below.trans hb0 (hb1.mono hb0.size)).trans (hb2.mono hw1); have PL := play_any (fun k => w.heap.size ≤ k) b B (fun _ => 0) _ lv L w2 (hT2 _) (fun k hk => .inl (l2 k hk)) (fun W hW => ops_low HLw.out (hlow.trans (hW.toBelow hlow.size (fun _ h => h)))))
      | (go_at_call 10; refine PL.mono ?_; rintro e_ w3 ⟨A, n, c, rfl, hn, P3, hT3, hP3⟩))
    have hids := play_ids ⟨s, t, f, 0, []⟩ L 200
    obtain ⟨ids, hids2⟩ : ∃ l, (playL ⟨s, t, f, 0, []⟩ (L.take 200)).1 = l := ⟨_, rfl⟩
    have hlen := play_len ⟨s, t, f, 0, []⟩ L 200
    rw [hids2] at hn hids hlen hP3
    have hnums := nums_own (A := A) (c := c) (n := n) (by have := hP3.row; rwa [hn] at this) hn
    have HNU := Lib.hid hnums
    have HID := Lib.hid hids.2
    have HLOW : Hid (Below w.heap.size w w3) := Lib.hid (hlow.trans (hP3.low.toBelow hlow.size (fun _ h => h)))
    have Hn := Lib.hid hn
    rw [hn] at hlen
    have hbd : f + (n : Int) < 18446744073709551616 := by
      have h1 := hT3.f.n2
      have h2 : _ = f + (ids.length : Int) := hids.1
      rw [h2, hn] at h1
      exact h1
    clear hids hids2 hnums hn hP3 hT3 PL hlow hT2 hb2 l2 N A0 k0 k1 d0 d1
    go_loopw [11] (fun iv wr => ∃ j : Nat, j ≤ n ∧ iv = .int .i64 j ∧ wr = w3) (fun iv _ => n - (intOf iv).toNat)
    case atStart => exact ⟨0, Nat.zero_le _, rfl, rfl⟩
    case round =>
      obtain ⟨j, hj, rfl, hwr⟩ := hrel
      subst hwr
      by_cases hlt : j < n
      · have hlt' : (j : Int) < n := by omega
        obtain ⟨g, o, rfl, hcl⟩ := HNU.out.at' (by omega)
        obtain ⟨x, hx⟩ : ∃ x, ids[j]? = some x := ⟨_, List.getElem?_eq_getElem (by rw [Hn.out]; exact hlt)⟩
        have cx := hcl j x hx
        obtain ⟨hx1, hx2⟩ := HID.out j x hx
        have hx1' : x = f + j := hx1
        have hrow : x < 18446744073709551616 := by omega
        have hw1' : IntKind.u64.wrap (j : Int) = j := by rw [IntKind.wrap_u64]; omega
        have hw2' : IntKind.u64.wrap (f + (j : Int)) = x := by rw [IntKind.wrap_u64]; omega
        have hxE : (x == x) = true := by simp
        have hxM : (x == 18446744073709551615) = false := by simpa using hx2
        clear hcl hx hx1 hx2 hx1' hrow
        go_wp2
        go_roundw
        case rel => exact ⟨j + 1, by omega, by go_num, trivial⟩
        case measure => (simp [intOf] <;> omega)
      · obtain rfl : j = n := by omega
        go_wp2
        go_ret
        exact ⟨rfl, HLOW.out⟩
end Go.Proofs.Ytfknkkcpieaikaa
