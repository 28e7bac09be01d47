/- play: a table behind some calls; the numbers that were told. Conditions: the table and the calls can be read. -/
import Derived.Test.YtfknkkcpieaikaaTick
import Derived.Test.YtfknkkcpieaikaaAdd
import Derived.Test.YtfknkkcpieaikaaReply
import Derived.Test.YtfknkkcpieaikaaEnded
namespace Go.Proofs.Ytfknkkcpieaikaa
open Go.RowKit
set_option linter.unusedVariables false
set_option linter.unusedSimpArgs false

structure Opn where
  d : Int
  n : Int
  id : Int
  k : Int
  v : Int
  deriving Inhabited
/-- What one call tells, and leaves. -/
def does1 (T : Tb) (o : Opn) : List Int × Tb :=
  if o.d = 0 ∨ o.d = 1 then ((if (addT T o.n).2.1 = 0 then [(addT T o.n).1] else []), (addT T o.n).2.2)
  else if o.d = 2 ∨ o.d = 3 then ([], (sendT T).2.2)
  else if o.d = 4 then ([], (replyT T (IntKind.u64.wrap o.n) o.id o.k o.v).2)
  else if o.d = 5 then ([], (killT T o.n).2)
  else if o.d = 6 then ([], tickT T)
  else if o.d = 7 then ([], (riseT T o.id).2)
  else if o.d = 8 then ([], dropT T)
  else if o.d = 9 then ([], (endedT T o.n).2.2)
  else ([], T)
def playL (T : Tb) (l : List Opn) : List Int × Tb := l.foldl (fun s o => (s.1 ++ (does1 s.2 o).1, (does1 s.2 o).2)) ([], T)
theorem play_succ {T : Tb} {l : List Opn} {i : Nat} {o : Opn} (h : l[i]? = some o) : playL T (l.take (i + 1)) = ((playL T (l.take i)).1 ++ (does1 (playL T (l.take i)).2 o).1, (does1 (playL T (l.take i)).2 o).2) := by
  rw [List.take_add_one, h]
  simp [playL]
/-- A slice of calls. -/
def OpsAt (w : World) (v : Value) (L : List Opn) : Prop :=
  ∃ A c, v = .slice A L.length c ∧ L.length ≤ 9223372036854775807 ∧ (0 < L.length → ∃ g o, A = some ⟨g, o, none⟩ ∧ ∀ (i : Nat) p, L[i]? = some p →
    w.cell? ⟨g, o + i * 5, none⟩ = some (.int .i64 p.d) ∧ w.cell? ⟨g, o + i * 5 + 1, none⟩ = some (.int .i64 p.n) ∧ w.cell? ⟨g, o + i * 5 + 2, none⟩ = some (.int .u64 p.id) ∧ w.cell? ⟨g, o + i * 5 + 3, none⟩ = some (.int .i64 p.k) ∧ w.cell? ⟨g, o + i * 5 + 4, none⟩ = some (.int .i64 p.v) ∧ 0 ≤ p.id ∧ p.id < 18446744073709551616)
/-- Where the script is: the table, apart from the row of what was told; S are the blocks that may turn. -/
structure PlayAt (S : Nat → Prop) (w : World) (b B : Nat) (P : Int → Nat) (T : Tb) (ov : Value) (ids : List Int) (wr : World) : Prop where
  own : ∀ k, Own b B P T.L k → S k ∨ w.heap.size ≤ k
  row : wr.ownsRow w.heap.size 23 1 ov ids.length (ids.map (Value.int .u64))
  off : ∀ k, ov.ownBlock = some k → ¬ Own b B P T.L k
  low : Upto S w wr
def PlayIn (S : Nat → Prop) (w : World) (b B : Nat) (s : List Int × Tb) (ov : Value) (wr : World) : Prop := ∃ P, TabAt wr b B P s.2 ∧ PlayAt S w b B P s.2 ov s.1 wr
section
variable {S : Nat → Prop} {w wr : World} {b B : Nat} {P : Int → Nat} {T T' : Tb} {ov v' : Value} {ids : List Int}
theorem PlayAt.size (h : PlayAt S w b B P T ov ids wr) : w.heap.size ≤ wr.heap.size := h.low.size
theorem PlayAt.alloc (h : PlayAt S w b B P T ov ids wr) (hT : TabAt wr b B P T) (o : Obj) : PlayAt S w b B P T ov ids (wr.alloc o) :=
  ⟨h.own, own_kept h.row ((Upto.refl (fun _ => False) wr).alloc o) (fun _ h => h.elim), h.off, h.low.alloc o⟩
theorem PlayAt.below {w3 : World} (h : PlayAt S w b B P T ov ids wr) (hb : Below wr.heap.size wr w3) : PlayAt S w b B P T ov ids w3 :=
  ⟨h.own, own_kept h.row (below_upto (S := fun _ => False) hb) (fun _ h => h.elim), h.off, h.low.below hb⟩
theorem own_tick {x : Ent} (hx : x ∈ (tickT T).L) : Own b B P T.L (P x.id) := own_map (g := fun x => if x.waits then gt x else x) (fun x => by by_cases hh : x.waits = true; simp [hh]; exact gt_keeps x; simp [hh]) hx
theorem PlayAt.op {w3 : World} (h : PlayAt S w b B P T ov ids wr) (hp : ∃ P', TabAt w3 b B P' T' ∧ Upto (Own b B P T.L) wr w3 ∧ ∀ x ∈ T'.L, Own b B P T.L (P' x.id) ∨ wr.heap.size ≤ P' x.id) : PlayIn S w b B (ids, T') ov w3 := by
  obtain ⟨P', hT, hu, hx⟩ := hp
  have hown : ∀ k, Own b B P' T'.L k → Own b B P T.L k ∨ wr.heap.size ≤ k := fun k hk => by
    rcases hk with hk | hk | ⟨x, hx', hk⟩
    · exact .inl (.inl hk)
    · exact .inl (.inr (.inl hk))
    · rw [hk]; exact hx x hx'
  refine ⟨P', hT, fun k hk => ?_, ?_, fun k hk ho => ?_, h.low.trans hu h.own⟩
  · rcases hown k hk with h1 | h1
    · exact h.own k h1
    · have := h.size; exact .inr (by omega)
  · exact own_kept h.row hu (fun k hk ho => h.off k ho hk)
  · rcases hown k ho with h1 | h1
    · exact h.off k hk h1
    · have := (own_lt h.row hk).1; omega
theorem PlayIn.told {w3 w5 : World} {x : Int} {o : Obj} (h : PlayIn S w b B (ids, T) ov w3) (hrow : w5.ownsRow w.heap.size 23 1 v' (ids.length + 1) (ids.map (Value.int .u64) ++ [.int .u64 x])) (hg : (w3.alloc o).grownBy w5 ov.ownBlock) (hat : v'.ownBlock = ov.ownBlock ∨ v'.ownBlock = some (w3.alloc o).heap.size) : PlayIn S w b B (ids ++ [x], T) v' w5 := by
  obtain ⟨P, hT, hP⟩ := h
  have hu : Upto (fun k => ov.ownBlock = some k) w3 w5 := ((Upto.refl _ w3).alloc o).grown hg (fun k hk => .inl hk)
  refine ⟨P, hT.upto hu (fun k hk ho => hP.off k ho hk), hP.own, by simpa using hrow, fun k hk ho => ?_, hP.low.trans hu (fun k hk => .inr (own_lt hP.row hk).2)⟩
  rcases hat with e | e
  · exact hP.off k (by rw [← e]; exact hk) ho
  · rw [e] at hk
    cases hk
    have h1 := hT.lt ho
    simp at h1
    omega
/-- What a script leaves, as one call leaves it. -/
theorem PlayIn.left {s : List Int × Tb} {w3 : World} (h : PlayIn (Own b B P T.L) w b B s ov w3) : ∃ P', TabAt w3 b B P' s.2 ∧ Upto (Own b B P T.L) w w3 ∧ ∀ x ∈ s.2.L, Own b B P T.L (P' x.id) ∨ w.heap.size ≤ P' x.id := by
  obtain ⟨P', hT, hP⟩ := h
  exact ⟨P', hT, hP.low, fun x hx => hP.own _ (.inr (.inr ⟨x, hx, rfl⟩))⟩
theorem row_down {lo lo' n : Nat} {e : TypeId} {sz : Nat} {xs : List Value} (h : wr.ownsRow lo e sz ov n xs) (hl : lo' ≤ lo) : wr.ownsRow lo' e sz ov n xs := by
  obtain ⟨h1, h2⟩ := h
  refine ⟨h1, ?_⟩
  rcases h2 with h2 | ⟨g, cap, cur, h3, h4, h5, h6⟩
  · exact .inl h2
  · exact .inr ⟨g, cap, cur, h3, Nat.le_trans hl h4, h5, h6⟩
/-- A script's table, seen from further back. -/
theorem PlayIn.back {w0 : World} {s : List Int × Tb} {w3 : World} (h : PlayIn (Own b B P T.L) w b B s ov w3) (hb : Upto S w0 w) (hown : ∀ k, Own b B P T.L k → S k ∨ w0.heap.size ≤ k) : PlayIn S w0 b B s ov w3 := by
  obtain ⟨P', hT, hP⟩ := h
  refine ⟨P', hT, fun k hk => ?_, row_down hP.row hb.size, hP.off, hb.trans hP.low hown⟩
  rcases hP.own k hk with h1 | h1
  · exact hown k h1
  · have := hb.size; exact .inr (by omega)
end
theorem play_len (T : Tb) (l : List Opn) : ∀ i, (playL T (l.take i)).1.length ≤ i
  | 0 => by simp [playL]
  | i + 1 => by
    have ih := play_len T l i
    cases h : l[i]? with
    | none =>
      have hl : l.length ≤ i := by simpa using h
      rw [List.take_of_length_le (by omega)]
      rw [List.take_of_length_le hl] at ih
      omega
    | some o =>
      rw [play_succ h, List.length_append]
      have : (does1 (playL T (l.take i)).2 o).1.length ≤ 1 := by
        unfold does1
        split
        · show (if _ then _ else _ : List Int).length ≤ 1
          split <;> simp
        · repeat' split
          all_goals simp
      omega

theorem d2 (T : Tb) (n id k v : Int) : does1 T ⟨2, n, id, k, v⟩ = ([], (sendT T).2.2) := by simp [does1]
theorem d3 (T : Tb) (n id k v : Int) : does1 T ⟨3, n, id, k, v⟩ = ([], (sendT T).2.2) := by simp [does1]
theorem d4 (T : Tb) (n id k v : Int) : does1 T ⟨4, n, id, k, v⟩ = ([], (replyT T (IntKind.u64.wrap n) id k v).2) := by simp [does1]
theorem d5 (T : Tb) (n id k v : Int) : does1 T ⟨5, n, id, k, v⟩ = ([], (killT T n).2) := by simp [does1]
theorem d6 (T : Tb) (n id k v : Int) : does1 T ⟨6, n, id, k, v⟩ = ([], tickT T) := by simp [does1]
theorem d7 (T : Tb) (n id k v : Int) : does1 T ⟨7, n, id, k, v⟩ = ([], (riseT T id).2) := by simp [does1]
theorem d8 (T : Tb) (n id k v : Int) : does1 T ⟨8, n, id, k, v⟩ = ([], dropT T) := by simp [does1]
theorem d9 (T : Tb) (n id k v : Int) : does1 T ⟨9, n, id, k, v⟩ = ([], (endedT T n).2.2) := by simp [does1]
theorem dElse (T : Tb) (d n id k v : Int) (h : d < 0 ∨ 9 < d) : does1 T ⟨d, n, id, k, v⟩ = ([], T) := by
  unfold does1
  simp only
  rw [if_neg (by omega), if_neg (by omega), if_neg (by omega), if_neg (by omega), if_neg (by omega), if_neg (by omega), if_neg (by omega), if_neg (by omega)]
def PlayPost (S : Nat → Prop) (b B : Nat) (T : Tb) (L : List Opn) (w : World) (e : Ending) (w' : World) : Prop :=
  ∃ A n c, e = .returned (.slice A n c) ∧ (playL T (L.take 200)).1.length = n ∧ PlayIn S w b B (playL T (L.take 200)) (.slice A n c) w'
set_option maxRecDepth 100000 in
set_option maxHeartbeats 8000000 in
theorem play_any (S : Nat → Prop) (b B : Nat) (P : Int → Nat) (T : Tb) (lv : Value) (L : List Opn) (w : World) (hT : TabAt w b B P T) (hown : ∀ k, Own b B P T.L k → S k ∨ w.heap.size ≤ k) (hL : ∀ W, Upto S w W → OpsAt W lv L) : Calls Try.prog 10 #[.pointer (some ⟨b, 0, none⟩), lv] w (PlayPost S b B T L w) := by
  have HL := Lib.hid hL
  obtain ⟨Al, cl, rfl, hlen, _⟩ := hL w (Upto.refl _ _)
  obtain ⟨n, hn⟩ : ∃ n, L.length = n := ⟨_, rfl⟩
  rw [hn] at hlen HL ⊢
  have Hn := Lib.hid hn
  obtain ⟨i0, hi0, hz0, hz1, hz2⟩ := info_parts info23
  have HS : Hid (PlayIn S w b B (playL T (L.take 0)) (.slice none 0 0) w) := Lib.hid ⟨P, hT, hown, World.ownsRow_nil _ _ _ _, fun k h => by simp [Value.ownBlock] at h, Upto.refl _ _⟩
  clear hL hT hown hn
  go_enter Try.func10, Try.ntmps10
  go_wp2
  go_loopw [5, 6, 7, 8, 9] (fun ov iv _ _ _ wr => ∃ i : Nat, i ≤ n ∧ i ≤ 200 ∧ iv = .int .i64 i ∧ PlayIn S w b B (playL T (L.take i)) ov wr) (fun _ iv _ _ _ _ => 200 - (intOf iv).toNat)
  case atStart => exact ⟨0, Nat.zero_le _, by omega, rfl, HS.out⟩
  case round =>
    obtain ⟨i, hi, hi2, rfl, P, h, hP⟩ := hrel
    by_cases hin : i < n ∧ i < 200
    case neg =>
      have htk : L.take 200 = L.take i := by
        by_cases h2 : i < n
        · rw [show i = 200 by omega]
        · rw [List.take_of_length_le (l := L) (i := i) (by rw [Hn.out]; omega), List.take_of_length_le (by rw [Hn.out]; omega)]
      obtain ⟨A5, c5, rfl⟩ := owns_form hP.row
      obtain ⟨m, hm⟩ : ∃ m, (playL T (L.take i)).1.length = m := ⟨_, rfl⟩
      rw [hm] at hP ⊢
      have HE : Hid (PlayPost S b B T L w (.returned (.slice A5 m c5)) wr) := Lib.hid ⟨A5, m, c5, rfl, by rw [htk]; exact hm, by rw [htk]; exact ⟨P, h, hP⟩⟩
      clear htk hm h hP
      by_cases h2 : i < n
      · have g1 : (i : Int) < n := by omega
        have g2 : (200 : Int) ≤ i := by omega
        clear hin
        go_wp2
        go_ret
        exact HE.out
      · have g2 : (n : Int) ≤ i := by omega
        clear hin h2
        go_wp2
        go_ret
        exact HE.out
    obtain ⟨hin1, hin2⟩ := hin
    have hin1' : (i : Int) < n := by omega
    have hin2' : (i : Int) < 200 := by omega
    obtain ⟨p, hp⟩ : ∃ p, L[i]? = some p := ⟨_, List.getElem?_eq_getElem (by rw [Hn.out]; exact hin1)⟩
    obtain ⟨A1, c1, e1, _, hcl⟩ := HL.out wr hP.low
    rw [Hn.out] at e1 hcl
    injection e1 with e1 e2 e3
    subst e1 e3
    obtain ⟨gl, ol, rfl, hcl2⟩ := hcl (by omega)
    obtain ⟨q0, q1, q2, q3, q4, hpi1, hpi2⟩ := hcl2 i p hp
    obtain ⟨pd, pn, pi, pk, pv⟩ := p
    simp only at q0 q1 q2 q3 q4 hpi1 hpi2
    have Hp := Lib.hid hp
    clear hcl hcl2 hp
    by_cases g0 : pd = 0
    · subst g0
      have hA := h.below (below_alloc wr (.cells #[.int .i64 0, .int .i64 pn, .int .u64 pi, .int .i64 pk, .int .i64 pv] 41))
      have C := add_any b B P _ pn _ hA
      obtain ⟨r, hr⟩ : ∃ r, addT (playL T (L.take i)).2 pn = r := ⟨_, rfl⟩
      rw [hr] at C
      obtain ⟨r0, r1, T'⟩ := r
      have HC := Lib.hid C
      have HP1 := Lib.hid (hP.alloc h (.cells #[.int .i64 0, .int .i64 pn, .int .u64 pi, .int .i64 pk, .int .i64 pv] 41))
      have hd : does1 (playL T (L.take i)).2 ⟨0, pn, pi, pk, pv⟩ = ((if r1 = 0 then [r0] else []), T') := by simp [does1, hr]
      have Hd := Lib.hid hd
      have hml := play_len T L i
      obtain ⟨A5, d5, rfl⟩ := owns_form hP.row
      obtain ⟨m, hm⟩ : ∃ m, (playL T (L.take i)).1.length = m := ⟨_, rfl⟩
      rw [hm] at HP1 hml ⊢
      have Hm := Lib.hid hm
      clear h hA C hP hr hd hm 
      by_cases hr1 : r1 = 0
      · subst hr1
        go_wp2_with (first
          | (go_at_call 21; (with_reducible refine HC.out.mono ?_); rintro e_ w3 ⟨rfl, hpost⟩; have hnext := HP1.out.op hpost; have hrow := (show ∃ P, _ ∧ _ from hnext).choose_spec.2.row; have hsz := (show ∃ P, _ ∧ _ from hnext).choose_spec.2.size; simp only [Hm.out] at hrow; have HN := Lib.hid hnext; clear hnext hpost)
          | (at_builtin; refine wpList_append_own_at _ rfl _ _ 30 rfl w.heap.size 23 i0 (.int .u64 0) 1 8 under30 hi0 hz0 hz1 hz2 rfl (by decide) _ _ _ rfl (hrow.alloc _) ⟨w3.heap.size, 0, none⟩ 1 1 [.int .u64 r0] rfl rfl (cell_one_new _ _ _) (by simp [Value.oneCell']) (by unfold maxLen; omega) (by omega) (by simp; omega) ?_; intro v' w5 hown' hg5 hnil5 hat5; go_frame))
        have HT := Lib.hid (HN.out.told (by rw [Hm.out]; simpa using hown') hg5 hat5)
        clear hown' hg5 hnil5 hat5 hrow
        go_roundw
        case rel => exact ⟨i + 1, by omega, by omega, by go_num, by rw [play_succ Hp.out, Hd.out, if_pos trivial]; exact HT.out⟩
        case measure => (simp [intOf] <;> omega)
      · have hr1E : (r1 == 0) = false := by simpa using hr1
        have Hr1 := Lib.hid hr1
        clear hr1
        go_wp2_with (go_at_call 21; (with_reducible refine HC.out.mono ?_); rintro e_ w3 ⟨rfl, hpost⟩)
        have hnext := HP1.out.op hpost
        have HN := Lib.hid hnext
        clear hnext hpost
        go_roundw
        case rel => exact ⟨i + 1, by omega, by omega, by go_num, by rw [play_succ Hp.out, Hd.out, if_neg Hr1.out, List.append_nil]; exact HN.out⟩
        case measure => (simp [intOf] <;> omega)
    have g0E : (pd == 0) = false := by simpa using g0
    by_cases g1 : pd = 1
    · subst g1
      have hA := h.below (below_alloc wr (.cells #[.int .i64 1, .int .i64 pn, .int .u64 pi, .int .i64 pk, .int .i64 pv] 41))
      have C := add_any b B P _ pn _ hA
      obtain ⟨r, hr⟩ : ∃ r, addT (playL T (L.take i)).2 pn = r := ⟨_, rfl⟩
      rw [hr] at C
      obtain ⟨r0, r1, T'⟩ := r
      have HC := Lib.hid C
      have HP1 := Lib.hid (hP.alloc h (.cells #[.int .i64 1, .int .i64 pn, .int .u64 pi, .int .i64 pk, .int .i64 pv] 41))
      have hd : does1 (playL T (L.take i)).2 ⟨1, pn, pi, pk, pv⟩ = ((if r1 = 0 then [r0] else []), T') := by simp [does1, hr]
      have Hd := Lib.hid hd
      have hml := play_len T L i
      obtain ⟨A5, d5, rfl⟩ := owns_form hP.row
      obtain ⟨m, hm⟩ : ∃ m, (playL T (L.take i)).1.length = m := ⟨_, rfl⟩
      rw [hm] at HP1 hml ⊢
      have Hm := Lib.hid hm
      clear h hA C hP hr hd hm g0
      by_cases hr1 : r1 = 0
      · subst hr1
        go_wp2_with (first
          | (go_at_call 21; (with_reducible refine HC.out.mono ?_); rintro e_ w3 ⟨rfl, hpost⟩; have hnext := HP1.out.op hpost; have hrow := (show ∃ P, _ ∧ _ from hnext).choose_spec.2.row; have hsz := (show ∃ P, _ ∧ _ from hnext).choose_spec.2.size; simp only [Hm.out] at hrow; have HN := Lib.hid hnext; clear hnext hpost)
          | (at_builtin; refine wpList_append_own_at _ rfl _ _ 30 rfl w.heap.size 23 i0 (.int .u64 0) 1 8 under30 hi0 hz0 hz1 hz2 rfl (by decide) _ _ _ rfl (hrow.alloc _) ⟨w3.heap.size, 0, none⟩ 1 1 [.int .u64 r0] rfl rfl (cell_one_new _ _ _) (by simp [Value.oneCell']) (by unfold maxLen; omega) (by omega) (by simp; omega) ?_; intro v' w5 hown' hg5 hnil5 hat5; go_frame))
        have HT := Lib.hid (HN.out.told (by rw [Hm.out]; simpa using hown') hg5 hat5)
        clear hown' hg5 hnil5 hat5 hrow
        go_roundw
        case rel => exact ⟨i + 1, by omega, by omega, by go_num, by rw [play_succ Hp.out, Hd.out, if_pos trivial]; exact HT.out⟩
        case measure => (simp [intOf] <;> omega)
      · have hr1E : (r1 == 0) = false := by simpa using hr1
        have Hr1 := Lib.hid hr1
        clear hr1
        go_wp2_with (go_at_call 21; (with_reducible refine HC.out.mono ?_); rintro e_ w3 ⟨rfl, hpost⟩)
        have hnext := HP1.out.op hpost
        have HN := Lib.hid hnext
        clear hnext hpost
        go_roundw
        case rel => exact ⟨i + 1, by omega, by omega, by go_num, by rw [play_succ Hp.out, Hd.out, if_neg Hr1.out, List.append_nil]; exact HN.out⟩
        case measure => (simp [intOf] <;> omega)
    have g1E : (pd == 1) = false := by simpa using g1
    by_cases g2 : pd = 2
    · subst g2
      clear g0 g1
      have hA := h.below (below_alloc wr (.cells #[.int .i64 2, .int .i64 pn, .int .u64 pi, .int .i64 pk, .int .i64 pv] 41))
      have C := send_any b B P _ _ hA
      have HC := Lib.hid C
      have HP1 := Lib.hid (hP.alloc h (.cells #[.int .i64 2, .int .i64 pn, .int .u64 pi, .int .i64 pk, .int .i64 pv] 41))
      clear h hA C hP
      go_wp2_with (go_at_call 22; (with_reducible refine HC.out.mono ?_); rintro e_ w3 ⟨rfl, hpost⟩)
      have hnext := HP1.out.op hpost
      have HN := Lib.hid hnext
      clear hnext hpost
      go_roundw
      case rel => exact ⟨i + 1, by omega, by omega, by go_num, by rw [play_succ Hp.out, d2, List.append_nil]; exact HN.out⟩
      case measure => (simp [intOf] <;> omega)
    have g2E : (pd == 2) = false := by simpa using g2
    by_cases g3 : pd = 3
    · subst g3
      clear g0 g1 g2
      have hA := h.below (below_alloc wr (.cells #[.int .i64 3, .int .i64 pn, .int .u64 pi, .int .i64 pk, .int .i64 pv] 41))
      have C := send_any b B P _ _ hA
      have HC := Lib.hid C
      have HP1 := Lib.hid (hP.alloc h (.cells #[.int .i64 3, .int .i64 pn, .int .u64 pi, .int .i64 pk, .int .i64 pv] 41))
      clear h hA C hP
      go_wp2_with (go_at_call 22; (with_reducible refine HC.out.mono ?_); rintro e_ w3 ⟨rfl, hpost⟩)
      have hnext := HP1.out.op hpost
      have HN := Lib.hid hnext
      clear hnext hpost
      go_roundw
      case rel => exact ⟨i + 1, by omega, by omega, by go_num, by rw [play_succ Hp.out, d3, List.append_nil]; exact HN.out⟩
      case measure => (simp [intOf] <;> omega)
    have g3E : (pd == 3) = false := by simpa using g3
    by_cases g4 : pd = 4
    · subst g4
      clear g0 g1 g2 g3
      have hA := h.below (below_alloc wr (.cells #[.int .i64 4, .int .i64 pn, .int .u64 pi, .int .i64 pk, .int .i64 pv] 41))
      have C := reply_any b B P _ (IntKind.u64.wrap pn) pi pk pv _ (U64.of hpi1 hpi2) hA
      have HC := Lib.hid C
      have HP1 := Lib.hid (hP.alloc h (.cells #[.int .i64 4, .int .i64 pn, .int .u64 pi, .int .i64 pk, .int .i64 pv] 41))
      clear h hA C hP
      go_wp2_with (go_at_call 16; (with_reducible refine HC.out.mono ?_); rintro e_ w3 ⟨rfl, hpost⟩)
      have hnext := HP1.out.op hpost
      have HN := Lib.hid hnext
      clear hnext hpost
      go_roundw
      case rel => exact ⟨i + 1, by omega, by omega, by go_num, by rw [play_succ Hp.out, d4, List.append_nil]; exact HN.out⟩
      case measure => (simp [intOf] <;> omega)
    have g4E : (pd == 4) = false := by simpa using g4
    by_cases g5 : pd = 5
    · subst g5
      clear g0 g1 g2 g3 g4
      have hA := h.below (below_alloc wr (.cells #[.int .i64 5, .int .i64 pn, .int .u64 pi, .int .i64 pk, .int .i64 pv] 41))
      have C := kill_any b B P _ pn _ hA
      have HC := Lib.hid C
      have HP1 := Lib.hid (hP.alloc h (.cells #[.int .i64 5, .int .i64 pn, .int .u64 pi, .int .i64 pk, .int .i64 pv] 41))
      clear h hA C hP
      go_wp2_with (go_at_call 23; (with_reducible refine HC.out.mono ?_); rintro e_ w3 ⟨rfl, hpost⟩)
      have hnext := HP1.out.op hpost
      have HN := Lib.hid hnext
      clear hnext hpost
      go_roundw
      case rel => exact ⟨i + 1, by omega, by omega, by go_num, by rw [play_succ Hp.out, d5, List.append_nil]; exact HN.out⟩
      case measure => (simp [intOf] <;> omega)
    have g5E : (pd == 5) = false := by simpa using g5
    by_cases g6 : pd = 6
    · subst g6
      clear g0 g1 g2 g3 g4 g5
      have hA := h.below (below_alloc wr (.cells #[.int .i64 6, .int .i64 pn, .int .u64 pi, .int .i64 pk, .int .i64 pv] 41))
      have C := tick_any b B P _ _ hA
      have HC := Lib.hid C
      have HP1 := Lib.hid (hP.alloc h (.cells #[.int .i64 6, .int .i64 pn, .int .u64 pi, .int .i64 pk, .int .i64 pv] 41))
      clear h hA C hP
      go_wp2_with (go_at_call 13; (with_reducible refine HC.out.mono ?_); rintro e_ w3 ⟨A6, n6, c6, rfl, _, _, _, hT6, hu6⟩)
      have hnext := HP1.out.op ⟨P, hT6, hu6, fun x hx => .inl (own_tick hx)⟩
      have HN := Lib.hid hnext
      clear hnext hT6 hu6
      go_roundw
      case rel => exact ⟨i + 1, by omega, by omega, by go_num, by rw [play_succ Hp.out, d6, List.append_nil]; exact HN.out⟩
      case measure => (simp [intOf] <;> omega)
    have g6E : (pd == 6) = false := by simpa using g6
    by_cases g7 : pd = 7
    · subst g7
      clear g0 g1 g2 g3 g4 g5 g6
      have hA := h.below (below_alloc wr (.cells #[.int .i64 7, .int .i64 pn, .int .u64 pi, .int .i64 pk, .int .i64 pv] 41))
      have C := rise_any b B P _ pi hpi1 hpi2 _ hA
      have HC := Lib.hid C
      have HP1 := Lib.hid (hP.alloc h (.cells #[.int .i64 7, .int .i64 pn, .int .u64 pi, .int .i64 pk, .int .i64 pv] 41))
      clear h hA C hP
      go_wp2_with (go_at_call 15; (with_reducible refine HC.out.mono ?_); rintro e_ w3 ⟨rfl, hpost⟩)
      have hnext := HP1.out.op hpost
      have HN := Lib.hid hnext
      clear hnext hpost
      go_roundw
      case rel => exact ⟨i + 1, by omega, by omega, by go_num, by rw [play_succ Hp.out, d7, List.append_nil]; exact HN.out⟩
      case measure => (simp [intOf] <;> omega)
    have g7E : (pd == 7) = false := by simpa using g7
    by_cases g8 : pd = 8
    · subst g8
      clear g0 g1 g2 g3 g4 g5 g6 g7
      have hA := h.below (below_alloc wr (.cells #[.int .i64 8, .int .i64 pn, .int .u64 pi, .int .i64 pk, .int .i64 pv] 41))
      have C := drop_any b B P _ _ hA
      have HC := Lib.hid C
      have HP1 := Lib.hid (hP.alloc h (.cells #[.int .i64 8, .int .i64 pn, .int .u64 pi, .int .i64 pk, .int .i64 pv] 41))
      clear h hA C hP
      go_wp2_with (go_at_call 24; (with_reducible refine HC.out.mono ?_); rintro e_ w3 ⟨rfl, hpost⟩)
      have hnext := HP1.out.op hpost
      have HN := Lib.hid hnext
      clear hnext hpost
      go_roundw
      case rel => exact ⟨i + 1, by omega, by omega, by go_num, by rw [play_succ Hp.out, d8, List.append_nil]; exact HN.out⟩
      case measure => (simp [intOf] <;> omega)
    have g8E : (pd == 8) = false := by simpa using g8
    by_cases g9 : pd = 9
    · subst g9
      clear g0 g1 g2 g3 g4 g5 g6 g7 g8
      have hA := h.below (below_alloc wr (.cells #[.int .i64 9, .int .i64 pn, .int .u64 pi, .int .i64 pk, .int .i64 pv] 41))
      have C := ended_any b B P _ pn _ hA
      have HC := Lib.hid C
      have HP1 := Lib.hid (hP.alloc h (.cells #[.int .i64 9, .int .i64 pn, .int .u64 pi, .int .i64 pk, .int .i64 pv] 41))
      clear h hA C hP
      go_wp2_with (go_at_call 12; (with_reducible refine HC.out.mono ?_); rintro e_ w3 ⟨rfl, hpost⟩)
      have hnext := HP1.out.op hpost
      have HN := Lib.hid hnext
      clear hnext hpost
      go_roundw
      case rel => exact ⟨i + 1, by omega, by omega, by go_num, by rw [play_succ Hp.out, d9, List.append_nil]; exact HN.out⟩
      case measure => (simp [intOf] <;> omega)
    have g9E : (pd == 9) = false := by simpa using g9
    have helse : pd < 0 ∨ 9 < pd := by omega
    have HN : Hid (PlayIn S w b B (playL T (L.take (i + 1))) _ (wr.alloc (.cells #[.int .i64 pd, .int .i64 pn, .int .u64 pi, .int .i64 pk, .int .i64 pv] 41))) := Lib.hid (by
      rw [play_succ Hp.out, dElse _ _ _ _ _ _ helse, List.append_nil]
      exact ⟨P, h.below (below_alloc _ _), hP.alloc h _⟩)
    clear helse h hP g0 g1 g2 g3 g4 g5 g6 g7 g8 g9
    go_wp2
    go_roundw
    case rel => exact ⟨i + 1, by omega, by omega, by go_num, HN.out⟩
    case measure => (simp [intOf] <;> omega)
end Go.Proofs.Ytfknkkcpieaikaa
