/- NotifPlays: it answers true. Conditions: the calls can be read; first is a number. -/
import Derived.Test.YtfknkkcpieaikaaDoes
import Derived.BigQuiet
namespace Go.Proofs.Ytfknkkcpieaikaa
open Go.RowKit
set_option linter.unusedVariables false
set_option linter.unusedSimpArgs false

theorem does_any (w1 w : World) (b B r : Nat) (T : Tb) (K : Nat → Obj → Prop) (p : Opn) (hi1 : 0 ≤ p.id) (hi2 : p.id < 18446744073709551616) (h : Both w1 b B r T T K w) :
    Calls Try.prog 19 #[.pointer (some ⟨b, 0, none⟩), .pointer (some ⟨r, 0, none⟩), .agg #[.int .i64 p.d, .int .i64 p.n, .int .u64 p.id, .int .i64 p.k, .int .i64 p.v]] w (fun e w' => e = .returned (.bool true) ∧ Both w1 b B r (does1 T p).2 (does1 T p).2 K w') := by
  obtain ⟨d, n, id, k, v⟩ := p
  simp only at hi1 hi2 ⊢
  by_cases h0 : d = 0
  · subst h0; exact does_add0 w1 w b B r T K n id k v hi1 hi2 h
  by_cases h1 : d = 1
  · subst h1; exact does_add1 w1 w b B r T K n id k v hi1 hi2 h
  by_cases h2 : d = 2
  · subst h2; exact does_send2 w1 w b B r T K n id k v hi1 hi2 h
  by_cases h3 : d = 3
  · subst h3; exact does_send3 w1 w b B r T K n id k v hi1 hi2 h
  by_cases h4 : d = 4
  · subst h4; exact does_reply w1 w b B r T K n id k v hi1 hi2 h
  by_cases h5 : d = 5
  · subst h5; exact does_kill w1 w b B r T K n id k v hi1 hi2 h
  by_cases h6 : d = 6
  · subst h6; exact does_tick w1 w b B r T K n id k v hi1 hi2 h
  by_cases h7 : d = 7
  · subst h7; exact does_rise w1 w b B r T K n id k v hi1 hi2 h
  by_cases h8 : d = 8
  · subst h8; exact does_drop w1 w b B r T K n id k v hi1 hi2 h
  by_cases h9 : d = 9
  · subst h9; exact does_ended w1 w b B r T K n id k v hi1 hi2 h
  by_cases h10 : d = 10
  · subst h10; exact does_valid w1 w b B r T K n id k v hi1 hi2 h
  exact does_else w1 w b B r T K d n id k v hi1 hi2 (by omega) h
theorem both_start {w1 w2 w3 : World} {b B r : Nat} {T : Tb} (h1 : w1.heap.size ≤ b) (h2 : w1.heap.size ≤ B) (hL : T.L = []) (hT : TabAt w2 b B (fun _ => 0) T) (hb2 : Below w1.heap.size w1 w2) (h3 : w2.heap.size ≤ r) (hR : RefAt w3 r (.slice none 0 0) T) (hb3 : Below w2.heap.size w2 w3) : Both w1 b B r T T K0 w3 := by
  have hs := hb2.size
  refine ⟨fun _ => 0, _, hT.below hb3, hR, fun k hk => ⟨own_new h1 h2 k (by rw [hL] at hk; exact hk), fun h => ?_⟩, fun k hk => ?_, (below_upto hb2).below hb3, fun k o h => h.elim⟩
  · have hlt := hT.lt hk
    rcases h with rfl | h
    · omega
    · cases h
  · rcases hk with rfl | h
    · omega
    · cases h
set_option maxRecDepth 100000 in
set_option maxHeartbeats 8000000 in
theorem law_plays (s t f : Int) (lv : Value) (L : List Opn) (w : World) (hf1 : 0 ≤ f) (hf2 : f < 18446744073709551616) (hL : OpsAt w lv L) : Calls Try.prog 7 #[.agg #[.int .i64 s, .int .i64 t], .int .u64 f, lv] w (Ret (.bool true) w) := by
  have A0 := awake_any (w.alloc (X2 s t))
  have k0 := new_cell w #[.int .i64 s, .int .i64 t] 22 0 rfl
  have k1 := new_cell w #[.int .i64 s, .int .i64 t] 22 1 rfl
  have hb0 := below_alloc w (X2 s t)
  have HLw := Lib.hid hL
  obtain ⟨Al, cl, rfl, hnl, hL9⟩ := hL
  clear hL9
  obtain ⟨n, hn⟩ : ∃ n, L.length = n := ⟨_, rfl⟩
  rw [hn] at hnl HLw ⊢
  have Hn := Lib.hid hn
  clear hn
  cases hok : newOk s t with
  | false =>
    have N := fun W => new_bad s t f hok W
    have R := fun W => rnew_bad s t f hok W
    clear hok
    go_enter Try.func7, Try.ntmps7
    go_wp2_with (first
      | (go_at_call 8; refine A0.mono ?_; rintro e_ w1 ⟨rfl, hb1⟩; have d0 := keep_cell hb1 k0; have d1 := keep_cell hb1 k1)
      | (go_at_call 9; refine (N _).mono ?_; rintro e_ w2 ⟨rfl, rfl⟩)
      | (go_at_call 18; refine (R _).mono ?_; rintro e_ w3 ⟨rfl, rfl⟩))
    have HE := Lib.hid (Below.trans hb0 (hb1.mono hb0.size))
    clear N R A0 k0 k1 d0 d1 hb0 hb1
    go_loopw [12, 13, 14, 15, 16] (fun iv _ _ _ _ wr => iv = .int .i64 0 ∧ Below w.heap.size w wr) (fun _ _ _ _ _ _ => 0)
    case atStart => exact ⟨rfl, HE.out⟩
    case round =>
      obtain ⟨rfl, hbl⟩ := hrel
      have HE2 := Lib.hid hbl
      clear hbl HE
      by_cases h0 : 0 < n
      · have hE1 : ((0 : Int) < (n : Int)) = True := eq_true (by omega)
        go_wp2
        go_ret
        exact ⟨rfl, HE2.out⟩
      · have hn0 : n = 0 := by omega
        subst hn0
        go_wp2
        go_ret
        exact ⟨rfl, HE2.out⟩
  | true =>
    have N := fun W => new_ok s t f hok hf1 hf2 W
    have R := fun W => rnew_ok s t f hok W
    clear hok
    go_enter Try.func7, Try.ntmps7
    go_wp2_with (first
      | (go_at_call 8; refine A0.mono ?_; rintro e_ w1 ⟨rfl, hb1⟩; have d0 := keep_cell hb1 k0; have d1 := keep_cell hb1 k1)
      | (go_at_call 9; refine (N _).mono ?_; rintro e_ w2 ⟨b, B, rfl, hbb, hBB, hT2, hb2⟩; have f0 := keep_cell hb2 d0; have f1 := keep_cell hb2 d1)
      | (go_at_call 18; refine (R _).mono ?_; rintro e_ w3 ⟨r, rfl, hr3, hR3, hb3⟩))
    have hB3 := both_start hbb hBB rfl (hT2 _) hb2 hr3 hR3 hb3
    have HB3 := Lib.hid hB3
    have hlow : Below w.heap.size w w1 := Below.trans hb0 (hb1.mono hb0.size)
    have HLow := Lib.hid hlow
    have HMat : Hid (∀ W, Upto F0 w1 W → OpsAt W (.slice Al n cl) L) := Lib.hid (fun W hW => ops_low HLw.out (upto0_low hlow hW))
    clear hB3 N R A0 k0 k1 d0 d1 f0 f1 hb0 hb1 hb2 hb3 hT2 hR3 hr3 hlow HLw
    go_loopw [12, 13, 14, 15, 16] (fun iv _ _ _ _ wr => ∃ i : Nat, i ≤ n ∧ i ≤ 200 ∧ iv = .int .i64 i ∧ ∃ T, Both w1 b B r T T K0 wr) (fun iv _ _ _ _ _ => 200 - (intOf iv).toNat)
    case atStart => exact ⟨0, Nat.zero_le _, by omega, rfl, _, HB3.out⟩
    case round =>
      obtain ⟨i, hi, hi2, rfl, T, hB⟩ := hrel
      clear HB3
      have HE := Lib.hid (upto0_low HLow.out hB.low)
      by_cases h1 : i < n
      case neg =>
        have h1E : (i < n) = False := eq_false h1
        have h1E' : ((i : Int) < (n : Int)) = False := eq_false (by omega)
        clear hB h1
        go_wp2
        go_ret
        exact ⟨rfl, HE.out⟩
      have h1' : (i : Int) < n := by omega
      by_cases h2 : i < 200
      case neg =>
        have h2E : ((i : Int) < 200) = False := eq_false (by omega)
        clear hB h2
        go_wp2
        go_ret
        exact ⟨rfl, HE.out⟩
      have h2' : (i : Int) < 200 := by omega
      obtain ⟨p, hp⟩ : ∃ p, L[i]? = some p := ⟨_, List.getElem?_eq_getElem (by rw [Hn.out]; exact h1)⟩
      obtain ⟨A1, c1, e1, _, hcl⟩ := HMat.out wr hB.low
      rw [Hn.out] at e1 hcl
      injection e1 with e1 e2 e3
      subst e1 e3
      obtain ⟨gl, ol, rfl, hcl2⟩ := hcl (by omega)
      obtain ⟨q0, q1, q2, q3, q4, hpi1, hpi2⟩ := hcl2 i p hp
      have HD := Lib.hid (does_any w1 wr b B r T K0 p hpi1 hpi2 hB)
      obtain ⟨T', hT'⟩ : ∃ T', (does1 T p).2 = T' := ⟨_, rfl⟩
      rw [hT'] at HD
      obtain ⟨pd, pn, pi, pk, pv⟩ := p
      simp only at q0 q1 q2 q3 q4 HD
      clear hB hcl hcl2 hp hpi1 hpi2 hT' HE
      go_upto_region 10 with (go_at_call 19; (with_reducible refine HD.out.mono ?_); rintro e_ w5 ⟨rfl, hB5⟩)
      obtain ⟨m, hm⟩ : ∃ m, T'.L.length = m := ⟨_, rfl⟩
      obtain ⟨te, hte⟩ : ∃ te, T'.epoch = te := ⟨_, rfl⟩
      have hl8 : m ≤ 8 := by have h1 := hB5.fine.len; have h2 := hB5.fine.s2; omega
      have Hm := Lib.hid hm
      have HLen := Lib.hid (fun q => (hB5.drewN q).len)
      have HEp := Lib.hid (fun q => (hB5.drewN q).epoch)
      rw [hm] at HLen
      rw [hte] at HEp
      have HB5 := Lib.hid hB5
      obtain ⟨P5, v5, hT5, hR5, _⟩ := hB5
      have r0 := hR5.c0
      have r4 := hR5.c4
      obtain ⟨A5, c5, rfl⟩ := owns_form hR5.row
      rw [hm] at r0
      rw [hte] at r4
      have mE : ((m : Int) == (m : Int)) = true := by simp
      have teE : (te == te) = true := by simp
      clear hT5 hR5 hm hte q0 q1 q2 q3 q4
      go_quiet (first | exact Calls.quiet_of_same ((HLen.out _).mono fun _ _ h => ⟨h.1, h.2.symm⟩) | exact Calls.quiet_of_same ((HEp.out _).mono fun _ _ h => ⟨h.1, h.2.symm⟩))
      obtain ⟨W, hW⟩ : ∃ W, w5.drewN nq = W := ⟨_, rfl⟩
      have HBW : Hid (Both w1 b B r T' T' K0 W) := Lib.hid (by rw [← hW]; exact HB5.out.drewN _)
      rw [hW]
      clear hW r0 r4 HLen HEp HB5 HD mE teE
      go_wp2
      go_loopw [14, 15, 16] (fun kv _ _ wr2 => ∃ k : Nat, k ≤ m ∧ kv = .int .i64 k ∧ Both w1 b B r T' T' K0 wr2) (fun kv _ _ _ => m - (intOf kv).toNat)
      case atStart => exact ⟨0, Nat.zero_le _, rfl, HBW.out⟩
      case round =>
        obtain ⟨k, hk, rfl, hB⟩ := hrel
        clear HBW
        have HB := Lib.hid hB
        obtain ⟨P5, v5, hT5, hR5, _⟩ := hB
        have r0 := hR5.c0
        obtain ⟨A5, c5, rfl⟩ := owns_form hR5.row
        have hrow := hR5.row
        rw [Hm.out] at r0 hrow
        by_cases hlt : k < m
        · have hlt' : (k : Int) < m := by omega
          obtain ⟨g, o, rfl, hcl⟩ := ents_at hrow Hm.out (by omega)
          obtain ⟨y, hy⟩ : ∃ y, T'.L[k]? = some y := ⟨_, List.getElem?_eq_getElem (by rw [Hm.out]; exact hlt)⟩
          obtain ⟨d0, d1, d2, d3, d4, d5⟩ := hcl k y hy
          have hym := List.mem_of_getElem? hy
          have hyi := hT5.f.ids y hym
          have hn2 := hT5.f.n2
          have HG := Lib.hid (get_any b B P5 T' y.id wr (U64.of hyi.1 (by omega)) hT5)
          rw [getL_of hT5.f.rise hym] at HG
          have HG2 : Hid (Calls Try.prog 11 #[.pointer (some ⟨b, 0, none⟩), .int .u64 y.id] wr (fun e w' => e = .returned (.tuple #[entV y, .bool true]) ∧ Below wr.heap.size wr w')) := HG
          obtain ⟨xi, xt, xs, xl, xk, xv⟩ := y
          simp only [entV, Ent.cells] at HG2 d0 d1 d2 d3 d4 d5
          clear HG hT5 hR5 hrow hcl hy hym hyi hn2
          go_upto_region 16 with (go_at_call 11; (with_reducible refine HG2.out.mono ?_); rintro e_ w7 ⟨rfl, hb7⟩)
          have hb8 : Below wr.heap.size wr (w7.alloc (EntB ⟨xi, xt, xs, xl, xk, xv⟩)) := hb7.trans ((below_alloc w7 _).mono hb7.size)
          have g0 := keep_cell hb8 r0
          have e0 := keep_cell hb8 d0
          have e1 := keep_cell hb8 d1
          have e2 := keep_cell hb8 d2
          have e3 := keep_cell hb8 d3
          have e4 := keep_cell hb8 d4
          have e5 := keep_cell hb8 d5
          have n0 := new_cell w7 #[.int .u64 xi, .int .i64 xt, .int .i64 xs, .int .i64 xl, .int .i64 xk, .int .i64 xv] 37 0 rfl
          have n1 := new_cell w7 #[.int .u64 xi, .int .i64 xt, .int .i64 xs, .int .i64 xl, .int .i64 xk, .int .i64 xv] 37 1 rfl
          have n2 := new_cell w7 #[.int .u64 xi, .int .i64 xt, .int .i64 xs, .int .i64 xl, .int .i64 xk, .int .i64 xv] 37 2 rfl
          have n3 := new_cell w7 #[.int .u64 xi, .int .i64 xt, .int .i64 xs, .int .i64 xl, .int .i64 xk, .int .i64 xv] 37 3 rfl
          have n4 := new_cell w7 #[.int .u64 xi, .int .i64 xt, .int .i64 xs, .int .i64 xl, .int .i64 xk, .int .i64 xv] 37 4 rfl
          have n5 := new_cell w7 #[.int .u64 xi, .int .i64 xt, .int .i64 xs, .int .i64 xl, .int .i64 xk, .int .i64 xv] 37 5 rfl
          have HB8 := Lib.hid (fun q => (HB.out.below hb8).drewN q)
          clear r0 d0 d1 d2 d3 d4 d5 hb7 hb8 HB HG2
          go_quiet (fail)
          go_wp2
          go_roundw
          case rel => exact ⟨k + 1, by omega, by go_num, HB8.out _⟩
          case measure => (simp [intOf] <;> omega)
        · obtain rfl : k = m := by omega
          clear hrow hR5 hT5
          go_wp2
          go_roundw
          case rel => exact ⟨i + 1, by omega, by omega, by go_num, T', HB.out⟩
          case measure => (simp [intOf] <;> omega)
end Go.Proofs.Ytfknkkcpieaikaa
