/- Tick of the document's timers. Conditions: they can be read; what each has left is 1 to 1000; they are no more than 900000; Rising is as its contract says. -/
import Derived.Test.YtocfklnoklmocaaRTick0
import Derived.Test.YtocfklnoklmocaaRSet
import Derived.BigRegion
namespace Go.Proofs.Ytocfklnoklmocaa
open Go.RowKit
set_option linter.unusedVariables false
set_option linter.unusedSimpArgs false

def RisePost (xs : List Int) (w : World) (en : Ending) (w' : World) : Prop :=
  ∃ A c, en = .returned (.slice A (riseL xs).length c) ∧ NumsAt w' (.slice A (riseL xs).length c) (riseL xs) ∧ Below w.heap.size w w'
/-- r's rows lie below N. -/
def RefBelow (w : World) (b N : Nat) : Prop := ∀ v, w.cell? ⟨b, 1, none⟩ = some v ∨ w.cell? ⟨b, 2, none⟩ = some v → ∀ k, v.ownBlock = some k → k < N
theorem RefAt.blocks {w : World} {b : Nat} {e : Int} {ids lefts : List Int} (h : RefAt w b e ids lefts) : RefBelow w b w.heap.size := by
  obtain ⟨vI, vL, hT, hl, hI, hL, hA⟩ := h
  intro v hv k hk
  rcases hv with hv | hv
  · rw [hT.c1] at hv; cases hv; exact (own_lt hI hk).1
  · rw [hT.c2] at hv; cases hv; exact (own_lt hL hk).1
theorem RefBelow.upto {w w' : World} {S : Nat → Prop} {b N : Nat} {e : Int} {ids lefts : List Int} (h : RefBelow w b N) (hR : RefAt w b e ids lefts) (hu : Upto S w w') (hS : ¬ S b) : RefBelow w' b N := by
  obtain ⟨vI, vL, hT, hl, hI, hL, hA⟩ := hR
  intro v hv k hk
  rcases hv with hv | hv
  · rw [(hT.upto hu hS).c1] at hv; exact h v (.inl (hT.c1.trans hv)) k hk
  · rw [(hT.upto hu hS).c2] at hv; exact h v (.inr (hT.c2.trans hv)) k hk
def RTickPost (N : Nat) (b : Nat) (e : Int) (ids lefts : List Int) (w : World) (en : Ending) (w' : World) : Prop :=
  ∃ A c, en = .returned (.slice A (riseL (offs ids lefts)).length c) ∧ NumsAt w' (.slice A (riseL (offs ids lefts)).length c) (riseL (offs ids lefts)) ∧ RefAt w' b e ids (lefts.map (tk e)) ∧ Below b w w' ∧ Upto (fun k => k < N) w w'
theorem nums_of_own {w : World} {b n : Nat} {A : Option Addr} {c : Nat} {xs : List Int} (h : w.ownsRow b 27 1 (.slice A n c) n (U xs)) (hn : xs.length = n) : NumsAt w (.slice A n c) xs := by
  subst hn
  refine ⟨A, c, rfl, fun h0 => ?_⟩
  obtain ⟨g, cap, e1, _, _, _, hc, _⟩ := own_cell h h0
  injection e1 with e1 e2 e3
  refine ⟨g, 0, e1, fun j x hx => ?_⟩
  rw [Nat.zero_add]
  exact hc j _ (by unfold U; rw [List.getElem?_map, hx]; rfl)

/-- Where a tick's round is. -/
def TickAt (w : World) (b : Nat) (e : Int) (vI vL : Value) (n : Nat) (ids lefts : List Int) (i : Nat) (ov : Value) (wr : World) : Prop :=
  Trio wr b (.int .i64 e) vI vL ∧ wr.ownsRow (b + 1) 27 1 vI n (U ids) ∧ wr.ownsRow (b + 1) 3 1 vL n (I (mixL e lefts i)) ∧ wr.ownsRow w.heap.size 27 1 ov (offs (ids.take i) (lefts.take i)).length (U (offs (ids.take i) (lefts.take i))) ∧ Upto (fun k => vL.ownBlock = some k) w wr
theorem set_upto (w : World) (g i : Nat) (u : Value) : Upto (fun k => k = g) w (w.setCell ⟨g, i, none⟩ u) := Upto.setCell (S := fun k => k = g) (Upto.refl _ w) (p := ⟨g, i, none⟩) (.inl rfl) u
theorem drewN_upto (S : Nat → Prop) (w : World) (q : Nat) : Upto S w (w.drewN q) := ⟨rfl, rfl, rfl, Nat.le_refl _, fun _ _ _ => rfl⟩
theorem set_twice (w : World) (g i : Nat) (X Y : Value) : ((w.setCell ⟨g, i, none⟩ X).setCell ⟨g, i, none⟩ Y).drew.heap = (w.setCell ⟨g, i, none⟩ Y).heap := by
  show ((w.setCell ⟨g, i, none⟩ X).setCell ⟨g, i, none⟩ Y).heap = _
  unfold World.setCell
  apply Array.ext_getElem?
  intro k
  simp only [Array.getElem?_modify]
  by_cases h : g = k
  · subst h
    cases w.heap[g]? with
    | none => simp
    | some o => cases o <;> simp
  · simp [h]
section
variable {w wr wx : World} {b n i g2 cap2 : Nat} {e c : Int} {vI ov : Value} {ids lefts : List Int}
theorem own_other {w : World} {b g n : Nat} {e : TypeId} {v u : Value} {xs : List Value} {i : Nat} (h : w.ownsRow b e 1 v n xs) (hg : v.ownBlock ≠ some g) : (w.setCell ⟨g, i, none⟩ u).ownsRow b e 1 v n xs := ownsRow_setCell_other h hg u
/-- The round's store into the second row, and nothing else. -/
theorem TickAt.one (h : TickAt w b e vI (.slice (some ⟨g2, 0, none⟩) n cap2) n ids lefts i ov wr) (hA : Apart vI (.slice (some ⟨g2, 0, none⟩) n cap2)) (hg : g2 < w.heap.size) (hb : b < g2) (hi : i < n) (d : Int) (hx : wx.heap = (wr.setCell ⟨g2, i, none⟩ (.int .i64 d)).heap) (ho : wx.os = wr.os) (ht : wx.tape = wr.tape) (hou : wx.output = wr.output) :
    Trio wx b (.int .i64 e) vI (.slice (some ⟨g2, 0, none⟩) n cap2) ∧ wx.ownsRow (b + 1) 27 1 vI n (U ids) ∧ wx.ownsRow (b + 1) 3 1 (.slice (some ⟨g2, 0, none⟩) n cap2) n (I ((mixL e lefts i).set i d)) ∧ wx.ownsRow w.heap.size 27 1 ov (offs (ids.take i) (lefts.take i)).length (U (offs (ids.take i) (lefts.take i))) ∧ Upto (fun k => (Value.slice (some ⟨g2, 0, none⟩) n cap2).ownBlock = some k) w wx := by
  obtain ⟨h1, h2, h3, h4, h5⟩ := h
  have hh : ∀ k : Nat, wx.heap[k]? = (wr.setCell ⟨g2, i, none⟩ (.int .i64 d)).heap[k]? := fun k => by rw [hx]
  have own_of : ∀ {b : Nat} {e : TypeId} {v : Value} {n : Nat} {xs : List Value}, (wr.setCell ⟨g2, i, none⟩ (.int .i64 d)).ownsRow b e 1 v n xs → wx.ownsRow b e 1 v n xs := by
    intro b e v n xs h
    refine own_kept (S := fun _ => False) h ⟨ho, ht, hou, by rw [hx]; exact Nat.le_refl _, fun k _ _ => hh k⟩ (fun _ h => h.elim)
  refine ⟨?_, own_of (own_other h2 (fun h => hA g2 h rfl)), own_of (by rw [I_set]; exact own_set h3 hi _), own_of (own_other h4 (fun h => by have := (own_lt h4 h).2; omega)), ?_⟩
  · unfold Trio
    rw [hh b]
    exact h1.upto (set_upto wr g2 i _) (show ¬ b = g2 by omega)
  · have hu := h5.setCell (p := ⟨g2, i, none⟩) (.inl rfl) (.int .i64 d)
    exact ⟨ho.trans (hu.os), ht.trans hu.tape, hou.trans hu.output, by rw [hx]; exact hu.size, fun k hk hs => (hh k).trans (hu.block k hk hs)⟩
end
set_option maxRecDepth 100000 in
set_option maxHeartbeats 8000000 in
theorem rtick_any (N b : Nat) (e : Int) (ids lefts : List Int) (w : World) (hR : ∀ A c xs W, NumsAt W (.slice A xs.length c) xs → xs.length ≤ 900000 → Calls Try.prog 21 #[.slice A xs.length c] W (RisePost xs W)) (hN : ids.length ≤ 900000) (hF : ∀ (i : Nat) c, lefts[i]? = some c → 1 ≤ c ∧ c ≤ 1000) (he : 1 ≤ e ∧ e ≤ 1000) (hNb : RefBelow w b N) (h : RefAt w b e ids lefts) :
    Calls Try.prog 19 #[.pointer (some ⟨b, 0, none⟩)] w (RTickPost N b e ids lefts w) := by
  have HR := Lib.hid hR
  have HF := Lib.hid hF
  obtain ⟨i0, hi0, hz0, hz1, hz2⟩ := info_parts info27
  obtain ⟨vI, vL, hT, hl, hI, hL, hA⟩ := h
  obtain ⟨n, hn⟩ : ∃ n, ids.length = n := ⟨_, rfl⟩
  rw [← hl] at hL
  rw [hn] at hI hL hN
  have he1 := he.1
  have he2 := he.2
  obtain ⟨A1, d1, rfl⟩ := owns_form hI
  obtain ⟨A2, d2, rfl⟩ := owns_form hL
  have HNb := Lib.hid (fun k hk => hNb _ (.inr hT.c2) k hk)
  have c1 := hT.c1
  have hbl := hT.lt
  have Hl : Hid (lefts.length = n) := Lib.hid (by rw [← hl, hn])
  have Hn := Lib.hid hn
  have HA := Lib.hid hA
  have HLw := Lib.hid hL
  have HIw := Lib.hid hI
  have HS : Hid (TickAt w b e (.slice A1 n d1) (.slice A2 n d2) n ids lefts 0 (.slice none 0 0) w) := Lib.hid ⟨hT, hI, by rw [mix_zero]; exact hL, World.ownsRow_nil _ _ _ _, Upto.refl _ w⟩
  clear hR hF hT hl hI hL hA hn he hNb
  go_enter Try.func19, Try.ntmps19
  go_wp2
  go_loopw [3, 4] (fun ov iv wr => ∃ i : Nat, i ≤ n ∧ iv = .int .i64 i ∧ TickAt w b e (.slice A1 n d1) (.slice A2 n d2) n ids lefts i ov wr) (fun _ iv _ => n - (intOf iv).toNat)
  case atStart => exact ⟨0, Nat.zero_le _, rfl, HS.out⟩
  case round =>
    obtain ⟨i, hi, rfl, hTA⟩ := hrel
    have HTA := Lib.hid hTA
    obtain ⟨hT, hI, hL, hO, hU⟩ := hTA
    have c1 := hT.c1
    by_cases hlt : i < n
    · have hlt' : (i : Int) < n := by omega
      obtain ⟨g1, cap1, e1, hb1, hg1, hcap1, hc1, _⟩ := own_cell hI (by omega)
      obtain ⟨g2, cap2, e2, hb2, hg2, hcap2, hc2, hf2⟩ := own_cell hL (by omega)
      injection e1 with e1 e1a e1b
      injection e2 with e2 e2a e2b
      subst e1 e2 e1b e2b
      have hgw : g2 < w.heap.size := (own_lt HLw.out rfl).1
      have hne : g1 ≠ g2 := fun h => HA.out g2 (by rw [h]; rfl) rfl
      obtain ⟨x, hx⟩ : ∃ x, ids[i]? = some x := ⟨_, List.getElem?_eq_getElem (by rw [Hn.out]; exact hlt)⟩
      obtain ⟨c, hc⟩ : ∃ c, lefts[i]? = some c := ⟨_, List.getElem?_eq_getElem (by rw [Hl.out]; exact hlt)⟩
      have hcc := HF.out i c hc
      have hcc1 := hcc.1
      have hcc2 := hcc.2
      have q0 := hT.c0
      have q2 := hT.c2
      have qx := hc1 i _ (by unfold U; rw [List.getElem?_map, hx]; rfl)
      have qc := hc2 i _ (by unfold I; rw [List.getElem?_map, mix_at hc]; rfl)
      have qf := hf2 i
      have hbg : b ≠ g2 := by omega
      have s0 : ∀ X, (wr.setCell ⟨g2, i, none⟩ X).cell? ⟨b, 0, none⟩ = some (.int .i64 e) := fun X => (hT.upto (set_upto wr g2 i X) hbg).c0
      have s1 : ∀ X, (wr.setCell ⟨g2, i, none⟩ X).cell? ⟨b, 1, none⟩ = some (.slice (some ⟨g1, 0, none⟩) n d1) := fun X => (hT.upto (set_upto wr g2 i X) hbg).c1
      have s2 : ∀ X, (wr.setCell ⟨g2, i, none⟩ X).cell? ⟨b, 2, none⟩ = some (.slice (some ⟨g2, 0, none⟩) n d2) := fun X => (hT.upto (set_upto wr g2 i X) hbg).c2
      have sx : ∀ X, (wr.setCell ⟨g2, i, none⟩ X).cell? ⟨g1, i, none⟩ = some (.int .u64 x) := fun X => (set_upto wr g2 i X).cell hne qx
      have sc : ∀ X, (wr.setCell ⟨g2, i, none⟩ X).cell? ⟨g2, i, none⟩ = some X := fun X => World.cell?_setCell_same' wr _ X (by rw [qc]; rfl)
      have sf : ∀ X, (wr.setCell ⟨g2, i, none⟩ X).frozen? ⟨g2, i, none⟩ = false := fun X => by rw [World.frozen?_setCell]; exact qf
      obtain ⟨m, hm⟩ : ∃ m, (offs (ids.take i) (lefts.take i)).length = m := ⟨_, rfl⟩
      have hmi := offs_take_len ids lefts i
      rw [hm] at hmi hO
      obtain ⟨A3, d3, rfl⟩ := owns_form hO
      have Hm := Lib.hid hm
      have Hx := Lib.hid hx
      have Hc := Lib.hid hc
      clear hT hI hL hO hU hc1 hc2 hf2 hm hx hc hcc
      by_cases h1 : c = 1
      · subst h1
        have t1 : ∀ X Y, ((wr.setCell ⟨g2, i, none⟩ X).setCell ⟨g2, i, none⟩ Y).cell? ⟨b, 1, none⟩ = some (.slice (some ⟨g1, 0, none⟩) n d1) := fun X Y => (set_upto (wr.setCell ⟨g2, i, none⟩ X) g2 i Y).cell hbg (s1 X)
        have tx : ∀ X Y, ((wr.setCell ⟨g2, i, none⟩ X).setCell ⟨g2, i, none⟩ Y).cell? ⟨g1, i, none⟩ = some (.int .u64 x) := fun X Y => (set_upto (wr.setCell ⟨g2, i, none⟩ X) g2 i Y).cell hne (sx X)
        have hof := offs_take Hx.out Hc.out
        rw [if_pos rfl] at hof
        have hone := HTA.out.one HA.out hgw (by omega) hlt e (wx := ((wr.setCell ⟨g2, i, none⟩ (.int .i64 0)).setCell ⟨g2, i, none⟩ (.int .i64 e)).drew) (set_twice _ _ _ _ _) rfl rfl rfl
        have htk : tk e 1 = e := if_pos rfl
        have hmx : (mixL e lefts i).set i e = mixL e lefts (i + 1) := by rw [mix_succ Hc.out, htk]
        rw [hmx, Hm.out] at hone
        obtain ⟨o1, o2, o3, o4, o5⟩ := hone
        obtain ⟨WW, hWW⟩ : ∃ W, ((wr.setCell ⟨g2, i, none⟩ (.int .i64 0)).setCell ⟨g2, i, none⟩ (.int .i64 e)).drew = W := ⟨_, rfl⟩
        have hsW := o5.size
        rw [hWW] at o1 o2 o3 o4 o5 hsW
        have O1 := Lib.hid o1
        have O2 := Lib.hid o2
        have O3 := Lib.hid o3
        have O4 := Lib.hid o4
        have O5 := Lib.hid o5
        have HOF := Lib.hid hof
        have HWW := Lib.hid hWW
        have hc9 := Lib.hid (new_cell WW #[.int .u64 x] 27 0 rfl)
        have v1 := o1.c1
        have vx : WW.cell? ⟨g1, i, none⟩ = some (.int .u64 x) := by rw [← hWW]; exact tx _ _
        clear hof htk hmx o1 o2 o3 o4 o5 hWW
        go_wp2
        go_region
        rw [HWW.out]
        clear s0 s1 s2 sx sc sf t1 tx q0 q2 qx qc qf c1
        go_wp2_with (at_builtin; refine wpList_append_src _ rfl (Operand.tmp 41) (Operand.tmp 49) _ rfl w.heap.size 27 i0 (.int .u64 0) 1 8 under22 hi0 hz0 hz1 hz2 rfl (by decide) (.slice A3 m d3) m (U (offs (ids.take i) (lefts.take i))) rfl (own_kept O4.out ((Upto.refl (fun _ => False) WW).alloc _) (fun _ h => h.elim)) (some ⟨WW.heap.size, 0, none⟩) 1 1 [.int .u64 x] rfl (src_one hc9.out rfl) (by unfold maxLen; omega) (by omega) (Nat.le_trans hsW (below_alloc WW _).size) ?_; intro v2 w2 hown2 hgrow2 hat2; have Hown2 := Lib.hid hown2; have Hgrow2 := Lib.hid hgrow2; clear hown2 hgrow2 hat2)
        go_roundw
        case rel =>
          have hu2 : Upto (fun k => (Value.slice A3 m d3).ownBlock = some k) WW w2 := ((Upto.refl _ WW).alloc _).grown Hgrow2.out (fun k hk => .inl hk)
          have hge : ∀ k, (Value.slice A3 m d3).ownBlock = some k → w.heap.size ≤ k := fun k hk => (own_lt O4.out hk).2
          refine ⟨i + 1, by omega, by go_num, O1.out.upto hu2 (fun h => by have := hge b h; omega), own_kept O2.out hu2 (fun k hk h => by have h1 := hge k hk; have h2 := (own_lt HIw.out h).1; omega), own_kept O3.out hu2 (fun k hk h => by have h1 := hge k hk; have h2 := (own_lt HLw.out h).1; omega), ?_, ?_⟩
          · rw [HOF.out]
            have := Hown2.out
            rw [List.length_append, Hm.out]
            simpa [U] using this
          · exact (O5.out.alloc _).grown Hgrow2.out (fun k hk => .inr (hge k hk))
        case measure => (simp [intOf] <;> omega)
      · have h1E : ((c - 1) == 0) = false := by simp; omega
        have h1F : wrap64 (c - 1) = c - 1 := by unfold wrap64; omega
        have htk : tk e c = c - 1 := if_neg h1
        have hof := offs_take Hx.out Hc.out
        rw [if_neg h1, List.append_nil] at hof
        have HOF := Lib.hid hof
        have HTK := Lib.hid htk
        clear h1 hof htk
        go_wp2
        go_roundw
        case rel =>
          refine ⟨i + 1, by omega, by go_num, ?_⟩
          have hone := HTA.out.one HA.out hgw (by omega) hlt (c - 1) (wx := wr.setCell ⟨g2, i, none⟩ (.int .i64 (c - 1))) rfl rfl rfl rfl
          rw [← HTK.out, ← mix_succ Hc.out] at hone
          rw [← HTK.out]
          unfold TickAt
          rw [HOF.out]
          exact hone
        case measure => (simp [intOf] <;> omega)
    · obtain rfl : i = n := by omega
      have hmix : mixL e lefts i = lefts.map (tk e) := by rw [← mix_all, Hl.out]
      have hids : ids.take i = ids := List.take_of_length_le (by rw [Hn.out]; exact Nat.le_refl _)
      have hlefts : lefts.take i = lefts := List.take_of_length_le (by rw [Hl.out]; exact Nat.le_refl _)
      have hlen := offs_take_len ids lefts i
      rw [hids, hlefts] at hlen
      rw [hids, hlefts] at hO
      rw [hmix] at hL
      obtain ⟨m, hm⟩ : ∃ m, (offs ids lefts).length = m := ⟨_, rfl⟩
      rw [hm] at hO hlen
      obtain ⟨A3, d3, rfl⟩ := owns_form hO
      have hnums := nums_of_own hO hm
      rw [← hm] at hnums
      have hcall := HR.out A3 d3 _ wr hnums (by omega)
      rw [hm] at hcall
      have Hcall := Lib.hid hcall
      have HRef : Hid (RefAt wr b e ids (lefts.map (tk e))) := Lib.hid ⟨_, _, hT, by rw [List.length_map, Hn.out, Hl.out], by rw [Hn.out]; exact hI, by rw [List.length_map, Hl.out]; exact hL, HA.out⟩
      have HB : Hid (Below b w wr) := Lib.hid (hU.toBelow (Nat.le_of_lt hbl) (fun k hk => by have := (own_lt HLw.out hk).2; omega))
      have HUN : Hid (Upto (fun k => k < N) w wr) := Lib.hid (hU.mono (fun k hk => .inl (HNb.out k hk)))
      clear hT hI hL hO hU hmix hids hlefts hnums hcall
      go_wp2_with (go_at_call 21; (with_reducible refine Hcall.out.mono ?_); rintro e1 w5 ⟨A, c, rfl, hn5, hb5⟩)
      go_ret
      exact ⟨A, c, rfl, hn5, HRef.out.below hb5, HB.out.trans (hb5.mono (by have := HB.out.size; omega)), HUN.out.below hb5⟩
end Go.Proofs.Ytocfklnoklmocaa
