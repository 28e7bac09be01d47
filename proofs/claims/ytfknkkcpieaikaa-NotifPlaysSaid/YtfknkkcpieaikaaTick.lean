/- Tick. Condition: the table can be read. -/
import Derived.Test.YtfknkkcpieaikaaDrop
namespace Go.Proofs.Ytfknkkcpieaikaa
open Go.RowKit
set_option linter.unusedVariables false
set_option linter.unusedSimpArgs false

theorem own_lt {w : World} {b : Nat} {e : TypeId} {size n : Nat} {v : Value} {xs : List Value} (h : w.ownsRow b e size v n xs) {k : Nat} (hk : v.ownBlock = some k) : k < w.heap.size ∧ b ≤ k := by
  obtain ⟨h1, h2⟩ := h
  rcases h2 with ⟨rfl, _⟩ | ⟨g, cap, cur, rfl, h3, h4, _⟩
  · simp [Value.ownBlock] at hk
  · simp [Value.ownBlock] at hk
    subst hk
    exact ⟨(Array.getElem?_eq_some_iff.1 h4).1, h3⟩
theorem own_kept {S : Nat → Prop} {w w' : World} {b : Nat} {e : TypeId} {size n : Nat} {v : Value} {xs : List Value} (h : w.ownsRow b e size v n xs) (hu : Upto S w w') (hS : ∀ k, S k → v.ownBlock ≠ some k) : w'.ownsRow b e size v n xs := by
  obtain ⟨h1, h2⟩ := h
  refine ⟨h1, ?_⟩
  rcases h2 with h2 | ⟨g, cap, cur, rfl, h3, h4, h5⟩
  · exact .inl h2
  · exact .inr ⟨g, cap, cur, rfl, h3, (hu.block g (Array.getElem?_eq_some_iff.1 h4).1 (fun hs => hS g hs rfl)).trans h4, h5⟩
def gt (x : Ent) : Ent := if x.left = 1 then ({ x with left := 0 } : Ent).go 6 else { x with left := x.left - 1 }
theorem gt_keeps : Keeps gt := fun x => by
  unfold gt
  split <;> exact ⟨rfl, rfl⟩
theorem gt_fine {wait : Int} {x : Ent} (hw : x.waits = true) (h : EFine wait x) : EFine wait (gt x) := by
  unfold gt
  split
  · exact go_fine 6 wait (by decide) _
  · rename_i hl
    have h1 := h.1 hw
    exact ⟨fun _ => ⟨by show 1 ≤ x.left - 1; omega, by show x.left - 1 ≤ wait; omega⟩, fun h2 => (by have h3 : x.waits = false := h2; rw [hw] at h3; cases h3), h.2.2⟩
def tickT (T : Tb) : Tb := mapT T (fun x => if x.waits then gt x else x)
def isLast (L : List Ent) (k : Int) : Bool := (getL L k).any (fun x => x.left == 1)
def tickIds (T : Tb) : List Int := (idsL T.L Ent.waits).filter (isLast T.L)
theorem addr_add' (g o j : Nat) : (⟨g, o, none⟩ : Addr).add j = ⟨g, o + j, none⟩ := by
  unfold Addr.add
  split
  · rename_i h
    subst h
    rfl
  · rfl
theorem nums_own {w : World} {b n : Nat} {A : Option Addr} {c : Nat} {xs : List Int} (h : w.ownsRow b 23 1 (.slice A n c) n (xs.map (Value.int .u64))) (hn : xs.length = n) : NumsAt w (.slice A n c) xs := by
  subst hn
  refine ⟨A, c, rfl, fun h0 => ?_⟩
  have hcell := fun g => h.cells (g := g)
  rcases h.2 with ⟨e, h2⟩ | ⟨g, cap, cur, e, h3, h4, h5, h6, h7, h8⟩
  · omega
  · injection e with e1 e2 e3
    refine ⟨g, 0, e1, fun j x hx => ?_⟩
    have := hcell g (by rw [e1]; rfl) j (.int .u64 x) (by rw [List.getElem?_map, hx]; rfl)
    rw [addr_add', Nat.zero_add] at this
    rw [Nat.zero_add]
    exact this
theorem owns_form {w : World} {b e size n : Nat} {v : Value} {xs : List Value} (h : w.ownsRow b e size v n xs) : ∃ A c, v = .slice A n c := by
  rcases h.2 with ⟨rfl, h0⟩ | ⟨g, cap, cur, rfl, _⟩
  · exact ⟨none, 0, by rw [h0]⟩
  · exact ⟨_, _, rfl⟩
def TickPost (b B : Nat) (P : Int → Nat) (T : Tb) (w : World) (e : Ending) (w' : World) : Prop :=
  ∃ A n c, e = .returned (.slice A n c) ∧ (tickIds T).length = n ∧ NumsAt w' (.slice A n c) (tickIds T) ∧ (∀ a, A = some a → w.heap.size ≤ a.block) ∧ TabAt w' b B P (tickT T) ∧ Upto (Own b B P T.L) w w'
set_option maxRecDepth 100000 in
set_option maxHeartbeats 4000000 in
theorem tick_any (b B : Nat) (P : Int → Nat) (T : Tb) (w : World) (h : TabAt w b B P T) : Calls Try.prog 13 #[.pointer (some ⟨b, 0, none⟩)] w (TickPost b B P T w) := by
  have I := ids_waits b B P T w h
  have H := Lib.hid h
  obtain ⟨i0, hi, hz0, hz1, hz2⟩ := info_parts info23
  have hlen8 : T.L.length ≤ 8 := by have := h.f.len; have := h.f.s2; omega
  have hlk : (idsL T.L Ent.waits).length ≤ 8 := by unfold idsL; rw [List.length_map]; exact Nat.le_trans (List.length_filter_le _ _) hlen8
  clear h
  go_enter Try.func13, Try.ntmps13
  go_wp2_with (go_at_call 27; (with_reducible refine I.mono ?_); rintro e_ w1 ⟨A, c, rfl, hn, hfr, hb⟩)
  obtain ⟨ks, hks⟩ : ∃ ks, idsL T.L Ent.waits = ks := ⟨_, rfl⟩
  have Hks := Lib.hid hks
  have Hrise : Hid (ks.Pairwise (· < ·)) := Lib.hid (by rw [← hks]; exact idsL_rise H.out.f.rise _)
  rw [hks] at hn hlk ⊢
  obtain ⟨n, hnl⟩ : ∃ n, ks.length = n := ⟨_, rfl⟩
  rw [hnl] at hn hlk ⊢
  have Hnl := Lib.hid hnl
  have Hn := Lib.hid hn
  have Hfr := Lib.hid hfr
  have Hb := Lib.hid hb
  have HT1 : Hid (TabAt w1 b B P (mapT T (stage ks 0 gt))) := Lib.hid (by rw [stage_zero]; exact H.out.below hb)
  have hw1 := hb.size
  clear hn hfr hb hks hnl I
  go_loopw [3, 5, 6, 10] (fun ov _ _ iv wr => ∃ j : Nat, j ≤ n ∧ iv = .int .i64 j ∧ TabAt wr b B P (mapT T (stage ks j gt)) ∧ Upto (Own b B P T.L) w1 wr ∧ wr.ownsRow w1.heap.size 23 1 ov ((ks.take j).filter (isLast T.L)).length (((ks.take j).filter (isLast T.L)).map (Value.int .u64))) (fun _ _ _ iv _ => n - (intOf iv).toNat)
  case atStart => exact ⟨0, Nat.zero_le _, rfl, HT1.out, Upto.refl _ _, World.ownsRow_nil _ _ _ _⟩
  case round =>
    obtain ⟨j, hj, rfl, hT, hU, hO⟩ := hrel
    have HT := Lib.hid hT
    have HU := Lib.hid hU
    have c4 := hT.q.c4
    obtain ⟨os, hos⟩ : ∃ os, (ks.take j).filter (isLast T.L) = os := ⟨_, rfl⟩
    rw [hos] at hO
    have hol : os.length ≤ 8 := by
      rw [← hos]
      refine Nat.le_trans (List.length_filter_le _ _) ?_
      simp; omega
    obtain ⟨m, hm⟩ : ∃ m, os.length = m := ⟨_, rfl⟩
    rw [hm] at hO hol
    have Hos := Lib.hid hos
    have Hm := Lib.hid hm
    have HO := Lib.hid hO
    have hwr1 := hU.size
    by_cases hlt : j < n
    · have hlt' : (j : Int) < n := by omega
      obtain ⟨A5, d5, rfl⟩ := owns_form hO
      obtain ⟨k, hk⟩ : ∃ k, ks[j]? = some k := ⟨_, List.getElem?_eq_getElem (by rw [Hnl.out]; exact hlt)⟩
      obtain ⟨x, hx, hw⟩ := (idsL_mem H.out.f.rise Ent.waits k).1 (by rw [Hks.out]; exact List.mem_of_getElem? hk)
      obtain ⟨hxL, rfl⟩ := getL_mem hx
      have hN := Hn.out.upto hU (fun a ha h => by have h1 := Hfr.out a ha; have h2 := H.out.lt h; omega)
      obtain ⟨g, o, rfl, hcl⟩ := hN.at' (by omega)
      have ck := hcl j x.id hk
      have hid := H.out.f.ids x hxL
      have hn2 := H.out.f.n2
      have hleft := H.out.f.wait x hxL hw
      have hw2 := H.out.f.w2
      have hU64 : U64 x.id := U64.of hid.1 (by omega)
      have hlook := hT.look hU64
      have hget : getL (mapT T (stage ks j gt)).L x.id = some x := by
        show getL (T.L.map _) x.id = _
        rw [getL_map (stage_keeps gt_keeps), hx]
        show some (stage ks j _ x) = _
        rw [stage_at Hrise.out hk]
      rw [hget] at hlook
      have hlook2 : (Instr.lookup 60 (.map (some B)) (.int .u64 x.id) false).run Try.prog wr = .ok (.pointer (some ⟨P x.id, 0, none⟩)) wr := hlook
      have hxm : x ∈ (mapT T (stage ks j gt)).L := (getL_mem hget).1
      have hE := hT.e x hxm
      have hpw : P x.id < w.heap.size := (H.out.e x hxL).lt
      have hst := stage_succ Hrise.out hk gt_keeps T
      have hfl : (ks.take (j + 1)).filter (isLast T.L) = os ++ (if x.left = 1 then [x.id] else []) := by
        rw [List.take_add_one, hk, ← hos, List.filter_append]
        congr 1
        show List.filter (isLast T.L) [x.id] = _
        have : isLast T.L x.id = (x.left == 1) := by unfold isLast; rw [hx]; rfl
        rw [List.filter_cons, this]
        by_cases e : x.left = 1 <;> simp [e]
      have HX := Lib.hid (show TabAt wr b B P (mapT T (stage ks j gt)) ∧ x ∈ (mapT T (stage ks j gt)).L ∧ x.waits = true ∧ x ∈ T.L from ⟨hT, hxm, hw, hxL⟩)
      have Hst := Lib.hid hst
      have Hfl := Lib.hid hfl
      have HFn := Lib.hid (gt_fine hw (H.out.f.each hxL))
      obtain ⟨p, hp⟩ : ∃ p, P x.id = p := ⟨_, rfl⟩
      rw [hp] at hE hlook2 hpw
      have d3 := hE.c3
      have z3 := hE.fz 3
      have HE := Lib.hid hE
      have Hp := Lib.hid hp
      obtain ⟨xi, hxi⟩ : ∃ i, x.id = i := ⟨_, rfl⟩
      obtain ⟨xl, hxl⟩ : ∃ i, x.left = i := ⟨_, rfl⟩
      have Hxi := Lib.hid hxi
      have Hxl := Lib.hid hxl
      rw [hxi] at ck hlook2
      rw [hxl] at d3 hleft
      have hl1 := hleft.1
      have hl2 : xl ≤ 1000 := by omega
      clear hT hU hO hk hx hxL hw hN hcl hid hn2 hU64 hlook hget hxm hp hxi hxl HT hst hfl hleft hw2 hos hm hE
      by_cases hone : xl = 1
      · subst hone
        have hgt : gt x = ({ x with left := 0 } : Ent).go 6 := if_pos Hxl.out
        have Hgt := Lib.hid hgt
        have hu1 := set_upto wr p 3 (.int .i64 0)
        have hE1 : EntAt (wr.setCell ⟨p, 3, none⟩ (.int .i64 0)) p { x with left := 0 } := cells_set HE.out _
        have G1 := gone_any p _ 6 _ hE1
        have Hu1 := Lib.hid hu1
        clear hgt hu1 hE1
        go_wp2_with (first
          | (go_at_call 28; (with_reducible refine G1.mono ?_); rintro e_ w3 ⟨rfl, hE3, hu3⟩; have hrow := own_kept HO.out (Hu1.out.then hu3) (fun k hk h => by have h1 := (own_lt HO.out h).2; have hk : k = p := hk; omega); have hsz3 := (Hu1.out.then hu3).size)
          | (at_builtin; refine wpList_append_own _ rfl _ _ 30 rfl w1.heap.size 23 i0 (.int .u64 0) 1 8 under30 hi hz0 hz1 hz2 rfl (by decide) _ _ _ rfl (hrow.alloc _) ⟨w3.heap.size, 0, none⟩ 1 1 [.int .u64 xi] rfl rfl (cell_one_new _ _ _) (by simp [Value.oneCell']) (by unfold maxLen; omega) (by omega) (by simp; omega) ?_; intro v' w5 hown' hg5 hnil5; go_frame))
        have hT3 := HX.out.1.one HX.out.2.1 gt_keeps HFn.out (w' := w3) (by rw [Hp.out]; exact Hu1.out.then hu3) (by rw [Hp.out, Hgt.out]; exact hE3)
        rw [Hst.out] at hT3
        have hge : ∀ k, (Value.slice A5 m d5).ownBlock = some k → w.heap.size ≤ k := fun k hk => by have := (own_lt HO.out hk).2; omega
        have hu35 : Upto (fun k => (Value.slice A5 m d5).ownBlock = some k) w3 w5 := ((Upto.refl _ w3).alloc _).grown hg5 (fun k hk => .inl hk)
        have hnot : ∀ k, Own b B P (mapT T (stage ks (j + 1) gt)).L k → ¬ (Value.slice A5 m d5).ownBlock = some k := fun k hk h => by
          have h1 := hge k h
          have h2 : k < w.heap.size := by
            rcases hk with hk | hk | ⟨y, hy, hk⟩
            · rw [hk]; exact H.out.lt (.inl rfl)
            · rw [hk]; exact H.out.lt (.inr (.inl rfl))
            · rw [hk]; exact H.out.lt (own_map (stage_keeps gt_keeps) hy)
          omega
        have HT5 := Lib.hid (hT3.upto hu35 hnot)
        have HU5 : Hid (Upto (Own b B P T.L) w1 w5) := Lib.hid ((HU.out.then (upto_own HX.out.2.2.2 (by rw [Hp.out]; exact Hu1.out.then hu3))).trans hu35 (fun k hk => .inr (own_lt HO.out hk).2))
        have HW5 := Lib.hid hown'
        clear hT3 hge hu35 hnot hg5 hown' hE3 hu3 hrow
        go_roundw
        case rel =>
          refine ⟨j + 1, by omega, by go_num, HT5.out, HU5.out, ?_⟩
          rw [Hfl.out, if_pos Hxl.out, Hxi.out]
          have := HW5.out
          rw [List.length_append, Hm.out]
          simpa using this
        case measure => (simp [intOf] <;> omega)
      · have honeE : ((xl - 1) == 0) = false := by simp; omega
        have hwr : wrap64 (xl - 1) = xl - 1 := by unfold wrap64; omega
        have hgt : gt x = { x with left := x.left - 1 } := if_neg (by rw [Hxl.out]; exact hone)
        have hu1 := set_upto wr p 3 (.int .i64 (xl - 1))
        have hE1 : EntAt (wr.setCell ⟨p, 3, none⟩ (.int .i64 (xl - 1))) p (gt x) := by
          rw [hgt, ← Hxl.out]; exact cells_set HE.out _
        have hT3 := HX.out.1.one HX.out.2.1 gt_keeps HFn.out (by rw [Hp.out]; exact hu1) (by rw [Hp.out]; exact hE1)
        rw [Hst.out] at hT3
        have HT5 := Lib.hid hT3
        have HU5 := Lib.hid (HU.out.then (upto_own HX.out.2.2.2 (by rw [Hp.out]; exact hu1)))
        have HW5 := Lib.hid (own_kept HO.out hu1 (fun k hk h => by have h1 := (own_lt HO.out h).2; have hk : k = p := hk; omega))
        have Hno : Hid (¬ x.left = 1) := Lib.hid (by rw [Hxl.out]; exact hone)
        clear hone hgt hu1 hE1 hT3
        go_wp2
        go_roundw
        case rel =>
          refine ⟨j + 1, by omega, by go_num, HT5.out, HU5.out, ?_⟩
          rw [Hfl.out, if_neg Hno.out, List.append_nil, Hm.out]
          exact HW5.out
        case measure => (simp [intOf] <;> omega)
    · obtain rfl : n = j := by omega
      have hall := stage_all H.out.f.rise Ent.waits gt (T := T) rfl
      rw [Hks.out, Hnl.out] at hall
      have HTE : Hid (TabAt wr b B P (tickT T)) := Lib.hid (by unfold tickT; rw [← hall]; exact hT)
      have hti : tickIds T = os := by
        unfold tickIds
        rw [Hks.out, ← Hos.out, List.take_of_length_le (by rw [Hnl.out]; exact Nat.le_refl _)]
      obtain ⟨A5, d5, rfl⟩ := owns_form hO
      have HNU : Hid (TickPost b B P T w (.returned (.slice A5 m d5)) wr) := Lib.hid ⟨A5, m, d5, rfl, by rw [hti]; exact Hm.out, by rw [hti]; exact nums_own hO Hm.out, fun a ha => by have := (own_lt hO (k := a.block) (by rw [ha]; rfl)).2; omega, HTE.out, (below_upto Hb.out).then hU⟩
      clear hT hU hO hall HT hti
      go_wp2
      go_ret
      exact HNU.out
end Go.Proofs.Ytfknkkcpieaikaa
