/- Set of the document's timers. Conditions: they can be read; their numbers are told once; they are no more than 900000. -/
import Derived.Test.YtocfklnoklmocaaRStop
import Derived.Test.YtocfklnoklmocaaRPlain
import Derived.Deep.RegionLaw
import Derived.BigRegion
import Derived.Deep.DeepCutAuto
import Derived.Outline
namespace Go.Proofs.Ytocfklnoklmocaa
open Go.RowKit
set_option linter.unusedVariables false
set_option linter.unusedSimpArgs false

/-- What Stop leaves. -/
def Gone (x : Int) (ids lefts ids' lefts' : List Int) : Prop := (ids' = ids ∧ lefts' = lefts ∧ x ∉ ids) ∨ ∃ i, ids[i]? = some x ∧ ids' = rm ids i ∧ lefts' = rm lefts i
theorem Gone.len {x : Int} {ids lefts ids' lefts' : List Int} (h : Gone x ids lefts ids' lefts') : ids'.length ≤ ids.length := by
  rcases h with ⟨rfl, _, _⟩ | ⟨i, hi, rfl, _⟩
  · exact Nat.le_refl _
  · have := rm_len ids (List.getElem?_eq_some_iff.1 hi).1; omega
theorem Gone.rel {x : Int} {ids lefts ids' lefts' : List Int} {f : Int → Option Int} (h : Gone x ids lefts ids' lefts') (hR : Rel f ids lefts) : Rel (del f x) ids' lefts' ∧ x ∉ ids' := by
  rcases h with ⟨rfl, rfl, hx⟩ | ⟨i, hi, rfl, rfl⟩
  · exact ⟨hR.rm_none hx, hx⟩
  · exact ⟨hR.rm hi, fun hm => ((rm_mem hR.nd hi).1 hm).2 rfl⟩
theorem rstop_both (b : Nat) (e x : Int) (ids lefts : List Int) (w : World) (hN : ids.length ≤ 1000000) (h : RefAt w b e ids lefts) :
    Calls Try.prog 16 #[.pointer (some ⟨b, 0, none⟩), .int .u64 x] w (fun en w' => en = .returned (.bool (decide (x ∈ ids))) ∧ ∃ ids' lefts', RefAt w' b e ids' lefts' ∧ Gone x ids lefts ids' lefts' ∧ Below b w w') := by
  by_cases hx : x ∈ ids
  · obtain ⟨i, hi⟩ : ∃ i, ids.findIdx? (fun y => y == x) = some i := by
      cases hf : ids.findIdx? (fun y => y == x) with
      | some i => exact ⟨i, rfl⟩
      | none =>
        have := List.findIdx?_eq_none_iff.1 hf x hx
        simp at this
    obtain ⟨hl, h1, h2⟩ := List.findIdx?_eq_some_iff_getElem.1 hi
    have hix : ids[i]? = some x := by rw [List.getElem?_eq_getElem hl]; congr 1; simpa using h1
    have hb : ∀ (j : Nat) y, j < i → ids[j]? = some y → y ≠ x := by
      intro j y hj hy
      obtain ⟨a, c⟩ := List.getElem?_eq_some_iff.1 hy
      have := h2 j hj
      rw [c] at this
      simpa using this
    refine (rstop_some b e x ids lefts i w hN hix hb h).mono ?_
    rintro en w' ⟨rfl, hR, hB⟩
    exact ⟨by simp [hx], _, _, hR, .inr ⟨i, hix, rfl, rfl⟩, hB⟩
  · refine (rstop_none b e x ids lefts w hx hN h).mono ?_
    rintro en w' ⟨rfl, rfl⟩
    exact ⟨by simp [hx], ids, lefts, h, .inl ⟨rfl, rfl, hx⟩, Below.refl _ _⟩
theorem src_one {w : World} {g : Nat} {v : Value} (h : w.cell? ⟨g, 0, none⟩ = some v) (h1 : v.oneCell' = true) : SrcAt w 1 (some ⟨g, 0, none⟩) 1 [v] := by
  refine ⟨rfl, fun _ => ⟨g, 0, rfl, fun j u hu => ?_⟩, fun u hu => by simp at hu; subst hu; exact h1⟩
  cases j with
  | zero => cases hu; exact h
  | succ j => simp at hu

/-- Behind the first store of Set. -/
def MidSet (w wx : World) (b : Nat) (e : Int) (vL : Value) (n : Nat) (xs : List Value) (m : Nat) (ys : List Value) : Prop :=
  ∃ vI, Trio wx b (.int .i64 e) vI vL ∧ wx.ownsRow (b + 1) 27 1 vI n xs ∧ wx.ownsRow (b + 1) 3 1 vL m ys ∧ Apart vI vL ∧ Below b w wx
/-- What an append to the first row leaves. -/
theorem mid_set {w w2 : World} {b n c2 m : Nat} {e : Int} {vI vL : Value} {A2 : Option Addr} {xs zs ys : List Value} {o : Obj} (hT : Trio w b (.int .i64 e) vI vL) (hI : w.ownsRow (b + 1) 27 1 vI m zs) {k : Nat} (hL : w.ownsRow (b + 1) 3 1 vL k ys) (hA : Apart vI vL)
    (hg : (w.alloc o).grownBy w2 vI.ownBlock) (hat : (Value.slice A2 n c2).ownBlock = vI.ownBlock ∨ (Value.slice A2 n c2).ownBlock = some (w.alloc o).heap.size) (ho : w2.ownsRow (b + 1) 27 1 (.slice A2 n c2) n xs) :
    MidSet w (w2.setCell ⟨b, 1, none⟩ (.slice A2 n c2)) b e vL n xs k ys := by
  have hbl := hT.lt
  have hu : Upto (fun k => vI.ownBlock = some k) w w2 := ((Upto.refl (fun k => vI.ownBlock = some k) w).alloc o).grown hg (fun k hk => .inl hk)
  have hnb : vI.ownBlock ≠ some b := fun h => by have := (own_lt hI h).2; omega
  refine ⟨_, (hT.upto hu hnb).set1 _, ownsRow_setCell_below ho (Nat.lt_succ_self b) _, ownsRow_setCell_below (own_kept hL hu (fun k hk h => hA k hk h)) (Nat.lt_succ_self b) _, fun k h1 h2 => ?_, ?_⟩
  · have hk := (own_lt hL h2).1
    rcases hat with h | h
    · exact hA k (by rw [← h]; exact h1) h2
    · rw [h] at h1
      cases h1
      have := ((Upto.refl (fun _ => False) w).alloc o).size
      omega
  · exact (Upto.setCell (S := fun k => k = b ∨ vI.ownBlock = some k) (hu.mono (fun k hk => .inl (.inr hk))) (p := ⟨b, 1, none⟩) (.inl (.inl rfl)) _).toBelow (Nat.le_of_lt hbl) (fun k hk => by
      rcases hk with rfl | hk
      · exact Nat.le_refl _
      · have := (own_lt hI hk).2; omega)
theorem set_close {w w2 : World} {W : World} {b n c2 m k : Nat} {e : Int} {vI vL : Value} {A2 : Option Addr} {ii ll : List Int} {ys zs xs : List Value} (hT : Trio w b (.int .i64 e) vI vL) (hI : w.ownsRow (b + 1) 27 1 vI m zs) (hL : w.ownsRow (b + 1) 3 1 vL k ys) (hA : Apart vI vL)
    (hW : Below w.heap.size w W) (hg : W.grownBy w2 vL.ownBlock) (hat : (Value.slice A2 n c2).ownBlock = vL.ownBlock ∨ (Value.slice A2 n c2).ownBlock = some W.heap.size) (ho : w2.ownsRow (b + 1) 3 1 (.slice A2 n c2) n xs) (hz : zs = U ii) (hx : xs = I ll) (hm : ii.length = m) (hn : ll.length = n) (hmn : m = n) :
    RefAt (w2.setCell ⟨b, 2, none⟩ (.slice A2 n c2)) b e ii ll ∧ Below b w (w2.setCell ⟨b, 2, none⟩ (.slice A2 n c2)) := by
  subst hz hx
  have hbl := hT.lt
  have hu : Upto (fun k => vL.ownBlock = some k) w w2 := (below_upto hW).grown hg (fun k hk => .inl hk)
  have hnb : vL.ownBlock ≠ some b := fun h => by have := (own_lt hL h).2; omega
  refine ⟨⟨_, _, (hT.upto hu hnb).set2 _, by omega, by rw [hm]; exact ownsRow_setCell_below (own_kept hI hu (fun k hk h => hA k h hk)) (Nat.lt_succ_self b) _, by rw [hn]; exact ownsRow_setCell_below ho (Nat.lt_succ_self b) _, fun k h1 h2 => ?_⟩, ?_⟩
  · have hk := (own_lt hI h1).1
    rcases hat with h | h
    · exact hA k h1 (by rw [← h]; exact h2)
    · rw [h] at h2
      cases h2
      have := hW.size
      omega
  · exact (Upto.setCell (S := fun k => k = b ∨ vL.ownBlock = some k) (hu.mono (fun k hk => .inl (.inr hk))) (p := ⟨b, 2, none⟩) (.inl (.inl rfl)) _).toBelow (Nat.le_of_lt hbl) (fun k hk => by
      rcases hk with rfl | hk
      · exact Nat.le_refl _
      · have := (own_lt hL hk).2; omega)

def SetPost (b : Nat) (e x : Int) (ids lefts : List Int) (w : World) (en : Ending) (w' : World) : Prop :=
  en = .returned (.tuple #[]) ∧ ∃ ids' lefts', RefAt w' b e (ids' ++ [x]) (lefts' ++ [e]) ∧ Gone x ids lefts ids' lefts' ∧ Below b w w'
set_option maxRecDepth 100000 in
set_option maxHeartbeats 8000000 in
theorem rset_any (b : Nat) (e x : Int) (ids lefts : List Int) (w : World) (hN : ids.length ≤ 900000) (h : RefAt w b e ids lefts) : Calls Try.prog 14 #[.pointer (some ⟨b, 0, none⟩), .int .u64 x] w (SetPost b e x ids lefts w) := by
  have S := rstop_both b e x ids lefts w (by omega) h
  have hbw := h.lt
  obtain ⟨i0, hi0, hz0, hz1, hz2⟩ := info_parts info27
  obtain ⟨i3, hi3, hy0, hy1, hy2⟩ := info_parts info3
  have HNN := Lib.hid hN
  clear h hN
  go_enter Try.func14, Try.ntmps14
  go_upto_region 1 with (go_at_call 16; (with_reducible refine S.mono ?_); rintro e1 w1 ⟨rfl, ids', lefts', hR, hG, hB⟩)
  obtain ⟨vI, vL, hT, hl, hI, hL, hA⟩ := hR
  have hlen := hG.len
  have hnn := HNN.out
  obtain ⟨n, hn⟩ : ∃ n, ids'.length = n := ⟨_, rfl⟩
  rw [← hl] at hL
  rw [hn] at hI hL hlen
  obtain ⟨A1, d1, rfl⟩ := owns_form hI
  obtain ⟨A2, d2, rfl⟩ := owns_form hL
  have c0 := hT.c0
  have c1 := hT.c1
  have hbl := hT.lt
  have z1 := hT.fz 1
  have HT := Lib.hid hT
  have HI := Lib.hid hI
  have HL := Lib.hid hL
  have HA := Lib.hid hA
  have HG := Lib.hid hG
  have HB := Lib.hid hB
  have Hn := Lib.hid hn
  have Hl := Lib.hid hl
  clear hT hI hL hA hG hB hn hl S HNN
  go_cut [] from 4 (fun wx => MidSet w1 wx b e (.slice A2 n d2) (n + 1) (U ids' ++ [.int .u64 x]) n (I lefts'))
  case first =>
    have hc := Lib.hid (new_cell w1 #[.int .u64 x] 27 0 rfl)
    go_wp2_with (at_builtin; refine wpList_append_src _ rfl (Operand.tmp 11) (Operand.tmp 13) _ rfl (b + 1) 27 i0 (.int .u64 0) 1 8 under22 hi0 hz0 hz1 hz2 rfl (by decide) (.slice A1 n d1) n (U ids') rfl (upto_row HI.out ((Upto.refl (fun _ => False) w1).alloc _) (fun _ h => h.elim)) (some ⟨w1.heap.size, 0, none⟩) 1 1 [.int .u64 x] rfl (src_one hc.out rfl) (by unfold maxLen; omega) (by omega) (Nat.le_trans (show b + 1 ≤ w1.heap.size by omega) (below_alloc w1 _).size) ?_; intro v2 w2 hown2 hgrow2 hat2; obtain ⟨A5, c5, rfl⟩ := owns_form hown2; have hT5 : Trio w2 b (.int .i64 e) (.slice A1 n d1) (.slice A2 n d2) := HT.out.upto (S := fun k => (Value.slice A1 n d1).ownBlock = some k) (((Upto.refl _ w1).alloc _).grown hgrow2 (fun k hk => .inl hk)) (fun hh => by have := (own_lt HI.out hh).2; omega); have d5 := hT5.c1; have f5 := hT5.fz 1; have Hown2 := Lib.hid hown2; have Hgrow2 := Lib.hid hgrow2; have Hat2 := Lib.hid hat2; clear hown2 hgrow2 hat2 hT5)
    go_meet
    case rel => exact mid_set HT.out HI.out HL.out HA.out Hgrow2.out Hat2.out Hown2.out
  case rest =>
    obtain ⟨vI, hT, hI, hL, hA, hB⟩ := hcut
    have c0 := hT.c0
    have c2 := hT.c2
    have hbl := hT.lt
    have z2 := hT.fz 2
    have HT := Lib.hid hT
    have HI := Lib.hid hI
    have HL := Lib.hid hL
    have HA := Lib.hid hA
    have HB2 := Lib.hid hB
    have HBA := Lib.hid (below_alloc_drew wc (.cells #[.int .i64 e] 3))
    have HP : Hid ((wc.alloc (.cells #[.int .i64 e] 3)).drew.cell? ⟨wc.heap.size, 0, none⟩ = some (.int .i64 e)) := Lib.hid (new_cell wc #[.int .i64 e] 3 0 rfl)
    clear hT hI hL hA hB
    go_wp2
    go_region_law (first
      | (refine step_append_src _ (by rfl) (Operand.tmp 21) (Operand.tmp 26) _ (by rfl) (b + 1) 3 i3 (.int .i64 0) 1 8 under46 hi3 hy0 hy1 hy2 rfl (by decide) (.slice A2 n d2) n (I lefts') (by rfl) (upto_row HL.out (below_upto (S := fun _ => False) (by first | exact HBA.out | exact HBA.out.drew)) (fun _ h => h.elim)) (some ⟨wc.heap.size, 0, none⟩) 1 1 [.int .i64 e] (by rfl) (src_one HP.out rfl) (by unfold maxLen; omega) (by omega) (Nat.le_trans (show b + 1 ≤ wc.heap.size by omega) HBA.out.size) ?_; intro v2 w2 hown2 hgrow2 hat2; obtain ⟨A5, c5, rfl⟩ := owns_form hown2; have hT5 : Trio w2 b (.int .i64 e) vI (.slice A2 n d2) := HT.out.upto (S := fun k => (Value.slice A2 n d2).ownBlock = some k) ((below_upto (show Below wc.heap.size wc _ from (by first | exact HBA.out | exact HBA.out.drew))).grown hgrow2 (fun k hk => .inl hk)) (fun hh => by have := (own_lt HL.out hh).2; omega); have d5 := hT5.c2; have f5 := hT5.fz 2; have Hown2 := Lib.hid hown2; have Hgrow2 := Lib.hid hgrow2; have Hat2 := Lib.hid hat2; clear hown2 hgrow2 hat2 hT5)
      | fail)
    all_goals
      go_wp2
      go_end0
      have hcl := set_close HT.out HI.out HL.out HA.out (by first | exact HBA.out | exact HBA.out.drew) Hgrow2.out Hat2.out Hown2.out (ii := ids' ++ [x]) (ll := lefts' ++ [e]) (by simp [U]) (by simp [I]) (by simp [Hn.out]) (by simp [← Hl.out, Hn.out]) rfl
      exact ⟨rfl, ids', lefts', hcl.1, HG.out, (HB.out.trans HB2.out).trans hcl.2⟩
end Go.Proofs.Ytocfklnoklmocaa
