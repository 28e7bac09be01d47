/- ArqSees and ArqOrder: they answer true. Conditions: the row can be read, its numbers are numbers. -/
import Derived.Test.YtocfklnoklmocaaAwake
import Derived.BigQuiet
namespace Go.Proofs.Ytocfklnoklmocaa
open Go.RowKit
set_option linter.unusedVariables false
set_option linter.unusedSimpArgs false

def seenL (L : List Int) : List Int := L.foldl addL []
theorem seenL_snoc (L : List Int) (x : Int) : seenL (L ++ [x]) = addL (seenL L) x := by unfold seenL; rw [List.foldl_append]; rfl
theorem mem_foldl {L acc : List Int} {y : Int} : y ∈ L.foldl addL acc ↔ y ∈ acc ∨ y ∈ L := by
  induction L generalizing acc with
  | nil => simp
  | cons a L ih =>
    rw [List.foldl_cons, ih, mem_addL]
    simp only [List.mem_cons]
    constructor
    · rintro ((h | h) | h)
      · exact .inr (.inl h)
      · exact .inl h
      · exact .inr (.inr h)
    · rintro (h | h | h)
      · exact .inl (.inr h)
      · exact .inl (.inl h)
      · exact .inr h
theorem mem_seenL {L : List Int} {y : Int} : y ∈ seenL L ↔ y ∈ L := by unfold seenL; rw [mem_foldl]; simp
theorem len_addL (l : List Int) (x : Int) : (addL l x).length = if x ∈ l then l.length else l.length + 1 := by
  unfold addL
  split <;> simp
theorem len_seenL (L : List Int) : (seenL L).length ≤ L.length := by
  suffices h : ∀ (L acc : List Int), (L.foldl addL acc).length ≤ acc.length + L.length by simpa [seenL] using h L []
  intro L
  induction L with
  | nil => intro acc; simp
  | cons a L ih =>
    intro acc
    have h1 := ih (addL acc a)
    have h2 := len_addL acc a
    simp only [List.foldl_cons, List.length_cons]
    split at h2 <;> omega

theorem below_drewN {B : Nat} {w w' : World} (h : Below B w w') (d : Nat) : Below B w (w'.drewN d) := ⟨h.os, h.tape, h.output, h.size, h.block⟩
theorem take_snoc {L : List Int} {k : Nat} {y : Int} (h : L[k]? = some y) : L.take (k + 1) = L.take k ++ [y] := by rw [List.take_add_one, h]; rfl
def SeesRel (n : Nat) (L : List Int) (b : Nat) (w1 : World) (nv iv : Value) (wr : World) : Prop :=
  ∃ (j : Nat) (M : Option Nat), j ≤ n ∧ j ≤ 200 ∧ iv = .int .i64 j ∧ nv = .int .i64 (seenL (L.take j)).length ∧ SeenAt wr b M (seenL (L.take j)) ∧ (∀ B, M = some B → w1.heap.size ≤ B) ∧ Below w1.heap.size w1 wr

set_option maxRecDepth 100000 in
set_option maxHeartbeats 4000000 in
theorem law_sees (lv : Value) (L : List Int) (w : World) (hN : NumsAt w lv L) (hU : ∀ x ∈ L, U64 x) : Calls Try.prog 3 #[lv] w (Ret (.bool true) w) := by
  have A0 := awake_any w
  obtain ⟨A, c, rfl, hcl⟩ := hN
  have Hcl := Lib.hid hcl
  have HU := Lib.hid hU
  obtain ⟨n, hn⟩ : ∃ n, L.length = n := ⟨_, rfl⟩
  rw [hn] at Hcl ⊢
  have Hn := Lib.hid hn
  clear hcl hU hn
  go_enter Try.func3, Try.ntmps3
  go_wp2_with (go_at_call 8; refine A0.mono ?_; rintro e w1 ⟨rfl, hb1⟩)
  have S0 := SeenAt.new w1
  have hba := below_alloc w1 (.cells #[.map none] 26)
  have HS0 := Lib.hid S0
  have Hb1 := Lib.hid hb1
  obtain ⟨b, hb⟩ : ∃ b, w1.heap.size = b := ⟨_, rfl⟩
  have HS0' : Hid (SeenAt (w1.alloc (.cells #[.map none] 26)) b none []) := Lib.hid (by rw [← hb]; exact S0)
  rw [hb]
  have Hba := Lib.hid hba
  have Hb := Lib.hid hb
  clear S0 hba HS0 hb1 hb
  go_loopw [5, 6] (fun nv iv wr => SeesRel n L b w1 nv iv wr) (fun _ iv _ => n - (intOf iv).toNat)
  case atStart => exact ⟨0, none, Nat.zero_le _, Nat.zero_le _, rfl, rfl, HS0'.out, (fun B e => by cases e), Hba.out⟩
  case round =>
    obtain ⟨W, rfl⟩ : ∃ W : World, W = wr := ⟨wr, rfl⟩
    obtain ⟨j, M, hj, hj2, rfl, rfl, hS, hM, hb⟩ := hrel
    have HS := Lib.hid hS
    have HM := Lib.hid hM
    have HB := Lib.hid hb
    have hsl := len_seenL (L.take j)
    have htk : (L.take j).length ≤ j := List.length_take_le _ _
    obtain ⟨sl, hsle⟩ : ∃ s, seenL (L.take j) = s := ⟨_, rfl⟩
    rw [hsle] at HS hsl ⊢
    obtain ⟨m, hm⟩ : ∃ m, sl.length = m := ⟨_, rfl⟩
    rw [hm] at hsl ⊢
    have Hm := Lib.hid hm
    have Hsle := Lib.hid hsle
    have hm200 : m ≤ 200 := by omega
    clear hS hM hb hsle htk hm hsl
    by_cases hlt : j < n ∧ j < 200
    case neg =>
      by_cases hjn : j < n
      · have hge : (200 : Int) ≤ j := by omega
        have hjn' : (j : Int) < n := by omega
        clear hlt
        go_wp2
        go_ret
        exact ⟨rfl, bchain Hb1.out Hb1.out.size HB.out⟩
      · have hge : (n : Int) ≤ j := by omega
        clear hlt
        go_wp2
        go_ret
        exact ⟨rfl, bchain Hb1.out Hb1.out.size HB.out⟩
    obtain ⟨hlt1, hlt2⟩ := hlt
    have hlt1' : (j : Int) < n := by omega
    have hlt2' : (j : Int) < 200 := by omega
    obtain ⟨x, hx⟩ : ∃ x, L[j]? = some x := ⟨_, List.getElem?_eq_getElem (by rw [Hn.out]; exact hlt1)⟩
    obtain ⟨g, o, rfl, hc⟩ := Hcl.out (by omega)
    have hcx := keep_cell Hb1.out (hc j x hx)
    have hcall : ∀ k y, L[k]? = some y → w1.cell? ⟨g, o + k, none⟩ = some (.int .u64 y) := fun k y hy => keep_cell Hb1.out (hc k y hy)
    have Hcall := Lib.hid hcall
    have hxj := keep_cell HB.out hcx
    have hxU := HU.out x (List.mem_of_getElem? hx)
    have Hx := Lib.hid hx
    have HxU := Lib.hid hxU
    clear hc hcall hx hxU hcx
    go_wp2
    go_loopw [7, 8] (fun tv kv wx => ∃ k : Nat, k ≤ j ∧ kv = .int .i64 k ∧ tv = .bool (!decide (x ∈ L.take k)) ∧ Below W.heap.size W wx) (fun _ kv _ => j - (intOf kv).toNat)
    case atStart => exact ⟨0, Nat.zero_le _, rfl, by simp, Below.refl _ _⟩
    case round =>
      obtain ⟨k, hk, rfl, rfl, hbx⟩ := hrel
      have HBX := Lib.hid hbx
      have hxj' := keep_cell hbx hxj
      clear hbx
      by_cases hkj : k < j
      · have hkj' : (k : Int) < j := by omega
        have hkn' : (k : Int) < n := by omega
        obtain ⟨y, hy⟩ : ∃ y, L[k]? = some y := ⟨_, List.getElem?_eq_getElem (by rw [Hn.out]; omega)⟩
        have hyk := keep_cell HBX.out (keep_cell HB.out (Hcall.out k y hy))
        have hts := take_snoc hy
        have Hts := Lib.hid hts
        by_cases hT : x ∈ L.take k
        · have hTE : (!decide (x ∈ L.take k)) = false := by simp [hT]
          have HT' : Hid ((!decide (x ∈ L.take (k + 1))) = false) := Lib.hid (by rw [hts]; simp [hT])
          rw [hTE]
          clear hT hTE hts hy
          go_wp2
          go_quiet (fail)
          go_wp2
          go_roundw
          case rel => exact ⟨k + 1, by omega, by go_num, by rw [HT'.out], below_drewN HBX.out _⟩
          case measure => (simp [intOf] <;> omega)
        · have hTE : (!decide (x ∈ L.take k)) = true := by simp [hT]
          rw [hTE]
          by_cases hyx : y = x
          · subst hyx
            have HT' : Hid ((!decide (y ∈ L.take (k + 1))) = false) := Lib.hid (by rw [hts]; simp)
            have hE : (y != y) = false := by simp
            clear hT hTE hts hy
            go_wp2
            go_quiet (fail)
            go_wp2
            go_roundw
            case rel => exact ⟨k + 1, by omega, by go_num, by rw [HT'.out], below_drewN HBX.out _⟩
            case measure => (simp [intOf] <;> omega)
          · have HT' : Hid ((!decide (x ∈ L.take (k + 1))) = true) := Lib.hid (by rw [hts]; simp [hT]; exact fun e => hyx e.symm)
            have hE : (y != x) = true := by simpa using hyx
            have hE2 : (y == x) = false := by simpa using hyx
            clear hT hTE hts hy hyx
            go_wp2
            go_quiet (fail)
            go_wp2
            go_roundw
            case rel => exact ⟨k + 1, by omega, by go_num, by rw [HT'.out], below_drewN HBX.out _⟩
            case measure => (simp [intOf] <;> omega)
      · obtain rfl : k = j := by omega
        have hS2 := HS.out.below HBX.out
        have TA := take_any b M sl x wr HxU.out (by rw [Hm.out]; omega) hS2
        have hmem : decide (x ∈ sl) = decide (x ∈ L.take k) := by rw [← Hsle.out]; simp [mem_seenL]
        unfold TakePost at TA
        rw [hmem] at TA
        have hnx : addL sl x = seenL (L.take (k + 1)) := by rw [take_snoc Hx.out, seenL_snoc, Hsle.out]
        have hln := len_addL sl x
        rw [Hm.out] at hln
        have Hnx := Lib.hid hnx
        have HBW := Lib.hid (bchain HB.out HB.out.size HBX.out)
        have HMa := Lib.hid (fun w' B (h : SeenAt w' b (some B) (addL sl x)) => many_any b (some B) _ w' h)
        by_cases hT : x ∈ L.take k
        · have hTE : (!decide (x ∈ L.take k)) = false := by simp [hT]
          have hxs : x ∈ sl := by rw [← Hsle.out, mem_seenL]; exact hT
          rw [if_pos hxs] at hln
          rw [hTE] at TA ⊢
          rw [hln] at HMa
          have Hln := Lib.hid hln
          clear hT hTE hxs hmem hS2 hnx hln
          go_wp2_with (first
            | (go_at_call 9; (with_reducible refine TA.mono ?_); rintro e w3 ⟨rfl, B3, S3, hM3, u3⟩)
            | (go_at_call 10; (with_reducible refine (HMa.out _ _ S3).mono ?_); rintro e w4 ⟨rfl, rfl⟩))
          go_roundw
          case rel =>
            refine ⟨k + 1, some B3, by omega, by omega, by go_num, by rw [← Hnx.out, Hln.out], by rw [← Hnx.out]; exact S3, fun B e => ?_, ?_⟩
            · cases e
              rcases hM3 with h | h
              · exact HM.out _ h
              · exact Nat.le_trans HBW.out.size h
            · exact HBW.out.trans (u3.toBelow HBW.out.size (fun q hq => by
                rcases hq with h | h
                · rw [h, ← Hb.out]; exact Nat.le_refl _
                · exact HM.out _ h))
          case measure => (simp [intOf] <;> omega)
        · have hTE : (!decide (x ∈ L.take k)) = true := by simp [hT]
          have hxs : x ∉ sl := by rw [← Hsle.out, mem_seenL]; exact hT
          rw [if_neg hxs] at hln
          rw [hTE] at TA ⊢
          rw [hln] at HMa
          have HMa' : Hid (∀ w' B, SeenAt w' b (some B) (addL sl x) → Calls Try.prog 10 #[.pointer (some ⟨b, 0, none⟩)] w' (fun en w'' => en = .returned (.int .i64 ((m : Int) + 1)) ∧ w' = w'')) := Lib.hid (fun w' B h => by have := HMa.out w' B h; simpa using this)
          have Hln := Lib.hid hln
          clear hT hTE hxs hmem hS2 hnx hln HMa
          go_wp2_with (first
            | (go_at_call 9; (with_reducible refine TA.mono ?_); rintro e w3 ⟨rfl, B3, S3, hM3, u3⟩)
            | (go_at_call 10; (with_reducible refine (HMa'.out _ _ S3).mono ?_); rintro e w4 ⟨rfl, rfl⟩))
          go_roundw
          case rel =>
            refine ⟨k + 1, some B3, by omega, by omega, by go_num, by rw [← Hnx.out, Hln.out]; go_num, by rw [← Hnx.out]; exact S3, fun B e => ?_, ?_⟩
            · cases e
              rcases hM3 with h | h
              · exact HM.out _ h
              · exact Nat.le_trans HBW.out.size h
            · exact HBW.out.trans (u3.toBelow HBW.out.size (fun q hq => by
                rcases hq with h | h
                · rw [h, ← Hb.out]; exact Nat.le_refl _
                · exact HM.out _ h))
          case measure => (simp [intOf] <;> omega)
end Go.Proofs.Ytocfklnoklmocaa
