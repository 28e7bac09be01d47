/- The numbers of which rules speak, of the reference; are two lists the same. Condition: the rules can be read. -/
import Derived.Test.YtomcobmpojpdcaaNums
namespace Go.Proofs.Ytomcobmpojpdcaa
open Go.RowKit Go.Maps Go.Sort
attribute [local go_sem ↓] Go.wp_at_zero Go.wp_at_succ
set_option linter.unusedVariables false
set_option linter.unusedSimpArgs false

theorem owns_below' {w w1 : World} {base : Nat} {e : TypeId} {size : Nat} {v : Value} {n : Nat} {xs : List Value} (h : w.ownsRow base e size v n xs) (hb : Below w.heap.size w w1) : w1.ownsRow base e size v n xs := by
  obtain ⟨h1, h2⟩ := h
  refine ⟨h1, ?_⟩
  rcases h2 with h2 | ⟨g, cap, cur, a, b, c, d⟩
  · exact .inl h2
  · exact .inr ⟨g, cap, cur, a, b, (hb.block g (Array.getElem?_eq_some_iff.1 c).1).trans c, d⟩
theorem nrCells_is : nrCells = (allN.map (Value.int .u32)).toArray := by rfl
theorem allN_cell : ∀ (q : Nat) (a : Int), allN[q]? = some a → nrCells[q]? = some (.int .u32 a) := by
  intro q a h
  rw [nrCells_is]
  simp [h]
def numsTo (L : List Rul) (q : Nat) : List Int := (allN.take q).filter (spkL L)
theorem numsTo_succ {L : List Rul} {q : Nat} {a : Int} (h : allN[q]? = some a) : numsTo L (q + 1) = numsTo L q ++ (if spkL L a then [a] else []) := by
  unfold numsTo
  rw [List.take_add_one, h]
  by_cases e : spkL L a = true
  · simp [List.filter_append, e]
  · have e' : spkL L a = false := by simpa using e
    simp [List.filter_append, e']
theorem nums_of_owns {w : World} {base : Nat} {v : Value} {m : Nat} {xs : List Int} (h : w.ownsRow base 22 1 v m (xs.map (Value.int .u32))) : NumsAt w v xs := by
  have hl : xs.length = m := by simpa using h.1
  rcases h.2 with ⟨rfl, hm⟩ | ⟨g, cap, cur, rfl, hbase, hb, h1, h2, h3, h4⟩
  · exact ⟨none, 0, by rw [hl, hm], fun h0 => by omega⟩
  · refine ⟨some ⟨g, 0, none⟩, cap, by rw [hl], fun h0 => ⟨g, 0, rfl, fun j x hx => ?_⟩⟩
    have hH := holds_of_blockU (ss := xs) hb (by rw [hl]; simpa using h4)
    have hj := (List.getElem?_eq_some_iff.1 hx).1
    have := (hH j (by simpa using hj)).1
    rw [this]
    simp [hj, (List.getElem?_eq_some_iff.1 hx).2]

set_option maxRecDepth 100000 in
set_option maxHeartbeats 4000000 in
theorem ref_numbers_any (k a : Int) (lv : Value) (L : List Rul) (w : World) (hL : RulsAt w lv L) :
    Calls Try.prog 24 #[.agg #[.int .i64 k, .int .i64 a, lv]] w (fun e w' => ∃ v, e = .returned v ∧ NumsAt w' v (numsV L) ∧ Below w.heap.size w w') := by
  obtain ⟨A0, c0, rfl, hnl, hnc⟩ := hL
  obtain ⟨n, hnn⟩ : ∃ n, L.length = n := ⟨_, rfl⟩
  rw [hnn] at hnl hnc ⊢
  have Hnc := Lib.hid hnc
  have Hnn := Lib.hid hnn
  clear hnc hnn
  have hbox := below_alloc w (.cells #[.int .i64 k, .int .i64 a, .slice A0 n c0] 33)
  have C := nrs_is (w.alloc (.cells #[.int .i64 k, .int .i64 a, .slice A0 n c0] 33))
  obtain ⟨i0, hi, hz0, hz1, hz2⟩ := info_parts info22'
  obtain ⟨w1, hw1⟩ : ∃ w1, (w.alloc (.cells #[.int .i64 k, .int .i64 a, .slice A0 n c0] 33)).alloc (.cells nrCells 22) = w1 := ⟨_, rfl⟩
  have hb1 : Below w.heap.size w w1 := by rw [← hw1]; exact bchain hbox hbox.size (below_alloc _ _)
  have b2 : w1.cell? ⟨w.heap.size, 2, none⟩ = some (.slice A0 n c0) := by rw [← hw1]; exact keep_cell (below_alloc _ _) (new_cell w #[.int .i64 k, .int .i64 a, .slice A0 n c0] 33 2 rfl)
  have hN := fun (q : Nat) (a : Int) (h : allN[q]? = some a) => (show w1.cell? ⟨w.heap.size + 1, q, none⟩ = some (.int .u32 a) by
    rw [← hw1]
    have := new_cell (w.alloc (.cells #[.int .i64 k, .int .i64 a, .slice A0 n c0] 33)) nrCells 22 q (allN_cell q a h)
    simpa using this)
  rw [hw1] at C
  have hsz : (w.alloc (.cells #[.int .i64 k, .int .i64 a, .slice A0 n c0] 33)).heap.size = w.heap.size + 1 := by simp
  rw [hsz] at C
  have HN := Lib.hid hN
  clear hN hbox hw1 hsz
  go_enter Try.func24, Try.ntmps24
  go_wp2_with (go_at_call 29; (with_reducible refine C.mono ?_); rintro e wx ⟨rfl, rfl⟩)
  obtain ⟨w2, hw2⟩ : ∃ w2, w2 = wx := ⟨_, rfl⟩
  subst hw2
  go_loopw [4, 5] (fun v i wr => ∃ q m : Nat, q ≤ 30 ∧ i = .int .i64 q ∧ Below w2.heap.size w2 wr ∧ wr.ownsRow w2.heap.size 22 1 v m ((numsTo L q).map (Value.int .u32))) (fun _ i _ => 30 - (intOf i).toNat)
  case atStart => exact ⟨0, 0, by omega, rfl, Below.refl _ _, ⟨by simp [numsTo], .inl ⟨rfl, rfl⟩⟩⟩
  case round =>
    obtain ⟨q, m, hq, rfl, hb, hrow⟩ := hrel
    obtain ⟨wq, hwq⟩ : ∃ wq, wq = wr := ⟨_, rfl⟩
    subst hwq
    have hwq : Below w.heap.size w wq := bchain hb1 hb1.size hb
    have Hrow := Lib.hid hrow
    clear hrow
    by_cases hlt : q < 30
    case neg =>
      obtain rfl : q = 30 := by omega
      go_wp2
      go_ret
      exact ⟨_, rfl, nums_of_owns Hrow.out, hwq⟩
    obtain ⟨z, hz⟩ : ∃ z, allN[q]? = some z := ⟨_, List.getElem?_eq_getElem (by rw [allN_len]; exact hlt)⟩
    have hlt' : (q : Int) < 30 := by omega
    have n0 : wq.cell? ⟨w.heap.size + 1, q, none⟩ = some (.int .u32 z) := keep_cell hb (HN.out q z hz)
    have Hz := Lib.hid hz
    clear hz
    go_wp2
    go_loopw [6, 7] (fun f i wr => ∃ j : Nat, j ≤ n ∧ i = .int .i64 j ∧ Below wq.heap.size wq wr ∧ f = .bool (spkL (L.take j) z)) (fun _ i _ => n - (intOf i).toNat)
    case atStart => exact ⟨0, by omega, rfl, Below.refl _ _, rfl⟩
    case round =>
      obtain ⟨j, hj, rfl, hb2, rfl⟩ := hrel
      obtain ⟨wj, hwj⟩ : ∃ wj, wj = wr := ⟨_, rfl⟩
      subst hwj
      have hwj : Below w.heap.size w wj := bchain hwq hwq.size hb2
      have b2j : wj.cell? ⟨w.heap.size, 2, none⟩ = some (.slice A0 n c0) := keep_cell (bchain hb hb.size hb2) b2
      have n0j : wj.cell? ⟨w.heap.size + 1, q, none⟩ = some (.int .u32 z) := keep_cell hb2 n0
      obtain ⟨f, hf⟩ : ∃ f, spkL (L.take j) z = f := ⟨_, rfl⟩
      rw [hf]
      have Hf := Lib.hid hf
      clear hf
      by_cases hlj : j < n
      case neg =>
        obtain rfl : j = n := by omega
        have hall : L.take j = L := List.take_of_length_le (by rw [Hnn.out]; exact Nat.le_refl _)
        have hf := Hf.out
        rw [hall] at hf
        have hto := numsTo_succ (L := L) Hz.out
        rw [hf] at hto
        have hrow2 := owns_below' Hrow.out hb2
        have Hrow2 := Lib.hid hrow2
        have Hto := Lib.hid hto
        have hml : m ≤ q := by
          have h := hrow2.1
          have h2 : (numsTo L q).length ≤ (allN.take q).length := List.length_filter_le _ _
          simp at h h2
          omega
        have hs2 := hb.size
        have hs3 := hb2.size
        clear hf hto hall hrow2 Hrow
        cases f with
        | true =>
          go_wp2_with (at_builtin; refine wpList_append_own _ rfl _ _ 55 rfl w2.heap.size 22 i0 (.int .u32 0) 1 4 Try.underlying55 hi hz0 hz1 hz2 rfl (by decide) _ _ _ rfl (Hrow2.out.alloc _) ⟨wj.heap.size, 0, none⟩ 1 1 [.int .u32 z] rfl rfl (cell_one_new _ _ _) (by simp [Value.oneCell']) (by unfold maxLen; omega) (by omega) (by simp; omega) ?_; intro v' w3 hown' hg3 hnil3; go_frame)
          go_roundw
          case rel =>
            refine ⟨q + 1, m + 1, by omega, by go_num, ?_, by rw [Hto.out]; simpa using hown'⟩
            exact ((bchain hb hb.size hb2).alloc (by omega) _).grown hg3 (by simp; omega) (fun j hj => (Hrow2.out.lt j hj).1)
          case measure => (simp [intOf] <;> omega)
        | false =>
          go_wp2
          go_roundw
          case rel => exact ⟨q + 1, m, by omega, by go_num, bchain hb hb.size hb2, by rw [Hto.out]; simpa using Hrow2.out⟩
          case measure => (simp [intOf] <;> omega)
      obtain ⟨gl, o, rfl, hcell⟩ := Hnc.out (by omega)
      obtain ⟨x, hx⟩ : ∃ x, L[j]? = some x := ⟨_, List.getElem?_eq_getElem (by rw [Hnn.out]; omega)⟩
      obtain ⟨nv, cv, e0, e1, e2, e3, hns, hcs⟩ := hcell j x hx
      have hsucc := spkL_succ hx z
      rw [Hf.out] at hsucc
      have hlj' : (j : Int) < n := by omega
      obtain ⟨rk, ra, ns, cs⟩ := x
      have e2' : wj.cell? ⟨gl, o + j * 4 + 2, none⟩ = some nv := keep_cell hwj e2
      have hns' : StrsAt w nv ns := hns
      obtain ⟨A1, c1, rfl, hl1, hc1⟩ := hns'
      obtain ⟨p, hp⟩ : ∃ p, ns.length = p := ⟨_, rfl⟩
      rw [hp] at e2' hl1 hc1
      have Hc1 := Lib.hid hc1
      have Hp := Lib.hid hp
      have hsucc : spkL (L.take (j + 1)) z = (f || spokenB ns z) := hsucc
      have Hsucc := Lib.hid hsucc
      clear hcell hx e0 e1 e2 e3 hns hcs hsucc hp hc1
      go_wp2
      go_loopw [6, 8] (fun g i wr => ∃ i' : Nat, i' ≤ p ∧ i = .int .i64 i' ∧ Below wj.heap.size wj wr ∧ g = .bool (f || spokenB (ns.take i') z)) (fun _ i _ => p - (intOf i).toNat)
      case atStart => exact ⟨0, by omega, rfl, Below.refl _ _, by simp [spokenB]⟩
      case round =>
        obtain ⟨i, hi', rfl, hb3, rfl⟩ := hrel
        have hwr : Below w.heap.size w wr := bchain hwj hwj.size hb3
        have b2r : wr.cell? ⟨w.heap.size, 2, none⟩ = some (.slice (some ⟨gl, o, none⟩) n c0) := keep_cell hb3 b2j
        have n0r : wr.cell? ⟨w.heap.size + 1, q, none⟩ = some (.int .u32 z) := keep_cell hb3 n0j
        have e2r : wr.cell? ⟨gl, o + j * 4 + 2, none⟩ = some (.slice A1 p c1) := keep_cell hb3 e2'
        obtain ⟨g, hg⟩ : ∃ g, (f || spokenB (ns.take i) z) = g := ⟨_, rfl⟩
        rw [hg]
        have Hg := Lib.hid hg
        clear hg
        by_cases hli : i < p
        case neg =>
          obtain rfl : i = p := by omega
          go_wp2
          go_roundw
          case rel => exact ⟨j + 1, by omega, by go_num, bchain hb2 hb2.size hb3, by rw [Hsucc.out, ← Hg.out, List.take_of_length_le (l := ns) (by rw [Hp.out]; exact Nat.le_refl _)]⟩
          case measure => (simp [intOf] <;> omega)
        obtain ⟨g2, o2, rfl, hcell⟩ := Hc1.out (by omega)
        obtain ⟨x, hx⟩ : ∃ x, ns[i]? = some x := ⟨_, List.getElem?_eq_getElem (by rw [Hp.out]; omega)⟩
        obtain ⟨e0_, hxs⟩ := hcell i x hx
        have x0 : wr.cell? ⟨g2, o2 + i, none⟩ = some (.string x) := by rw [Nat.mul_one] at e0_; exact keep_cell hwr e0_
        have hli' : (i : Int) < p := by omega
        have N := ref_nr_any x
        rw [nrT_eq] at N
        have hss := spoken_succ hx z
        have hkn : knownB x = (nrV x).2 := rfl
        rw [← hkn] at hss
        obtain ⟨y, hy⟩ : ∃ y, knownB x = y := ⟨_, rfl⟩
        obtain ⟨v, hv⟩ : ∃ v, (nrV x).1 = v := ⟨_, rfl⟩
        rw [hy, hv] at N hss
        have Hss := Lib.hid hss
        clear hcell e0_ hx hy hv hss hkn
        cases y with
        | false =>
          go_wp2_with (go_at_call 12; (with_reducible refine (N _).mono ?_); rintro e w5 ⟨rfl, hb5⟩)
          go_roundw
          case rel => exact ⟨i + 1, by omega, by go_num, bchain hb3 hb3.size hb5, by rw [← Hg.out, Hss.out]; simp⟩
          case measure => (simp [intOf] <;> omega)
        | true =>
          by_cases hvz : v = z
          · subst hvz
            go_wp2_with (go_at_call 12; (with_reducible refine (N _).mono ?_); rintro e w5 ⟨rfl, hb5⟩; have n05 : w5.cell? ⟨w.heap.size + 1, q, none⟩ = some (.int .u32 v) := keep_cell hb5 n0r)
            go_roundw
            case rel => exact ⟨i + 1, by omega, by go_num, bchain hb3 hb3.size hb5, by rw [Hss.out]; simp⟩
            case measure => (simp [intOf] <;> omega)
          · have hvz' : (v == z) = false := by simpa using hvz
            have Hvz := Lib.hid hvz
            clear hvz
            go_wp2_with (go_at_call 12; (with_reducible refine (N _).mono ?_); rintro e w5 ⟨rfl, hb5⟩; have n05 : w5.cell? ⟨w.heap.size + 1, q, none⟩ = some (.int .u32 z) := keep_cell hb5 n0r)
            go_roundw
            case rel => exact ⟨i + 1, by omega, by go_num, bchain hb3 hb3.size hb5, by rw [Hss.out, ← Hg.out]; simp [Hvz.out]⟩
            case measure => (simp [intOf] <;> omega)

/-! ### Are two lists the same -/
theorem below_drewN {B : Nat} {w wr : World} (h : Below B w wr) (n : Nat) : Below B w (wr.drewN n) := ⟨h.os, h.tape, h.output, h.size, h.block⟩
set_option maxRecDepth 100000 in
set_option maxHeartbeats 2000000 in
theorem same_words_any (u v : Value) (xs : List Int) (w : World) (hu : NumsAt w u xs) (hv : NumsAt w v xs) (hl : xs.length ≤ 1000) : Calls Try.prog 23 #[u, v] w (Ret (.bool true) w) := by
  obtain ⟨A, c, rfl, hA⟩ := hu
  obtain ⟨B, d, rfl, hB⟩ := hv
  obtain ⟨n, hn⟩ : ∃ n, xs.length = n := ⟨_, rfl⟩
  rw [hn] at hA hB hl ⊢
  have HA := Lib.hid hA
  have HB := Lib.hid hB
  have Hn := Lib.hid hn
  clear hA hB hn
  go_enter Try.func23, Try.ntmps23
  go_wp2
  go_loopw [5] (fun i wr => ∃ j : Nat, j ≤ n ∧ i = .int .i64 j ∧ Below w.heap.size w wr) (fun i _ => n - (intOf i).toNat)
  case atStart => exact ⟨0, by omega, rfl, Below.refl _ _⟩
  case round =>
    obtain ⟨j, hj, rfl, hb⟩ := hrel
    by_cases hlt : j < n
    case neg =>
      obtain rfl : j = n := by omega
      go_wp2
      go_ret
      exact ⟨rfl, hb⟩
    obtain ⟨g1, o1, rfl, h1⟩ := HA.out (by omega)
    obtain ⟨g2, o2, rfl, h2⟩ := HB.out (by omega)
    obtain ⟨x, hx⟩ : ∃ x, xs[j]? = some x := ⟨_, List.getElem?_eq_getElem (by rw [Hn.out]; omega)⟩
    have e1 : wr.cell? ⟨g1, o1 + j, none⟩ = some (.int .u32 x) := keep_cell hb (h1 j x hx)
    have e2 : wr.cell? ⟨g2, o2 + j, none⟩ = some (.int .u32 x) := keep_cell hb (h2 j x hx)
    have hlt' : (j : Int) < n := by omega
    clear h1 h2 hx
    go_wp2
    go_quiet (fail)
    go_wp2
    go_roundw
    case rel => exact ⟨j + 1, by omega, by go_num, below_drewN hb _⟩
    case measure => (simp [intOf] <;> omega)
end Go.Proofs.Ytomcobmpojpdcaa
