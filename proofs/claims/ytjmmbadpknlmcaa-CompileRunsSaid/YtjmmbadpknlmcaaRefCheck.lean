/- Why rules mean nothing, of the reference. Condition: the rules can be read. -/
import Derived.Test.YtjmmbadpknlmcaaCheck
import Derived.Test.YtjmmbadpknlmcaaRefRules
namespace Go.Proofs.Ytjmmbadpknlmcaa
open Go.RowKit
attribute [local go_sem ↓] Go.wp_at_zero Go.wp_at_succ
set_option linter.unusedVariables false
set_option linter.unusedSimpArgs false

theorem seenB_mono {ns : List ByteArray} {q p : Nat} {s : ByteArray} (h : seenB ns q s = true) (hq : q ≤ p) : seenB ns p s = true := by
  unfold seenB at *
  rw [List.any_eq_true] at *
  obtain ⟨t, ht, h2⟩ := h
  exact ⟨t, (List.take_subset_take_left ns hq) ht, h2⟩
theorem dupTo_mono {ns : List ByteArray} {p : Nat} (h : dupTo ns p = true) : ∀ q, p ≤ q → dupTo ns q = true := by
  intro q hq
  induction q with
  | zero => obtain rfl : p = 0 := by omega
            exact h
  | succ q ih =>
    by_cases e : p = q + 1
    · subst e; exact h
    · simp [dupTo, ih (by omega)]
theorem wrongI_unknown {ns : List ByteArray} (h : ns.all knownB = false) : wrongI ns = 8 := by simp [wrongI, h]
theorem wrongI_twice {ns : List ByteArray} (h : ns.all knownB = true) (h2 : dupTo ns ns.length = true) : wrongI ns = 9 := by unfold wrongI; rw [if_pos h, if_pos h2]
theorem wrongI_fine {ns : List ByteArray} (h : ns.all knownB = true) (h2 : dupTo ns ns.length = false) : wrongI ns = 0 := by unfold wrongI; rw [if_pos h, h2]; rfl

set_option maxRecDepth 100000 in
set_option maxHeartbeats 4000000 in
theorem ref_check_any (k a : Int) (lv : Value) (L : List Rul) (w : World) (hL : RulsAt w lv L) :
    Calls Try.prog 11 #[.agg #[.int .i64 k, .int .i64 a, lv]] w (Ret (pairT (checkV k a L)) w) := by
  obtain ⟨A0, c0, rfl⟩ := hL.form
  have hbox := below_alloc w (.cells #[.int .i64 k, .int .i64 a, .slice A0 L.length c0] 26)
  have R := ref_rules_any k a _ L _ (ruls_below hbox hL)
  obtain ⟨A, c, hv, hnl, hnc⟩ := hL
  cases hv
  obtain ⟨F, hF⟩ : ∃ F, checkV k a L = F := ⟨_, rfl⟩
  rw [hF]
  unfold checkV at hF
  obtain ⟨y, hy⟩ : ∃ y, rulesB k a L = y := ⟨_, rfl⟩
  rw [hy] at R hF
  have hnames : y = true → ∀ x ∈ L, x.ns.length ≤ 16 := fun h x hx => (rulesB_names (by rw [hy, h]) hx).1
  have Hnames := Lib.hid hnames
  obtain ⟨n, hnn⟩ : ∃ n, L.length = n := ⟨_, rfl⟩
  rw [hnn] at hnl hnc hbox R ⊢
  have HF := Lib.hid hF
  have Hnc := Lib.hid hnc
  clear hF hnc hy hnames
  go_enter Try.func11, Try.ntmps11
  cases y with
  | false =>
    go_wp2_with (go_at_call 24; refine R.mono ?_; rintro e w1 ⟨rfl, hb1⟩)
    go_ret2
    exact ⟨by rw [← HF.out]; rfl, bchain hbox hbox.size hb1⟩
  | true =>
  go_wp2_with (go_at_call 24; refine R.mono ?_; rintro e wa ⟨rfl, hb1⟩; have b2 : wa.cell? ⟨w.heap.size, 2, none⟩ = some (.slice A0 n c0) := keep_cell hb1 (by go_keep))
  have hwa : Below w.heap.size w wa := bchain hbox hbox.size hb1
  clear hb1 hbox
  go_loopw [4] (fun i wr => LR n wa (fun j => checkL L 0 = checkL (L.drop j) j) i wr) (fun i _ => n - (intOf i).toNat)
  case atStart => exact ⟨0, by omega, rfl, Below.refl _ _, rfl⟩
  case round =>
    obtain ⟨j, hj, rfl, hb, hf⟩ := hrel
    have hwr : Below w.heap.size w wr := bchain hwa hwa.size hb
    have b2r : wr.cell? ⟨w.heap.size, 2, none⟩ = some (.slice A0 n c0) := keep_cell hb b2
    by_cases hlt : j < n
    case neg =>
      obtain rfl : j = n := by omega
      rw [List.drop_eq_nil_of_le (by omega)] at hf
      have Hf := Lib.hid hf
      clear hf
      go_wp2
      go_ret2
      exact ⟨by rw [← HF.out, if_pos trivial, Hf.out]; rfl, hwr⟩
    obtain ⟨gl, o, rfl, hcell⟩ := Hnc.out (by omega)
    obtain ⟨x, hx⟩ : ∃ x, L[j]? = some x := ⟨_, List.getElem?_eq_getElem (by omega)⟩
    obtain ⟨nv, cv, e0, e1, e2, e3, hns, hcs⟩ := RulQ.below hwr (hcell j x hx)
    have hx16 := Hnames.out trivial x (List.mem_of_getElem? hx)
    rw [checkL_at hx] at hf
    have hlt' : (j : Int) < n := by omega
    obtain ⟨rk, ra, ns, cs⟩ := x
    have e2' : wr.cell? ⟨gl, o + j * 4 + 2, none⟩ = some nv := e2
    have hns' : StrsAt wr nv ns := hns
    have hx16' : ns.length ≤ 16 := hx16
    have hf : checkL L 0 = if wrongI ns = 0 then checkL (L.drop (j + 1)) (j + 1) else (wrongI ns, (j : Int)) := hf
    obtain ⟨A1, c1, rfl, hl1, hc1⟩ := hns'
    obtain ⟨n1, hn1⟩ : ∃ n1, ns.length = n1 := ⟨_, rfl⟩
    rw [hn1] at hl1 hc1 e2' hx16'
    have Hc1 := Lib.hid hc1
    have Hf := Lib.hid hf
    clear hns hcs e0 e1 e2 e3 hcell hx hx16 hc1 hf
    go_wp2
    obtain ⟨wo, hwo⟩ : ∃ wo, wo = wr := ⟨_, rfl⟩
    subst hwo
    go_loopw [6] (fun i wq => LR n1 wo (fun p => ns.all knownB = (ns.drop p).all knownB) i wq) (fun i _ => n1 - (intOf i).toNat)
    case atStart => exact ⟨0, by omega, rfl, Below.refl _ _, rfl⟩
    case round =>
      obtain ⟨p, hp, rfl, hb6, hf6⟩ := hrel
      by_cases hlt6 : p < n1
      · obtain ⟨gl1, o1, rfl, hcell1⟩ := Hc1.out (by omega)
        obtain ⟨x, hx⟩ : ∃ x, ns[p]? = some x := ⟨_, List.getElem?_eq_getElem (by omega)⟩
        obtain ⟨h0, hxs⟩ := hcell1 p x hx
        have h1 : wr.cell? ⟨gl1, o1 + p, none⟩ = some (.string x) := by rw [Nat.mul_one] at h0; exact keep_cell hb6 h0
        rw [all_at hx] at hf6
        have hlt' : (p : Int) < n1 := by omega
        have N := ref_nr_any x
        rw [nrT_eq] at N
        obtain ⟨z, hz⟩ : ∃ z, knownB x = z := ⟨_, rfl⟩
        obtain ⟨v, hv⟩ : ∃ v, (nrV x).1 = v := ⟨_, rfl⟩
        rw [hz, hv] at N
        rw [hz] at hf6
        have Hf6 := Lib.hid hf6
        clear hcell1 h0 hx hz hv hf6
        cases z with
        | true =>
          go_wp2_with (go_at_call 25; (with_reducible refine (N _).mono ?_); rintro e w5 ⟨rfl, hb7⟩)
          go_roundw
          case rel => exact ⟨p + 1, by omega, by go_num, bchain hb6 hb6.size hb7, Hf6.out⟩
          case measure => (simp [intOf] <;> omega)
        | false =>
          go_wp2_with (go_at_call 25; (with_reducible refine (N _).mono ?_); rintro e w5 ⟨rfl, hb7⟩)
          go_ret2
          refine ⟨?_, (by have k1 := bchain hwr hwr.size hb6; exact bchain k1 k1.size hb7)⟩
          have h8 : wrongI ns = 8 := wrongI_unknown (by rw [Hf6.out]; rfl)
          rw [← HF.out, if_pos trivial, Hf.out, h8]
          rfl
      · obtain rfl : p = n1 := by omega
        rw [List.drop_eq_nil_of_le (by omega)] at hf6
        have Hknown := Lib.hid hf6
        clear hf6
        go_wp2
        obtain ⟨wc, hwc⟩ : ∃ wc, wc = wr := ⟨_, rfl⟩
        subst hwc
        go_loopw [9] (fun i wq => LR p wc (fun q => dupTo ns q = false) i wq) (fun i _ => p - (intOf i).toNat)
        case atStart => exact ⟨0, by omega, rfl, Below.refl _ _, rfl⟩
        case round =>
          obtain ⟨q, hq, rfl, hb8, hf8⟩ := hrel
          have hocr : Below wo.heap.size wo wr := bchain hb6 hb6.size hb8
          have hwr2 : Below w.heap.size w wr := bchain hwr hwr.size hocr
          have Hf8 := Lib.hid hf8
          clear hf8
          by_cases hlt8 : q < p
          case neg =>
            obtain rfl : q = p := by omega
            go_wp2
            go_roundw
            case rel =>
              refine ⟨j + 1, by omega, by go_num, bchain hb hb.size hocr, ?_⟩
              rw [Hf.out, if_pos (wrongI_fine (by rw [Hknown.out]; rfl) (by rw [hn1]; exact Hf8.out))]
            case measure => (simp [intOf] <;> omega)
          obtain ⟨gl1, o1, rfl, hcell1⟩ := Hc1.out (by omega)
          obtain ⟨x, hx⟩ : ∃ x, ns[q]? = some x := ⟨_, List.getElem?_eq_getElem (by omega)⟩
          obtain ⟨h0, hxs⟩ := hcell1 q x hx
          have h1 : wr.cell? ⟨gl1, o1 + q, none⟩ = some (.string x) := by rw [Nat.mul_one] at h0; exact keep_cell hocr h0
          have hlt' : (q : Int) < p := by omega
          have Hcell1 := Lib.hid hcell1
          have Hx := Lib.hid hx
          clear hcell1 h0 hx
          go_wp2
          obtain ⟨wd, hwd⟩ : ∃ wd, wd = wr := ⟨_, rfl⟩
          subst hwd
          go_loopw [10] (fun i wq => LR q wd (fun u => seenB ns u x = false) i wq) (fun i _ => q - (intOf i).toNat)
          case atStart => exact ⟨0, by omega, rfl, Below.refl _ _, rfl⟩
          case round =>
            obtain ⟨u, hu, rfl, hb10, hf10⟩ := hrel
            have Hf10 := Lib.hid hf10
            clear hf10
            by_cases hlt10 : u < q
            case neg =>
              obtain rfl : u = q := by omega
              go_wp2
              go_roundw
              case rel => exact ⟨u + 1, by omega, by go_num, bchain hb8 hb8.size hb10, by show dupTo ns (u + 1) = false; rw [dupTo_succ Hx.out, Hf8.out, Hf10.out]; rfl⟩
              case measure => (simp [intOf] <;> omega)
            obtain ⟨y, hy⟩ : ∃ y, ns[u]? = some y := ⟨_, List.getElem?_eq_getElem (by omega)⟩
            obtain ⟨i0, _⟩ := Hcell1.out u y hy
            have i1 : wr.cell? ⟨gl1, o1 + u, none⟩ = some (.string y) := by rw [Nat.mul_one] at i0; exact keep_cell hb10 (keep_cell hocr i0)
            have i2 : wr.cell? ⟨gl1, o1 + q, none⟩ = some (.string x) := keep_cell hb10 h1
            have hltu : (u : Int) < q := by omega
            have hltu2 : (u : Int) < p := by omega
            have hs := seenB_succ hy x
            have Hs := Lib.hid hs
            clear i0 hy hs
            by_cases exy : x = y
            · go_wp2
              go_quiet (fail)
              go_wp2
              go_ret2
              refine ⟨?_, (by have k1 := bchain hwr2 hwr2.size hb10; exact bchain k1 k1.size (below_drewN wr nq))⟩
              have h9 : wrongI ns = 9 := by
                refine wrongI_twice (by rw [Hknown.out]; rfl) (dupTo_mono (p := q + 1) ?_ _ (by omega))
                rw [dupTo_succ Hx.out]
                have hst : seenB ns (u + 1) x = true := by rw [← Hs.out, decide_eq_true exy]; rfl
                rw [seenB_mono hst (by omega)]
                simp
              rw [← HF.out, if_pos trivial, Hf.out, h9]
              rfl
            · have hne := bytes_ne exy
              go_wp2
              go_quiet (fail)
              go_wp2
              go_roundw
              case rel => exact ⟨u + 1, by omega, by go_num, bchain hb10 hb10.size (below_drewN wr nq), by show seenB ns (u + 1) x = false; rw [← Hs.out, decide_eq_false exy, Hf10.out]; rfl⟩
              case measure => (simp [intOf] <;> omega)
end Go.Proofs.Ytjmmbadpknlmcaa
