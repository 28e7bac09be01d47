/- First, twice: which line it tells. Condition: the lines can be read. -/
import Derived.Test.YtcmogmplfigikaaLines
namespace Go.Proofs.Ytcmogmplfigikaa
open Go.RowKit
attribute [local go_sem ↓] Go.wp_at_zero Go.wp_at_succ
set_option linter.unusedVariables false
set_option linter.unusedSimpArgs false

def FirstRel (L : List (ByteArray × Bool)) (p : List UInt8) (w : World) (i : Value) (wr : World) : Prop :=
  ∃ k : Nat, k ≤ L.length ∧ i = .int .i64 k ∧ Below w.heap.size w wr ∧ firstL L p 0 = firstL (L.drop k) p k
def firstV (L : List (ByteArray × Bool)) (p : List UInt8) : Value := .tuple #[.int .i64 (firstL L p 0).1, .bool (firstL L p 0).2]

set_option maxRecDepth 100000 in
set_option maxHeartbeats 2000000 in
theorem first_any (v : Value) (L : List (ByteArray × Bool)) (p : ByteArray) (w : World) (h : LinesAt w v L) (hl : L.length ≤ 1000000) : Calls Try.prog 17 #[v, .string p] w (Ret2 (firstV L p.data.toList) w) := by
  obtain ⟨A, c, rfl, hl2, hc, hsz⟩ := h
  have Hc := Lib.hid hc
  have Hs := Lib.hid hsz
  clear hc hsz
  unfold firstV
  go_enter Try.func17, Try.ntmps17
  go_wp2
  go_loopw [10] (fun i wr => FirstRel L p.data.toList w i wr) (fun i _ => L.length - (intOf i).toNat)
  case atStart => exact ⟨0, Nat.zero_le _, rfl, Below.refl _ _, rfl⟩
  case round =>
    obtain ⟨k, hk, rfl, hb, hf⟩ := hrel
    by_cases hlt : k < L.length
    · obtain ⟨gl, o, rfl, hcell⟩ := Hc.out (by omega)
      obtain ⟨x, hx⟩ : ∃ x, L[k]? = some x := ⟨_, List.getElem?_eq_getElem hlt⟩
      obtain ⟨e0, e1⟩ := hcell k x hx
      have c0 := keep_cell hb e0
      have c1 := keep_cell hb e1
      have hat := firstL_at (p := p.data.toList) hx k
      rw [hat] at hf
      have hlt' : (k : Int) < (L.length : Int) := by omega
      have M := match_any x.1 p
      obtain ⟨y, hy⟩ : ∃ y, globB x.1.data.toList p.data.toList = y := ⟨_, rfl⟩
      rw [hy] at M hf
      obtain ⟨g, hg⟩ : ∃ g, x.1 = g := ⟨_, rfl⟩
      obtain ⟨lt, hlet⟩ : ∃ lt, x.2 = lt := ⟨_, rfl⟩
      rw [hg] at M c0
      rw [hlet] at c1 hf
      have Hf := Lib.hid hf
      clear hcell e0 e1 hat hx hy hg hlet hf
      cases y with
      | true =>
        go_wp2_with (go_at_call 13; (with_reducible refine (M _).mono ?_); rintro e w5 ⟨rfl, hb5⟩; have f0 : w5.cell? ⟨wr.heap.size, 0, none⟩ = some (.string g) := keep_cell hb5 (by go_keep); have f1 : w5.cell? ⟨wr.heap.size, 1, none⟩ = some (.bool lt) := keep_cell hb5 (by go_keep))
        go_quiet (fail)
        go_wp2
        go_ret2
        refine ⟨?_, ?_⟩
        · rw [Hf.out]; rfl
        · have k1 := hb.alloc hb.size (Obj.cells #[.string g, .bool lt] 32)
          exact below_drewN (bchain k1 k1.size hb5) nq
      | false =>
        go_wp2_with (go_at_call 13; (with_reducible refine (M _).mono ?_); rintro e w5 ⟨rfl, hb5⟩)
        go_roundw
        case rel => exact ⟨k + 1, by omega, by go_num, (by have k1 := hb.alloc hb.size (Obj.cells #[.string g, .bool lt] 32); exact bchain k1 k1.size hb5), by rw [Hf.out]; rfl⟩
        case measure => (simp [intOf] <;> omega)
    · obtain rfl : k = L.length := by omega
      rw [List.drop_length] at hf
      have Hf := Lib.hid hf
      clear hf
      go_wp2
      go_ret2
      exact ⟨by rw [Hf.out]; rfl, hb⟩

set_option maxRecDepth 100000 in
set_option maxHeartbeats 2000000 in
theorem ref_first_any (v : Value) (L : List (ByteArray × Bool)) (p : ByteArray) (w : World) (h : LinesAt w v L) (hl : L.length ≤ 1000000) : Calls Try.prog 18 #[v, .string p] w (Ret2 (firstV L p.data.toList) w) := by
  obtain ⟨A, c, rfl, hl2, hc, hsz⟩ := h
  have Hc := Lib.hid hc
  have Hs := Lib.hid hsz
  clear hc hsz
  unfold firstV
  go_enter Try.func18, Try.ntmps18
  go_wp2
  go_loopw [6] (fun i wr => FirstRel L p.data.toList w i wr) (fun i _ => L.length - (intOf i).toNat)
  case atStart => exact ⟨0, Nat.zero_le _, rfl, Below.refl _ _, rfl⟩
  case round =>
    obtain ⟨k, hk, rfl, hb, hf⟩ := hrel
    by_cases hlt : k < L.length
    · obtain ⟨gl, o, rfl, hcell⟩ := Hc.out (by omega)
      obtain ⟨x, hx⟩ : ∃ x, L[k]? = some x := ⟨_, List.getElem?_eq_getElem hlt⟩
      obtain ⟨e0, e1⟩ := hcell k x hx
      have c0 := keep_cell hb e0
      have c1 := keep_cell hb e1
      have hat := firstL_at (p := p.data.toList) hx k
      rw [hat] at hf
      have hlt' : (k : Int) < (L.length : Int) := by omega
      have M := ref_match_any x.1 p
      obtain ⟨y, hy⟩ : ∃ y, globB x.1.data.toList p.data.toList = y := ⟨_, rfl⟩
      rw [hy] at M hf
      obtain ⟨g, hg⟩ : ∃ g, x.1 = g := ⟨_, rfl⟩
      obtain ⟨lt, hlet⟩ : ∃ lt, x.2 = lt := ⟨_, rfl⟩
      rw [hg] at M c0
      rw [hlet] at c1 hf
      have Hf := Lib.hid hf
      clear hcell e0 e1 hat hx hy hg hlet hf
      cases y with
      | true =>
        go_wp2_with (go_at_call 14; (with_reducible refine (M _).mono ?_); rintro e w5 ⟨rfl, hb5⟩; have f1 : w5.cell? ⟨gl, o + k * 2 + 1, none⟩ = some (.bool lt) := keep_cell hb5 c1)
        go_quiet (fail)
        go_wp2
        go_ret2
        exact ⟨by rw [Hf.out]; rfl, below_drewN (bchain hb hb.size hb5) nq⟩
      | false =>
        go_wp2_with (go_at_call 14; (with_reducible refine (M _).mono ?_); rintro e w5 ⟨rfl, hb5⟩)
        go_roundw
        case rel => exact ⟨k + 1, by omega, by go_num, bchain hb hb.size hb5, by rw [Hf.out]; rfl⟩
        case measure => (simp [intOf] <;> omega)
    · obtain rfl : k = L.length := by omega
      rw [List.drop_length] at hf
      have Hf := Lib.hid hf
      clear hf
      go_wp2
      go_ret2
      exact ⟨by rw [Hf.out]; rfl, hb⟩

def LenRel (n : Nat) (W : World) (i : Value) (wr : World) : Prop := ∃ k : Nat, k ≤ n ∧ i = .int .i64 k ∧ wr = W

set_option maxRecDepth 100000 in
set_option maxHeartbeats 2000000 in
theorem law_firsts (v : Value) (L : List (ByteArray × Bool)) (p : ByteArray) (w : World) (h : LinesAt w v L) : Calls Try.prog 8 #[v, .string p] w (Ret (.bool true) w) := by
  have A := awake_any
  have Hl := Lib.hid h
  obtain ⟨A', c, rfl, hl2, hc, hsz⟩ := h
  have Hc := Lib.hid hc
  have Hs := Lib.hid hsz
  clear hc hsz
  by_cases h1 : (40 : Int) < (L.length : Int)
  · go_enter Try.func8, Try.ntmps8
    go_wp2_with (go_at_call 10; refine (A _).mono ?_; rintro e w1 ⟨rfl, hb1⟩)
    go_ret
    exact ⟨rfl, hb1⟩
  · have h1' : (L.length : Int) ≤ 40 := by omega
    by_cases h2 : (300 : Int) < (p.size : Int)
    · clear h1
      go_enter Try.func8, Try.ntmps8
      go_wp2_with (go_at_call 10; refine (A _).mono ?_; rintro e w1 ⟨rfl, hb1⟩)
      go_ret
      exact ⟨rfl, hb1⟩
    · have h2' : (p.size : Int) ≤ 300 := by omega
      clear h1 h2
      go_enter Try.func8, Try.ntmps8
      go_wp2_with (go_at_call 10; refine (A _).mono ?_; rintro e w1 ⟨rfl, hb1⟩)
      go_loopw [6] (fun i wr => LenRel L.length w1 i wr) (fun i _ => L.length - (intOf i).toNat)
      case atStart => exact ⟨0, Nat.zero_le _, rfl, rfl⟩
      case round =>
        obtain ⟨k, hk, rfl, hw⟩ := hrel
        subst hw
        by_cases hlt : k < L.length
        · obtain ⟨gl, o, rfl, hcell⟩ := Hc.out (by omega)
          obtain ⟨x, hx⟩ : ∃ x, L[k]? = some x := ⟨_, List.getElem?_eq_getElem hlt⟩
          obtain ⟨e0, e1⟩ := hcell k x hx
          have c0 := keep_cell hb1 e0
          have hlt' : (k : Int) < (L.length : Int) := by omega
          have hsx := Hs.out x (List.mem_of_getElem? hx)
          obtain ⟨g, hg⟩ : ∃ g, x.1 = g := ⟨_, rfl⟩
          rw [hg] at c0 hsx
          clear hcell e0 e1 hx hg
          by_cases hgl : (300 : Int) < (g.size : Int)
          · go_wp2
            go_ret
            exact ⟨rfl, hb1⟩
          · have hgl' : (g.size : Int) ≤ 300 := by omega
            clear hgl
            go_wp2
            go_roundw
            case rel => exact ⟨k + 1, by omega, by go_num, rfl⟩
            case measure => (simp [intOf] <;> omega)
        · obtain rfl : k = L.length := by omega
          have F1 := fun W (hb : Below w.heap.size w W) => first_any _ L p W (Hl.out.below hb) (by omega)
          have F2 := fun W (hb : Below w.heap.size w W) => ref_first_any _ L p W (Hl.out.below hb) (by omega)
          unfold firstV at F1 F2
          obtain ⟨n, hn⟩ : ∃ n, (firstL L p.data.toList 0).1 = n := ⟨_, rfl⟩
          obtain ⟨b, hbe⟩ : ∃ b, (firstL L p.data.toList 0).2 = b := ⟨_, rfl⟩
          simp only [hn, hbe] at F1 F2
          have HF1 := Lib.hid F1
          have HF2 := Lib.hid F2
          clear hn hbe F1 F2
          go_wp2_with (first
            | (go_at_call 17; (with_reducible refine (HF1.out _ hb1).mono ?_); rintro e w2 ⟨rfl, hb2⟩; have k2 := bchain hb1 hb1.size hb2)
            | (go_at_call 18; (with_reducible refine (HF2.out _ k2).mono ?_); rintro e w3 ⟨rfl, hb3⟩))
          go_ret
          exact ⟨rfl, bchain k2 k2.size hb3⟩
end Go.Proofs.Ytcmogmplfigikaa
