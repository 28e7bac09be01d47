/- GlobBehind: it answers true. Condition: the lines can be read. -/
import Derived.Test.YtcmogmplfigikaaBehindP
import Derived.Laws.AppendOwnNone
namespace Go.Proofs.Ytcmogmplfigikaa
open Go.RowKit
attribute [local go_sem ↓] Go.wp_at_zero Go.wp_at_succ
set_option linter.unusedVariables false
set_option linter.unusedSimpArgs false

theorem own_ge2 {w1 : World} {base : Nat} {e : TypeId} {size k : Nat} {v : Value} {xs : List Value} (h : w1.ownsRow base e size v k xs) : ∀ j, v.ownBlock = some j → base ≤ j := by
  intro j hj
  rcases h.2 with ⟨rfl, _⟩ | ⟨g, cap, cur, rfl, hg, _, _⟩
  · simp [Value.ownBlock] at hj
  · obtain rfl : g = j := by simpa [Value.ownBlock] using hj
    exact hg

set_option maxRecDepth 100000 in
set_option maxHeartbeats 2000000 in
theorem law_behind_long (v u : Value) (L M : List (ByteArray × Bool)) (p : ByteArray) (w : World) (hL : LinesAt w v L) (hM : LinesAt w u M) (h : (20 : Int) < (L.length : Int) ∨ (20 : Int) < (M.length : Int) ∨ (256 : Int) < (p.size : Int)) : Calls Try.prog 9 #[v, u, .string p] w (Ret (.bool true) w) := by
  have A := awake_any
  obtain ⟨A1, cA, rfl, hlA, -, -⟩ := hL
  obtain ⟨B1, cB, rfl, hlB, -, -⟩ := hM
  by_cases h1 : (20 : Int) < (L.length : Int)
  · go_enter Try.func9, Try.ntmps9
    go_wp2_with (go_at_call 10; refine (A _).mono ?_; rintro e w1 ⟨rfl, hb1⟩)
    go_ret
    exact ⟨rfl, hb1⟩
  · have h1' : (L.length : Int) ≤ 20 := by omega
    by_cases h2 : (20 : Int) < (M.length : Int)
    · clear h h1
      go_enter Try.func9, Try.ntmps9
      go_wp2_with (go_at_call 10; refine (A _).mono ?_; rintro e w1 ⟨rfl, hb1⟩)
      go_ret
      exact ⟨rfl, hb1⟩
    · have h2' : (M.length : Int) ≤ 20 := by omega
      have h3 : (256 : Int) < (p.size : Int) := by omega
      clear h h1 h2
      go_enter Try.func9, Try.ntmps9
      go_wp2_with (go_at_call 10; refine (A _).mono ?_; rintro e w1 ⟨rfl, hb1⟩)
      go_ret
      exact ⟨rfl, hb1⟩

set_option maxRecDepth 100000 in
set_option maxHeartbeats 16000000 in
theorem law_behind_short (v u : Value) (L M : List (ByteArray × Bool)) (p : ByteArray) (w : World) (hL : LinesAt w v L) (hM : LinesAt w u M) (nL : Nilly v) (nM : Nilly u) (h1 : (L.length : Int) ≤ 20) (h2 : (M.length : Int) ≤ 20) (h3 : (p.size : Int) ≤ 256) : Calls Try.prog 9 #[v, u, .string p] w (Ret (.bool true) w) := by
  have A := awake_any
  obtain ⟨i32, hi, hz0, hz1, hz2⟩ := info_parts info32
  have hml : 1000 ≤ maxLen := by decide
  have HL := Lib.hid hL
  have HM := Lib.hid hM
  have NL := Lib.hid nL
  have NM := Lib.hid nM
  clear nL nM
  obtain ⟨A1, cA, rfl, hlA, hcA, hsA⟩ := hL
  obtain ⟨B1, cB, rfl, hlB, hcB, hsB⟩ := hM
  have HcA := Lib.hid hcA
  have HcB := Lib.hid hcB
  have HsA := Lib.hid hsA
  have HsB := Lib.hid hsB
  have Hs : Hid (∀ x ∈ L ++ M, x.1.size ≤ 9223372036854775807) := Lib.hid (fun x hx => by
    rcases List.mem_append.1 hx with h | h
    · exact hsA x h
    · exact hsB x h)
  clear hcA hcB hsA hsB
  go_enter Try.func9, Try.ntmps9
  go_wp2_with (go_at_call 10; refine (A _).mono ?_; rintro e w1 ⟨rfl, hb1⟩)
  go_loopw [8] (fun i wr => LenRel (L.length + M.length) w1 i wr) (fun i _ => L.length + M.length - (intOf i).toNat)
  case atStart => exact ⟨0, Nat.zero_le _, rfl, rfl⟩
  case round =>
    obtain ⟨k, hk, rfl, hw⟩ := hrel
    subst hw
    by_cases hlt : k < L.length
    · obtain ⟨gl, o, rfl, hcell⟩ := HcA.out (by omega)
      obtain ⟨x, hx⟩ : ∃ x, L[k]? = some x := ⟨_, List.getElem?_eq_getElem hlt⟩
      have c0 := keep_cell hb1 (hcell k x hx).1
      have hlt' : (k : Int) < (L.length : Int) := by omega
      have hsum : (k : Int) < (L.length : Int) + (M.length : Int) := by omega
      have hsx := HsA.out x (List.mem_of_getElem? hx)
      obtain ⟨g, hg⟩ : ∃ g, x.1 = g := ⟨_, rfl⟩
      rw [hg] at c0 hsx
      clear hcell hx hg
      by_cases hgl : (300 : Int) < (g.size : Int)
      · go_wp2
        go_ret
        exact ⟨rfl, hb1⟩
      · have hgl' : (g.size : Int) ≤ 300 := by omega
        clear hgl
        go_wp2
        go_roundw
        case rel => exact ⟨k + 1, by omega, by go_num, rfl⟩
        case measure => (simp [intOf] <;> omega)
    · by_cases hlt2 : k < L.length + M.length
      · obtain ⟨j, rfl⟩ : ∃ j, k = L.length + j := ⟨k - L.length, by omega⟩
        have hj : j < M.length := by omega
        obtain ⟨gm, om, rfl, hcell⟩ := HcB.out (by omega)
        obtain ⟨x, hx⟩ : ∃ x, M[j]? = some x := ⟨_, List.getElem?_eq_getElem hj⟩
        have c0 := keep_cell hb1 (hcell j x hx).1
        have hcast : ((L.length + j : Nat) : Int) = (L.length : Int) + (j : Int) := by omega
        have hj' : (j : Int) < (M.length : Int) := by omega
        have hsum : (L.length : Int) + (j : Int) < (L.length : Int) + (M.length : Int) := by omega
        have hge : ¬ (L.length : Int) + (j : Int) < (L.length : Int) := by omega
        have hge2 : (L.length : Int) ≤ (L.length : Int) + (j : Int) := by omega
        have hsub : (L.length : Int) + (j : Int) - (L.length : Int) = (j : Int) := by omega
        have hsx := HsB.out x (List.mem_of_getElem? hx)
        obtain ⟨g, hg⟩ : ∃ g, x.1 = g := ⟨_, rfl⟩
        rw [hg] at c0 hsx
        rw [hcast]
        clear hcell hx hg hcast hlt hlt2
        by_cases hgl : (300 : Int) < (g.size : Int)
        · go_wp2
          go_ret
          exact ⟨rfl, hb1⟩
        · have hgl' : (g.size : Int) ≤ 300 := by omega
          clear hgl
          go_wp2
          go_roundw
          case rel => exact ⟨L.length + j + 1, by omega, by go_num, rfl⟩
          case measure => (simp [intOf] <;> omega)
      · obtain rfl : k = L.length + M.length := by omega
        have hcast : ((L.length + M.length : Nat) : Int) = (L.length : Int) + (M.length : Int) := by omega
        rw [hcast]
        have F1 := fun W (hb : Below w.heap.size w W) => first_any _ L p W (HL.out.below hb) (by omega)
        have F3 := fun W (hb : Below w.heap.size w W) => first_any _ M p W (HM.out.below hb) (by omega)
        have F2 := fun v' W (h : LinesAt W v' (L ++ M)) => first_any v' (L ++ M) p W h (by simp; omega)
        unfold firstV at F1 F2 F3
        clear HL HM hcast hlt hlt2
        by_cases hn : (firstL L p.data.toList 0).1 < 0
        · obtain ⟨e1, e2⟩ := firstL_none L p.data.toList 0 hn
          have e3 := e2 M
          rw [Nat.add_zero] at e3
          have e4 := firstL_shift M p.data.toList L.length 0
          rw [Nat.add_zero] at e4
          rw [e4] at e3
          simp only [e1] at F1
          by_cases hm : (firstL M p.data.toList 0).1 < 0
          · obtain ⟨e5, _⟩ := firstL_none M p.data.toList 0 hm
            rw [if_pos hm] at e3
            simp only [e3] at F2
            simp only [e5] at F3
            have HF1 := Lib.hid F1
            have HF3 := Lib.hid F3
            clear F1 F3 e1 e2 e3 e4 e5 hn hm
            rcases NL.out with hL0 | ⟨adL, _, _, hL0⟩
            · simp only [Value.slice.injEq] at hL0
              obtain ⟨rfl, hL1, rfl⟩ := hL0
              obtain rfl : L = [] := List.length_eq_zero_iff.1 hL1
              simp only [List.length_nil] at HF1 ⊢
              rcases NM.out with hM0 | ⟨adM, _, _, hM0⟩
              · simp only [Value.slice.injEq] at hM0
                obtain ⟨rfl, hM1, rfl⟩ := hM0
                obtain rfl : M = [] := List.length_eq_zero_iff.1 hM1
                simp only [List.length_nil] at HF3 ⊢
                go_wp2_with (first
                  | (go_at_call 17; first | (have hx := k5; (with_reducible refine (HF3.out _ k5).mono ?_); rintro e w6 ⟨rfl, hb6⟩; have k6 := bchain k5 k5.size hb6) | (have hx := F2c; (with_reducible refine F2c.mono ?_); rintro e w5 ⟨rfl, hb5⟩; have k5 := bchain kz kz.size hb5) | ((with_reducible refine (HF1.out _ hb1).mono ?_); rintro e w2 ⟨rfl, hb2⟩; have k2 := bchain hb1 hb1.size hb2; have kA := k2.alloc k2.size (Obj.cells #[] 32); have own0 : (w2.alloc (Obj.cells #[] 32)).ownsRow w2.heap.size 32 2 (.slice (some ⟨w2.heap.size, 0, none⟩) 0 0) 0 [] := ⟨rfl, .inr ⟨_, 0, #[], rfl, Nat.le_refl _, World.alloc_heap_new w2 _, Nat.le_refl _, Nat.zero_le _, rfl, rfl⟩⟩; have F2c := F2 (.slice (some ⟨w2.heap.size, 0, none⟩) 0 0) (w2.alloc (.cells #[] 32)) (lines_of_row (L := [] ++ []) (base := w2.heap.size) own0 Hs.out); have kz := kA))
                  | (at_builtin; refine wpList_append_own_none rfl (Operand.tmp 78) (Operand.tmp 79) _ rfl w2.heap.size 32 i32 2 Try.underlying30 hi _ 0 [] rfl own0 rfl ?_)
                  | (at_builtin; refine wpList_append_own_none rfl (Operand.tmp 80) (Operand.tmp 81) _ rfl w2.heap.size 32 i32 2 Try.underlying30 hi _ 0 [] rfl own0 rfl ?_))
                go_ret
                exact ⟨rfl, k6⟩
              · simp only [Value.slice.injEq] at hM0
                obtain ⟨rfl, -, -⟩ := hM0
                have HcM := Lib.hid (lines_cells HcB.out)
                go_wp2_with (first
                  | (go_at_call 17; first | (have hx := k5; (with_reducible refine (HF3.out _ k5).mono ?_); rintro e w6 ⟨rfl, hb6⟩; have k6 := bchain k5 k5.size hb6) | (have hx := F2c; (with_reducible refine F2c.mono ?_); rintro e w5 ⟨rfl, hb5⟩; have k5 := bchain kz kz.size hb5) | ((with_reducible refine (HF1.out _ hb1).mono ?_); rintro e w2 ⟨rfl, hb2⟩; have k2 := bchain hb1 hb1.size hb2; have kA := k2.alloc k2.size (Obj.cells #[] 32); have own0 : (w2.alloc (Obj.cells #[] 32)).ownsRow w2.heap.size 32 2 (.slice (some ⟨w2.heap.size, 0, none⟩) 0 0) 0 [] := ⟨rfl, .inr ⟨_, 0, #[], rfl, Nat.le_refl _, World.alloc_heap_new w2 _, Nat.le_refl _, Nat.zero_le _, rfl, rfl⟩⟩))
                  | (at_builtin; refine wpList_append_own_none rfl (Operand.tmp 78) (Operand.tmp 79) _ rfl w2.heap.size 32 i32 2 Try.underlying30 hi _ 0 [] rfl own0 rfl ?_)
                  | (at_builtin; refine wpList_append_own _ rfl (Operand.tmp 80) (Operand.tmp 81) _ rfl w2.heap.size 32 i32 (.agg #[.string ⟨#[]⟩, .bool false]) 2 24 Try.underlying30 hi hz0 hz1 hz2 rfl (by decide) (.slice (some ⟨w2.heap.size, 0, none⟩) 0 0) 0 [] rfl own0 adM M.length cB (rowLines M) rfl (rowLines_len _) (HcM.out _ kA) rowLines_one (by omega) (by omega) (by simp) ?_; intro v2 w4 hown4 hgrow4 _; have kz : Below w.heap.size w w4 := kA.grown hgrow4 kA.size (fun k hk => by simp [Value.ownBlock] at hk; subst hk; exact k2.size); rw [Nat.zero_add, List.nil_append] at hown4; have F2c := F2 _ _ (lines_of_row (L := [] ++ M) (base := w2.heap.size) (w := w4) hown4 Hs.out)))
                go_ret
                exact ⟨rfl, k6⟩
            · simp only [Value.slice.injEq] at hL0
              obtain ⟨rfl, -, -⟩ := hL0
              have HcL := Lib.hid (lines_cells HcA.out)
              rcases NM.out with hM0 | ⟨adM, _, _, hM0⟩
              · simp only [Value.slice.injEq] at hM0
                obtain ⟨rfl, hM1, rfl⟩ := hM0
                obtain rfl : M = [] := List.length_eq_zero_iff.1 hM1
                simp only [List.length_nil] at HF3 ⊢
                go_wp2_with (first
                  | (go_at_call 17; first | (have hx := k5; (with_reducible refine (HF3.out _ k5).mono ?_); rintro e w6 ⟨rfl, hb6⟩; have k6 := bchain k5 k5.size hb6) | (have hx := F2c; (with_reducible refine F2c.mono ?_); rintro e w5 ⟨rfl, hb5⟩; have k5 := bchain kz kz.size hb5) | ((with_reducible refine (HF1.out _ hb1).mono ?_); rintro e w2 ⟨rfl, hb2⟩; have k2 := bchain hb1 hb1.size hb2; have kA := k2.alloc k2.size (Obj.cells #[] 32); have own0 : (w2.alloc (Obj.cells #[] 32)).ownsRow w2.heap.size 32 2 (.slice (some ⟨w2.heap.size, 0, none⟩) 0 0) 0 [] := ⟨rfl, .inr ⟨_, 0, #[], rfl, Nat.le_refl _, World.alloc_heap_new w2 _, Nat.le_refl _, Nat.zero_le _, rfl, rfl⟩⟩))
                  | (at_builtin; refine wpList_append_own _ rfl (Operand.tmp 78) (Operand.tmp 79) _ rfl w2.heap.size 32 i32 (.agg #[.string ⟨#[]⟩, .bool false]) 2 24 Try.underlying30 hi hz0 hz1 hz2 rfl (by decide) (.slice (some ⟨w2.heap.size, 0, none⟩) 0 0) 0 [] rfl own0 adL L.length cA (rowLines L) rfl (rowLines_len _) (HcL.out _ kA) rowLines_one (by omega) (by omega) (by simp) ?_; intro v1 w3 hown3 hgrow3 hnil3; have k3 : Below w.heap.size w w3 := kA.grown hgrow3 kA.size (fun k hk => by simp [Value.ownBlock] at hk; subst hk; exact k2.size); rw [Nat.zero_add, List.nil_append] at hown3; obtain ⟨g3, c3, rfl⟩ := own_some' hown3 (fun h => by have h2 := (hnil3.1 h).1; cases h2); have F2c := F2 _ _ (lines_of_row (L := L ++ []) (base := w2.heap.size) (w := w3) (by rw [List.append_nil]; exact hown3) Hs.out); have kz := k3)
                  | (at_builtin; refine wpList_append_own_none rfl (Operand.tmp 80) (Operand.tmp 81) _ rfl w2.heap.size 32 i32 2 Try.underlying30 hi _ L.length (rowLines L) rfl hown3 rfl ?_))
                go_ret
                exact ⟨rfl, k6⟩
              · simp only [Value.slice.injEq] at hM0
                obtain ⟨rfl, -, -⟩ := hM0
                have HcM := Lib.hid (lines_cells HcB.out)
                go_wp2_with (first
                  | (go_at_call 17; first | (have hx := k5; (with_reducible refine (HF3.out _ k5).mono ?_); rintro e w6 ⟨rfl, hb6⟩; have k6 := bchain k5 k5.size hb6) | (have hx := F2c; (with_reducible refine F2c.mono ?_); rintro e w5 ⟨rfl, hb5⟩; have k5 := bchain kz kz.size hb5) | ((with_reducible refine (HF1.out _ hb1).mono ?_); rintro e w2 ⟨rfl, hb2⟩; have k2 := bchain hb1 hb1.size hb2; have kA := k2.alloc k2.size (Obj.cells #[] 32); have own0 : (w2.alloc (Obj.cells #[] 32)).ownsRow w2.heap.size 32 2 (.slice (some ⟨w2.heap.size, 0, none⟩) 0 0) 0 [] := ⟨rfl, .inr ⟨_, 0, #[], rfl, Nat.le_refl _, World.alloc_heap_new w2 _, Nat.le_refl _, Nat.zero_le _, rfl, rfl⟩⟩))
                  | (at_builtin; refine wpList_append_own _ rfl (Operand.tmp 78) (Operand.tmp 79) _ rfl w2.heap.size 32 i32 (.agg #[.string ⟨#[]⟩, .bool false]) 2 24 Try.underlying30 hi hz0 hz1 hz2 rfl (by decide) (.slice (some ⟨w2.heap.size, 0, none⟩) 0 0) 0 [] rfl own0 adL L.length cA (rowLines L) rfl (rowLines_len _) (HcL.out _ kA) rowLines_one (by omega) (by omega) (by simp) ?_; intro v1 w3 hown3 hgrow3 hnil3; have k3 : Below w.heap.size w w3 := kA.grown hgrow3 kA.size (fun k hk => by simp [Value.ownBlock] at hk; subst hk; exact k2.size); rw [Nat.zero_add, List.nil_append] at hown3; obtain ⟨g3, c3, rfl⟩ := own_some' hown3 (fun h => by have h2 := (hnil3.1 h).1; cases h2); skip)
                  | (at_builtin; refine wpList_append_own _ rfl (Operand.tmp 80) (Operand.tmp 81) _ rfl w2.heap.size 32 i32 (.agg #[.string ⟨#[]⟩, .bool false]) 2 24 Try.underlying30 hi hz0 hz1 hz2 rfl (by decide) (.slice (some ⟨g3, 0, none⟩) L.length c3) L.length (rowLines L) rfl hown3 adM M.length cB (rowLines M) rfl (rowLines_len _) (HcM.out _ k3) rowLines_one (by omega) (by omega) (by have := hgrow3.size; simp at this; omega) ?_; intro v2 w4 hown4 hgrow4 _; have kz : Below w.heap.size w w4 := k3.grown hgrow4 k3.size (fun k hk => Nat.le_trans k2.size (own_ge2 hown3 k hk)); rw [← rowLines_append, ← List.length_append] at hown4; have F2c := F2 _ _ (lines_of_row (L := L ++ M) (base := w2.heap.size) (w := w4) hown4 Hs.out)))
                go_ret
                exact ⟨rfl, k6⟩
          · obtain ⟨_, kN, y, e5, hy, _⟩ := firstL_some M p.data.toList 0 hm
            rw [if_neg hm] at e3
            rw [Nat.add_zero] at e5
            obtain ⟨lt, hlt⟩ : ∃ lt, (firstL M p.data.toList 0).2 = lt := ⟨_, rfl⟩
            rw [e5, hlt] at e3
            simp only [e3] at F2
            simp only [e5, hlt] at F3
            have hMpos : 0 < M.length := by have := (List.getElem?_eq_some_iff.1 hy).1; omega
            have hkN : kN ≤ 20 := by have := (List.getElem?_eq_some_iff.1 hy).1; omega
            have HF1 := Lib.hid F1
            have HF3 := Lib.hid F3
            clear F1 F3 e1 e2 e3 e4 e5 hn hm hlt hy
            rcases NL.out with hL0 | ⟨adL, _, _, hL0⟩
            · simp only [Value.slice.injEq] at hL0
              obtain ⟨rfl, hL1, rfl⟩ := hL0
              obtain rfl : L = [] := List.length_eq_zero_iff.1 hL1
              simp only [List.length_nil] at HF1 ⊢
              obtain ⟨gm, om, rfl, hcell⟩ := HcB.out hMpos
              have HcM := Lib.hid (lines_cells HcB.out)
              clear hcell
              go_wp2_with (first
                | (go_at_call 17; first | (have hx := k5; (with_reducible refine (HF3.out _ k5).mono ?_); rintro e w6 ⟨rfl, hb6⟩; have k6 := bchain k5 k5.size hb6) | (have hx := F2c; (with_reducible refine F2c.mono ?_); rintro e w5 ⟨rfl, hb5⟩; have k5 := bchain kz kz.size hb5) | ((with_reducible refine (HF1.out _ hb1).mono ?_); rintro e w2 ⟨rfl, hb2⟩; have k2 := bchain hb1 hb1.size hb2; have kA := k2.alloc k2.size (Obj.cells #[] 32); have own0 : (w2.alloc (Obj.cells #[] 32)).ownsRow w2.heap.size 32 2 (.slice (some ⟨w2.heap.size, 0, none⟩) 0 0) 0 [] := ⟨rfl, .inr ⟨_, 0, #[], rfl, Nat.le_refl _, World.alloc_heap_new w2 _, Nat.le_refl _, Nat.zero_le _, rfl, rfl⟩⟩))
                | (at_builtin; refine wpList_append_own_none rfl (Operand.tmp 78) (Operand.tmp 79) _ rfl w2.heap.size 32 i32 2 Try.underlying30 hi _ 0 [] rfl own0 rfl ?_)
                | (at_builtin; refine wpList_append_own _ rfl (Operand.tmp 80) (Operand.tmp 81) _ rfl w2.heap.size 32 i32 (.agg #[.string ⟨#[]⟩, .bool false]) 2 24 Try.underlying30 hi hz0 hz1 hz2 rfl (by decide) (.slice (some ⟨w2.heap.size, 0, none⟩) 0 0) 0 [] rfl own0 ⟨gm, om, none⟩ M.length cB (rowLines M) rfl (rowLines_len _) (HcM.out _ kA) rowLines_one (by omega) (by omega) (by simp) ?_; intro v2 w4 hown4 hgrow4 _; have kz : Below w.heap.size w w4 := kA.grown hgrow4 kA.size (fun k hk => by simp [Value.ownBlock] at hk; subst hk; exact k2.size); rw [Nat.zero_add, List.nil_append] at hown4; have F2c := F2 _ _ (lines_of_row (L := [] ++ M) (base := w2.heap.size) (w := w4) hown4 Hs.out)))
              go_ret
              exact ⟨rfl, k6⟩
            · simp only [Value.slice.injEq] at hL0
              obtain ⟨rfl, -, -⟩ := hL0
              have HcL := Lib.hid (lines_cells HcA.out)
              obtain ⟨gm, om, rfl, hcell⟩ := HcB.out hMpos
              have HcM := Lib.hid (lines_cells HcB.out)
              clear hcell
              go_wp2_with (first
                | (go_at_call 17; first | (have hx := k5; (with_reducible refine (HF3.out _ k5).mono ?_); rintro e w6 ⟨rfl, hb6⟩; have k6 := bchain k5 k5.size hb6) | (have hx := F2c; (with_reducible refine F2c.mono ?_); rintro e w5 ⟨rfl, hb5⟩; have k5 := bchain kz kz.size hb5) | ((with_reducible refine (HF1.out _ hb1).mono ?_); rintro e w2 ⟨rfl, hb2⟩; have k2 := bchain hb1 hb1.size hb2; have kA := k2.alloc k2.size (Obj.cells #[] 32); have own0 : (w2.alloc (Obj.cells #[] 32)).ownsRow w2.heap.size 32 2 (.slice (some ⟨w2.heap.size, 0, none⟩) 0 0) 0 [] := ⟨rfl, .inr ⟨_, 0, #[], rfl, Nat.le_refl _, World.alloc_heap_new w2 _, Nat.le_refl _, Nat.zero_le _, rfl, rfl⟩⟩))
                | (at_builtin; refine wpList_append_own _ rfl (Operand.tmp 78) (Operand.tmp 79) _ rfl w2.heap.size 32 i32 (.agg #[.string ⟨#[]⟩, .bool false]) 2 24 Try.underlying30 hi hz0 hz1 hz2 rfl (by decide) (.slice (some ⟨w2.heap.size, 0, none⟩) 0 0) 0 [] rfl own0 adL L.length cA (rowLines L) rfl (rowLines_len _) (HcL.out _ kA) rowLines_one (by omega) (by omega) (by simp) ?_; intro v1 w3 hown3 hgrow3 hnil3; have k3 : Below w.heap.size w w3 := kA.grown hgrow3 kA.size (fun k hk => by simp [Value.ownBlock] at hk; subst hk; exact k2.size); rw [Nat.zero_add, List.nil_append] at hown3; obtain ⟨g3, c3, rfl⟩ := own_some' hown3 (fun h => by have h2 := (hnil3.1 h).1; cases h2); skip)
                | (at_builtin; refine wpList_append_own _ rfl (Operand.tmp 80) (Operand.tmp 81) _ rfl w2.heap.size 32 i32 (.agg #[.string ⟨#[]⟩, .bool false]) 2 24 Try.underlying30 hi hz0 hz1 hz2 rfl (by decide) (.slice (some ⟨g3, 0, none⟩) L.length c3) L.length (rowLines L) rfl hown3 ⟨gm, om, none⟩ M.length cB (rowLines M) rfl (rowLines_len _) (HcM.out _ k3) rowLines_one (by omega) (by omega) (by have := hgrow3.size; simp at this; omega) ?_; intro v2 w4 hown4 hgrow4 _; have kz : Below w.heap.size w w4 := k3.grown hgrow4 k3.size (fun k hk => Nat.le_trans k2.size (own_ge2 hown3 k hk)); rw [← rowLines_append, ← List.length_append] at hown4; have F2c := F2 _ _ (lines_of_row (L := L ++ M) (base := w2.heap.size) (w := w4) hown4 Hs.out)))
              go_ret
              exact ⟨rfl, k6⟩
        · obtain ⟨e2, i, x, e1, hx, hglob⟩ := firstL_some L p.data.toList 0 hn
          rw [Nat.add_zero] at e1
          have e3 := e2 M
          obtain ⟨b, hbe⟩ : ∃ b, (firstL L p.data.toList 0).2 = b := ⟨_, rfl⟩
          obtain ⟨kk, hkk⟩ : ∃ kk, (firstL M p.data.toList 0).1 = kk := ⟨_, rfl⟩
          obtain ⟨lt, hlt⟩ : ∃ lt, (firstL M p.data.toList 0).2 = lt := ⟨_, rfl⟩
          simp only [e3, e1, hbe] at F2
          simp only [e1, hbe] at F1
          simp only [hkk, hlt] at F3
          have hil : i < L.length := (List.getElem?_eq_some_iff.1 hx).1
          have hil' : (i : Int) < (L.length : Int) := by omega
          have hLpos : 0 < L.length := by omega
          have MA := match_any x.1 p
          rw [hglob] at MA
          have HF1 := Lib.hid F1
          have HF3 := Lib.hid F3
          have hxs := HsA.out x (List.mem_of_getElem? hx)
          obtain ⟨g, hg⟩ : ∃ g, x.1 = g := ⟨_, rfl⟩
          obtain ⟨gl, o, rfl, hcell⟩ := HcA.out hLpos
          have He0 := Lib.hid (hcell i x hx).1
          rw [hg] at He0 MA hxs
          have HcL := Lib.hid (lines_cells (ad := ⟨gl, o, none⟩) HcA.out)
          clear F1 F3 e1 e2 e3 hn hbe hkk hlt hx hglob hg hcell
          rcases NM.out with hM0 | ⟨adM, _, _, hM0⟩
          · simp only [Value.slice.injEq] at hM0
            obtain ⟨rfl, hM1, rfl⟩ := hM0
            obtain rfl : M = [] := List.length_eq_zero_iff.1 hM1
            simp only [List.length_nil] at HF3 ⊢
            go_wp2_with (first
              | (go_at_call 17; first | (have hx := k5; (with_reducible refine (HF3.out _ k5).mono ?_); rintro e w6 ⟨rfl, hb6⟩; have k6 := bchain k5 k5.size hb6; have c0 : w6.cell? ⟨gl, o + i * 2, none⟩ = some (.string g) := keep_cell k6 He0.out) | (have hx := F2c; (with_reducible refine F2c.mono ?_); rintro e w5 ⟨rfl, hb5⟩; have k5 := bchain kz kz.size hb5) | ((with_reducible refine (HF1.out _ hb1).mono ?_); rintro e w2 ⟨rfl, hb2⟩; have k2 := bchain hb1 hb1.size hb2; have kA := k2.alloc k2.size (Obj.cells #[] 32); have own0 : (w2.alloc (Obj.cells #[] 32)).ownsRow w2.heap.size 32 2 (.slice (some ⟨w2.heap.size, 0, none⟩) 0 0) 0 [] := ⟨rfl, .inr ⟨_, 0, #[], rfl, Nat.le_refl _, World.alloc_heap_new w2 _, Nat.le_refl _, Nat.zero_le _, rfl, rfl⟩⟩))
              | (at_builtin; refine wpList_append_own _ rfl (Operand.tmp 78) (Operand.tmp 79) _ rfl w2.heap.size 32 i32 (.agg #[.string ⟨#[]⟩, .bool false]) 2 24 Try.underlying30 hi hz0 hz1 hz2 rfl (by decide) (.slice (some ⟨w2.heap.size, 0, none⟩) 0 0) 0 [] rfl own0 ⟨gl, o, none⟩ L.length cA (rowLines L) rfl (rowLines_len _) (HcL.out _ kA) rowLines_one (by omega) (by omega) (by simp) ?_; intro v1 w3 hown3 hgrow3 hnil3; have k3 : Below w.heap.size w w3 := kA.grown hgrow3 kA.size (fun k hk => by simp [Value.ownBlock] at hk; subst hk; exact k2.size); rw [Nat.zero_add, List.nil_append] at hown3; obtain ⟨g3, c3, rfl⟩ := own_some' hown3 (fun h => by have h2 := (hnil3.1 h).1; cases h2); have F2c := F2 _ _ (lines_of_row (L := L ++ []) (base := w2.heap.size) (w := w3) (by rw [List.append_nil]; exact hown3) Hs.out); have kz := k3)
              | (at_builtin; refine wpList_append_own_none rfl (Operand.tmp 80) (Operand.tmp 81) _ rfl w2.heap.size 32 i32 2 Try.underlying30 hi _ L.length (rowLines L) rfl hown3 rfl ?_)
              | (go_at_call 13; (with_reducible refine (MA _).mono ?_); rintro e w7 ⟨rfl, hb7⟩))
            go_ret
            exact ⟨rfl, bchain k6 k6.size hb7⟩
          · simp only [Value.slice.injEq] at hM0
            obtain ⟨rfl, -, -⟩ := hM0
            have HcM := Lib.hid (lines_cells HcB.out)
            go_wp2_with (first
              | (go_at_call 17; first | (have hx := k5; (with_reducible refine (HF3.out _ k5).mono ?_); rintro e w6 ⟨rfl, hb6⟩; have k6 := bchain k5 k5.size hb6; have c0 : w6.cell? ⟨gl, o + i * 2, none⟩ = some (.string g) := keep_cell k6 He0.out) | (have hx := F2c; (with_reducible refine F2c.mono ?_); rintro e w5 ⟨rfl, hb5⟩; have k5 := bchain kz kz.size hb5) | ((with_reducible refine (HF1.out _ hb1).mono ?_); rintro e w2 ⟨rfl, hb2⟩; have k2 := bchain hb1 hb1.size hb2; have kA := k2.alloc k2.size (Obj.cells #[] 32); have own0 : (w2.alloc (Obj.cells #[] 32)).ownsRow w2.heap.size 32 2 (.slice (some ⟨w2.heap.size, 0, none⟩) 0 0) 0 [] := ⟨rfl, .inr ⟨_, 0, #[], rfl, Nat.le_refl _, World.alloc_heap_new w2 _, Nat.le_refl _, Nat.zero_le _, rfl, rfl⟩⟩))
              | (at_builtin; refine wpList_append_own _ rfl (Operand.tmp 78) (Operand.tmp 79) _ rfl w2.heap.size 32 i32 (.agg #[.string ⟨#[]⟩, .bool false]) 2 24 Try.underlying30 hi hz0 hz1 hz2 rfl (by decide) (.slice (some ⟨w2.heap.size, 0, none⟩) 0 0) 0 [] rfl own0 ⟨gl, o, none⟩ L.length cA (rowLines L) rfl (rowLines_len _) (HcL.out _ kA) rowLines_one (by omega) (by omega) (by simp) ?_; intro v1 w3 hown3 hgrow3 hnil3; have k3 : Below w.heap.size w w3 := kA.grown hgrow3 kA.size (fun k hk => by simp [Value.ownBlock] at hk; subst hk; exact k2.size); rw [Nat.zero_add, List.nil_append] at hown3; obtain ⟨g3, c3, rfl⟩ := own_some' hown3 (fun h => by have h2 := (hnil3.1 h).1; cases h2); skip)
              | (at_builtin; refine wpList_append_own _ rfl (Operand.tmp 80) (Operand.tmp 81) _ rfl w2.heap.size 32 i32 (.agg #[.string ⟨#[]⟩, .bool false]) 2 24 Try.underlying30 hi hz0 hz1 hz2 rfl (by decide) (.slice (some ⟨g3, 0, none⟩) L.length c3) L.length (rowLines L) rfl hown3 adM M.length cB (rowLines M) rfl (rowLines_len _) (HcM.out _ k3) rowLines_one (by omega) (by omega) (by have := hgrow3.size; simp at this; omega) ?_; intro v2 w4 hown4 hgrow4 _; have kz : Below w.heap.size w w4 := k3.grown hgrow4 k3.size (fun k hk => Nat.le_trans k2.size (own_ge2 hown3 k hk)); rw [← rowLines_append, ← List.length_append] at hown4; have F2c := F2 _ _ (lines_of_row (L := L ++ M) (base := w2.heap.size) (w := w4) hown4 Hs.out))
              | (go_at_call 13; (with_reducible refine (MA _).mono ?_); rintro e w7 ⟨rfl, hb7⟩))
            go_ret
            exact ⟨rfl, bchain k6 k6.size hb7⟩

theorem law_behind (v u : Value) (L M : List (ByteArray × Bool)) (p : ByteArray) (w : World) (hL : LinesAt w v L) (hM : LinesAt w u M) (nL : Nilly v) (nM : Nilly u) : Calls Try.prog 9 #[v, u, .string p] w (Ret (.bool true) w) := by
  by_cases h : (20 : Int) < (L.length : Int) ∨ (20 : Int) < (M.length : Int) ∨ (256 : Int) < (p.size : Int)
  · exact law_behind_long v u L M p w hL hM h
  · exact law_behind_short v u L M p w hL hM nL nM (by omega) (by omega) (by omega)
end Go.Proofs.Ytcmogmplfigikaa
