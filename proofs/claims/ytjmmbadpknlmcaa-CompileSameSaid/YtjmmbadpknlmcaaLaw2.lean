/- CompileRight, CompileSame: whatever the rules, the law returns true. Conditions: the rules can be read; their numbers are of their kinds. -/
import Derived.Test.YtjmmbadpknlmcaaUse
import Derived.BigQuiet
namespace Go.Proofs.Ytjmmbadpknlmcaa
open Go.RowKit
set_option linter.unusedVariables false
set_option linter.unusedSimpArgs false
set_option maxRecDepth 100000

theorem rd_nil (w : World) : InsRd w (.slice none 0 0) [] := ⟨none, 0, rfl, Nat.le_refl _, by decide, fun h => absurd h (by simp)⟩
set_option maxHeartbeats 4000000 in
theorem same_rd (v1 v2 : Value) (P : List Ins) (w : World) (h1 : InsRd w v1 P) (h2 : InsRd w v2 P) (hP : P.length ≤ 100000) : Calls Try.prog 14 #[v1, v2] w (Ret (.bool true) w) := by
  obtain ⟨A1, c1, rfl⟩ : ∃ A c, v1 = .slice A P.length c := by obtain ⟨A, c, e, _⟩ := h1; exact ⟨A, c, e⟩
  obtain ⟨A2, c2, rfl⟩ : ∃ A c, v2 = .slice A P.length c := by obtain ⟨A, c, e, _⟩ := h2; exact ⟨A, c, e⟩
  obtain ⟨n, hn⟩ : ∃ n, P.length = n := ⟨_, rfl⟩
  rw [hn] at h1 h2 hP ⊢
  have H1 := Lib.hid h1
  have H2 := Lib.hid h2
  have Hn := Lib.hid hn
  clear h1 h2 hn
  go_enter Try.func14, Try.ntmps14
  go_wp2
  go_loopw [5] (fun i wr => ∃ j : Nat, j ≤ n ∧ i = .int .i64 j ∧ Below w.heap.size w wr) (fun i _ => n - (intOf i).toNat)
  case atStart => exact ⟨0, by omega, rfl, Below.refl _ _⟩
  case round =>
    obtain ⟨j, hj, rfl, hb⟩ := hrel
    by_cases hlt : j < n
    case neg =>
      obtain rfl : j = n := by omega
      go_wp2
      go_ret
      exact ⟨rfl, hb⟩
    obtain ⟨x, hx⟩ : ∃ x, P[j]? = some x := ⟨_, List.getElem?_eq_getElem (by rw [Hn.out]; omega)⟩
    obtain ⟨g1, o1, rfl, q0, q1, q2, q3⟩ := rd_cells (H1.out.below hb) hx
    obtain ⟨g2, o2, rfl, p0, p1, p2, p3⟩ := rd_cells (H2.out.below hb) hx
    have hlt' : (j : Int) < n := by omega
    clear hx
    obtain ⟨xc, xt, xf, xk⟩ := x
    simp only at q0 q1 q2 q3 p0 p1 p2 p3
    go_wp2
    go_quiet (fail)
    go_wp2
    go_roundw
    case rel => exact ⟨j + 1, by omega, by go_num, below_drewR hb _⟩
    case measure => (simp [intOf] <;> omega)
set_option maxHeartbeats 8000000 in
theorem law_right (k a : Int) (lv : Value) (L : List Rul) (w : World) (hL : RulsAt w lv L) (hw : WfL L) : Calls Try.prog 4 #[.agg #[.int .i64 k, .int .i64 a, lv]] w (Ret (.bool true) w) := by
  obtain ⟨A0, c0, rfl⟩ := hL.form
  have HL := Lib.hid (fun W (hb : Below w.heap.size w W) => ruls_below hb hL)
  have LT := Lib.hid (fun W hb => light_any k a _ L W (HL.out W hb))
  have AW := Lib.hid (fun W => awake_any W)
  have r0 := new_cell w #[.int .i64 k, .int .i64 a, .slice A0 L.length c0] 26 0 rfl
  have r1 := new_cell w #[.int .i64 k, .int .i64 a, .slice A0 L.length c0] 26 1 rfl
  have r2 := new_cell w #[.int .i64 k, .int .i64 a, .slice A0 L.length c0] 26 2 rfl
  have hb0 := below_alloc w (.cells #[.int .i64 k, .int .i64 a, .slice A0 L.length c0] 26)
  obtain ⟨n, hn⟩ : ∃ n, L.length = n := ⟨_, rfl⟩
  rw [hn] at HL LT r0 r1 r2 hb0 ⊢
  obtain ⟨W0, hW0⟩ : ∃ W, w.alloc (.cells #[.int .i64 k, .int .i64 a, .slice A0 n c0] 26) = W := ⟨_, rfl⟩
  rw [hW0] at hb0 r0 r1 r2
  have HB0 := Lib.hid hb0
  obtain ⟨y, hy⟩ : ∃ y, lightB L = y := ⟨_, rfl⟩
  rw [hy] at LT
  have AA : ∀ W, Below W0.heap.size W0 W → Below w.heap.size w W := fun W hb => HB0.out.trans (hb.mono HB0.out.size)
  have HAA := Lib.hid AA
  cases y with
  | false =>
    clear hn hb0 hy AA
    go_enter Try.func4, Try.ntmps4
    go_wp2_with (first
      | (go_at_call 8; (with_reducible refine (AW.out _).mono ?_); rintro e_ w1 ⟨rfl, hb1⟩; have s0 := keep_cell hb1 r0; have s1 := keep_cell hb1 r1; have s2 := keep_cell hb1 r2; have B1 := Lib.hid hb1; clear hb1)
      | (go_at_call 9; (with_reducible refine (LT.out _ (HAA.out _ B1.out)).mono ?_); rintro e_ w2 ⟨rfl, hb2⟩; have t0 := keep_cell hb2 s0; have t1 := keep_cell hb2 s1; have t2 := keep_cell hb2 s2; have B2 := Lib.hid (B1.out.trans (hb2.mono B1.out.size)); clear hb2))
    go_ret
    exact ⟨rfl, HAA.out _ B2.out⟩
  | true =>
    obtain ⟨f1, hf1⟩ : ∃ f, (checkV k a L).1 = f := ⟨_, rfl⟩
    by_cases h0 : f1 = 0
    · subst h0
      have hfit := fit_of hf1 hw
      obtain ⟨m, hm⟩ : ∃ m, (compL k a L).length = m := ⟨_, rfl⟩
      by_cases hlong : m ≤ 4096
      · have CP := Lib.hid (fun W hb => compile_ok (HL.out W hb) hy hw hf1 hm hlong)
        have CK : Hid (∀ v W, InsRd W v (compL k a L) → Calls Try.prog 13 #[v] W (Ret (.tuple #[.int .i64 0, .int .i64 (-1)]) W)) := Lib.hid (fun v W hr => check_fine v _ W hr (fine_comp (fun r hr => (hfit.2 r hr).2.2.2)) (comp_len0 k a L) (by omega))
        clear hn hb0 hy AA hf1 hfit hm
        go_enter Try.func4, Try.ntmps4
        go_wp2_with (first
          | (go_at_call 8; (with_reducible refine (AW.out _).mono ?_); rintro e_ w1 ⟨rfl, hb1⟩; have s0 := keep_cell hb1 r0; have s1 := keep_cell hb1 r1; have s2 := keep_cell hb1 r2; have B1 := Lib.hid hb1; clear hb1)
          | (go_at_call 9; (with_reducible refine (LT.out _ (HAA.out _ B1.out)).mono ?_); rintro e_ w2 ⟨rfl, hb2⟩; have t0 := keep_cell hb2 s0; have t1 := keep_cell hb2 s1; have t2 := keep_cell hb2 s2; have B2 := Lib.hid (B1.out.trans (hb2.mono B1.out.size)); clear hb2)
          | (go_at_call 10; (with_reducible refine (CP.out _ (HAA.out _ B2.out)).mono ?_); rintro e_ w3 ⟨A3, c3, rfl, hr3, hb3⟩; have u0 := keep_cell hb3 t0; have u1 := keep_cell hb3 t1; have u2 := keep_cell hb3 t2; have Hr3 := Lib.hid hr3; have B3 := Lib.hid (B2.out.trans (hb3.mono B2.out.size)); clear hb3 hr3)
          | (go_at_call 13; (with_reducible refine (CK.out _ _ Hr3.out).mono ?_); rintro e_ w4 ⟨rfl, hb4⟩; have B4 := Lib.hid (B3.out.trans (hb4.mono B3.out.size)); clear hb4))
        go_ret
        exact ⟨rfl, HAA.out _ B4.out⟩
      · have CP := Lib.hid (fun W hb => compile_long (k := k) (a := a) (HL.out W hb) hy hw hf1 (by omega))
        clear hn hb0 hy AA hf1 hfit hm
        go_enter Try.func4, Try.ntmps4
        go_wp2_with (first
          | (go_at_call 8; (with_reducible refine (AW.out _).mono ?_); rintro e_ w1 ⟨rfl, hb1⟩; have s0 := keep_cell hb1 r0; have s1 := keep_cell hb1 r1; have s2 := keep_cell hb1 r2; have B1 := Lib.hid hb1; clear hb1)
          | (go_at_call 9; (with_reducible refine (LT.out _ (HAA.out _ B1.out)).mono ?_); rintro e_ w2 ⟨rfl, hb2⟩; have t0 := keep_cell hb2 s0; have t1 := keep_cell hb2 s1; have t2 := keep_cell hb2 s2; have B2 := Lib.hid (B1.out.trans (hb2.mono B1.out.size)); clear hb2)
          | (go_at_call 10; (with_reducible refine (CP.out _ (HAA.out _ B2.out)).mono ?_); rintro e_ w3 ⟨rfl, hb3⟩; have u0 := keep_cell hb3 t0; have u1 := keep_cell hb3 t1; have u2 := keep_cell hb3 t2; have B3 := Lib.hid (B2.out.trans (hb3.mono B2.out.size)); clear hb3))
        go_ret
        exact ⟨rfl, HAA.out _ B3.out⟩
    · have CP := Lib.hid (fun W hb => compile_err (HL.out W hb) hy hw hf1 h0)
      have hfE : (f1 == 0) = false := by simpa using h0
      clear hn hb0 hy AA hf1
      go_enter Try.func4, Try.ntmps4
      go_wp2_with (first
        | (go_at_call 8; (with_reducible refine (AW.out _).mono ?_); rintro e_ w1 ⟨rfl, hb1⟩; have s0 := keep_cell hb1 r0; have s1 := keep_cell hb1 r1; have s2 := keep_cell hb1 r2; have B1 := Lib.hid hb1; clear hb1)
        | (go_at_call 9; (with_reducible refine (LT.out _ (HAA.out _ B1.out)).mono ?_); rintro e_ w2 ⟨rfl, hb2⟩; have t0 := keep_cell hb2 s0; have t1 := keep_cell hb2 s1; have t2 := keep_cell hb2 s2; have B2 := Lib.hid (B1.out.trans (hb2.mono B1.out.size)); clear hb2)
        | (go_at_call 10; (with_reducible refine (CP.out _ (HAA.out _ B2.out)).mono ?_); rintro e_ w3 ⟨rfl, hb3⟩; have u0 := keep_cell hb3 t0; have u1 := keep_cell hb3 t1; have u2 := keep_cell hb3 t2; have B3 := Lib.hid (B2.out.trans (hb3.mono B2.out.size)); clear hb3))
      go_ret
      exact ⟨rfl, HAA.out _ B3.out⟩
set_option maxHeartbeats 8000000 in
theorem law_same (k a : Int) (lv : Value) (L : List Rul) (w : World) (hL : RulsAt w lv L) (hw : WfL L) : Calls Try.prog 5 #[.agg #[.int .i64 k, .int .i64 a, lv]] w (Ret (.bool true) w) := by
  obtain ⟨A0, c0, rfl⟩ := hL.form
  have HL := Lib.hid (fun W (hb : Below w.heap.size w W) => ruls_below hb hL)
  have LT := Lib.hid (fun W hb => light_any k a _ L W (HL.out W hb))
  have AW := Lib.hid (fun W => awake_any W)
  have r0 := new_cell w #[.int .i64 k, .int .i64 a, .slice A0 L.length c0] 26 0 rfl
  have r1 := new_cell w #[.int .i64 k, .int .i64 a, .slice A0 L.length c0] 26 1 rfl
  have r2 := new_cell w #[.int .i64 k, .int .i64 a, .slice A0 L.length c0] 26 2 rfl
  have hb0 := below_alloc w (.cells #[.int .i64 k, .int .i64 a, .slice A0 L.length c0] 26)
  obtain ⟨n, hn⟩ : ∃ n, L.length = n := ⟨_, rfl⟩
  rw [hn] at HL LT r0 r1 r2 hb0 ⊢
  obtain ⟨W0, hW0⟩ : ∃ W, w.alloc (.cells #[.int .i64 k, .int .i64 a, .slice A0 n c0] 26) = W := ⟨_, rfl⟩
  rw [hW0] at hb0 r0 r1 r2
  have HB0 := Lib.hid hb0
  obtain ⟨y, hy⟩ : ∃ y, lightB L = y := ⟨_, rfl⟩
  rw [hy] at LT
  have AA : ∀ W, Below W0.heap.size W0 W → Below w.heap.size w W := fun W hb => HB0.out.trans (hb.mono HB0.out.size)
  have HAA := Lib.hid AA
  cases y with
  | false =>
    clear hn hb0 hy AA
    go_enter Try.func5, Try.ntmps5
    go_wp2_with (first
      | (go_at_call 8; (with_reducible refine (AW.out _).mono ?_); rintro e_ w1 ⟨rfl, hb1⟩; have s0 := keep_cell hb1 r0; have s1 := keep_cell hb1 r1; have s2 := keep_cell hb1 r2; have B1 := Lib.hid hb1; clear hb1)
      | (go_at_call 9; (with_reducible refine (LT.out _ (HAA.out _ B1.out)).mono ?_); rintro e_ w2 ⟨rfl, hb2⟩; have t0 := keep_cell hb2 s0; have t1 := keep_cell hb2 s1; have t2 := keep_cell hb2 s2; have B2 := Lib.hid (B1.out.trans (hb2.mono B1.out.size)); clear hb2))
    go_ret
    exact ⟨rfl, HAA.out _ B2.out⟩
  | true =>
    obtain ⟨f1, hf1⟩ : ∃ f, (checkV k a L).1 = f := ⟨_, rfl⟩
    by_cases h0 : f1 = 0
    · subst h0
      have hfit := fit_of hf1 hw
      obtain ⟨m, hm⟩ : ∃ m, (compL k a L).length = m := ⟨_, rfl⟩
      by_cases hlong : m ≤ 4096
      · have CP := Lib.hid (fun W hb => compile_ok (HL.out W hb) hy hw hf1 hm hlong)
        have SM : Hid (∀ v1 v2 W, InsRd W v1 (compL k a L) → InsRd W v2 (compL k a L) → Calls Try.prog 14 #[v1, v2] W (Ret (.bool true) W)) := Lib.hid (fun v1 v2 W h1 h2 => same_rd v1 v2 _ W h1 h2 (by omega))
        clear hn hb0 hy AA hf1 hfit hm
        go_enter Try.func5, Try.ntmps5
        go_wp2_with (first
          | (go_at_call 8; (with_reducible refine (AW.out _).mono ?_); rintro e_ w1 ⟨rfl, hb1⟩; have s0 := keep_cell hb1 r0; have s1 := keep_cell hb1 r1; have s2 := keep_cell hb1 r2; have B1 := Lib.hid hb1; clear hb1)
          | (go_at_call 9; (with_reducible refine (LT.out _ (HAA.out _ B1.out)).mono ?_); rintro e_ w2 ⟨rfl, hb2⟩; have t0 := keep_cell hb2 s0; have t1 := keep_cell hb2 s1; have t2 := keep_cell hb2 s2; have B2 := Lib.hid (B1.out.trans (hb2.mono B1.out.size)); clear hb2)
          | (go_at_call 10; (with_reducible refine (CP.out _ (HAA.out _ B2.out)).mono ?_); rintro e_ w3 ⟨A3, c3, rfl, hr3, hb3⟩; have u0 := keep_cell hb3 t0; have u1 := keep_cell hb3 t1; have u2 := keep_cell hb3 t2; have Hr3 := Lib.hid hr3; have B3 := Lib.hid (B2.out.trans (hb3.mono B2.out.size)); clear hb3 hr3)
          | (go_at_call 10; (with_reducible refine (CP.out _ (HAA.out _ B3.out)).mono ?_); rintro e_ w4 ⟨A4, c4, rfl, hr4, hb4⟩; have Hr4 := Lib.hid hr4; have Hr3' := Lib.hid (Hr3.out.below hb4); have B4 := Lib.hid (B3.out.trans (hb4.mono B3.out.size)); clear hb4 hr4)
          | (go_at_call 14; (with_reducible refine (SM.out _ _ _ Hr3'.out Hr4.out).mono ?_); rintro e_ w5 ⟨rfl, hb5⟩; have B5 := Lib.hid (B4.out.trans (hb5.mono B4.out.size)); clear hb5))
        go_ret
        exact ⟨rfl, HAA.out _ B5.out⟩
      · have CP := Lib.hid (fun W hb => compile_long (k := k) (a := a) (HL.out W hb) hy hw hf1 (by omega))
        clear hn hb0 hy AA hf1 hfit hm
        go_enter Try.func5, Try.ntmps5
        go_wp2_with (first
          | (go_at_call 8; (with_reducible refine (AW.out _).mono ?_); rintro e_ w1 ⟨rfl, hb1⟩; have s0 := keep_cell hb1 r0; have s1 := keep_cell hb1 r1; have s2 := keep_cell hb1 r2; have B1 := Lib.hid hb1; clear hb1)
          | (go_at_call 9; (with_reducible refine (LT.out _ (HAA.out _ B1.out)).mono ?_); rintro e_ w2 ⟨rfl, hb2⟩; have t0 := keep_cell hb2 s0; have t1 := keep_cell hb2 s1; have t2 := keep_cell hb2 s2; have B2 := Lib.hid (B1.out.trans (hb2.mono B1.out.size)); clear hb2)
          | (go_at_call 10; (with_reducible refine (CP.out _ (HAA.out _ B2.out)).mono ?_); rintro e_ w3 ⟨rfl, hb3⟩; have u0 := keep_cell hb3 t0; have u1 := keep_cell hb3 t1; have u2 := keep_cell hb3 t2; have B3 := Lib.hid (B2.out.trans (hb3.mono B2.out.size)); clear hb3)
          | (go_at_call 10; (with_reducible refine (CP.out _ (HAA.out _ B3.out)).mono ?_); rintro e_ w4 ⟨rfl, hb4⟩; have B4 := Lib.hid (B3.out.trans (hb4.mono B3.out.size)); clear hb4)
          | (go_at_call 14; (with_reducible refine (same_rd _ _ [] _ (rd_nil _) (rd_nil _) (by decide)).mono ?_); rintro e_ w5 ⟨rfl, hb5⟩; have B5 := Lib.hid (B4.out.trans (hb5.mono B4.out.size)); clear hb5))
        go_ret
        exact ⟨rfl, HAA.out _ B5.out⟩
    · have CP := Lib.hid (fun W hb => compile_err (HL.out W hb) hy hw hf1 h0)
      have hfE : (f1 == 0) = false := by simpa using h0
      clear hn hb0 hy AA hf1
      go_enter Try.func5, Try.ntmps5
      go_wp2_with (first
        | (go_at_call 8; (with_reducible refine (AW.out _).mono ?_); rintro e_ w1 ⟨rfl, hb1⟩; have s0 := keep_cell hb1 r0; have s1 := keep_cell hb1 r1; have s2 := keep_cell hb1 r2; have B1 := Lib.hid hb1; clear hb1)
        | (go_at_call 9; (with_reducible refine (LT.out _ (HAA.out _ B1.out)).mono ?_); rintro e_ w2 ⟨rfl, hb2⟩; have t0 := keep_cell hb2 s0; have t1 := keep_cell hb2 s1; have t2 := keep_cell hb2 s2; have B2 := Lib.hid (B1.out.trans (hb2.mono B1.out.size)); clear hb2)
        | (go_at_call 10; (with_reducible refine (CP.out _ (HAA.out _ B2.out)).mono ?_); rintro e_ w3 ⟨rfl, hb3⟩; have u0 := keep_cell hb3 t0; have u1 := keep_cell hb3 t1; have u2 := keep_cell hb3 t2; have B3 := Lib.hid (B2.out.trans (hb3.mono B2.out.size)); clear hb3)
        | (go_at_call 10; (with_reducible refine (CP.out _ (HAA.out _ B3.out)).mono ?_); rintro e_ w4 ⟨rfl, hb4⟩; have B4 := Lib.hid (B3.out.trans (hb4.mono B3.out.size)); clear hb4)
        | (go_at_call 14; (with_reducible refine (same_rd _ _ [] _ (rd_nil _) (rd_nil _) (by decide)).mono ?_); rintro e_ w5 ⟨rfl, hb5⟩; have B5 := Lib.hid (B4.out.trans (hb5.mono B4.out.size)); clear hb5))
      go_ret
      exact ⟨rfl, HAA.out _ B5.out⟩
end Go.Proofs.Ytjmmbadpknlmcaa
