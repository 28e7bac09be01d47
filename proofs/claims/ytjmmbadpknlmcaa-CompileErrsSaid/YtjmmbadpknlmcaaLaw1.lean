/- CompileErrs, CompileRight: whatever the rules, the law returns true. Conditions: the rules can be read; their numbers are of their kinds. -/
import Derived.Test.YtjmmbadpknlmcaaUse
import Derived.Test.YtjmmbadpknlmcaaSem
namespace Go.Proofs.Ytjmmbadpknlmcaa
open Go.RowKit
set_option linter.unusedVariables false
set_option linter.unusedSimpArgs false
set_option maxRecDepth 100000

set_option maxHeartbeats 8000000 in
theorem law_errs (k a : Int) (lv : Value) (L : List Rul) (w : World) (hL : RulsAt w lv L) (hw : WfL L) : Calls Try.prog 3 #[.agg #[.int .i64 k, .int .i64 a, lv]] w (Ret (.bool true) w) := by
  obtain ⟨A0, c0, rfl⟩ := hL.form
  have HL := Lib.hid (fun W (hb : Below w.heap.size w W) => ruls_below hb hL)
  have LT := Lib.hid (fun W hb => light_any k a _ L W (HL.out W hb))
  have AW := Lib.hid (fun W => awake_any W)
  have RC := Lib.hid (fun W hb => ref_check_any k a _ L W (HL.out W hb))
  have r0 := new_cell w #[.int .i64 k, .int .i64 a, .slice A0 L.length c0] 26 0 rfl
  have r1 := new_cell w #[.int .i64 k, .int .i64 a, .slice A0 L.length c0] 26 1 rfl
  have r2 := new_cell w #[.int .i64 k, .int .i64 a, .slice A0 L.length c0] 26 2 rfl
  have hb0 := below_alloc w (.cells #[.int .i64 k, .int .i64 a, .slice A0 L.length c0] 26)
  obtain ⟨n, hn⟩ : ∃ n, L.length = n := ⟨_, rfl⟩
  rw [hn] at HL LT RC r0 r1 r2 hb0 ⊢
  obtain ⟨W0, hW0⟩ : ∃ W, w.alloc (.cells #[.int .i64 k, .int .i64 a, .slice A0 n c0] 26) = W := ⟨_, rfl⟩
  rw [hW0] at hb0 r0 r1 r2
  have HB0 := Lib.hid hb0
  obtain ⟨y, hy⟩ : ∃ y, lightB L = y := ⟨_, rfl⟩
  rw [hy] at LT
  have AA : ∀ W, Below W0.heap.size W0 W → Below w.heap.size w W := fun W hb => HB0.out.trans (hb.mono HB0.out.size)
  have HAA := Lib.hid AA
  cases y with
  | false =>
    clear hn hb0 hy AA
    go_enter Try.func3, Try.ntmps3
    go_wp2_with (first
      | (go_at_call 8; (with_reducible refine (AW.out _).mono ?_); rintro e_ w1 ⟨rfl, hb1⟩; have s0 := keep_cell hb1 r0; have s1 := keep_cell hb1 r1; have s2 := keep_cell hb1 r2; have B1 := Lib.hid hb1; clear hb1)
      | (go_at_call 9; (with_reducible refine (LT.out _ (HAA.out _ B1.out)).mono ?_); rintro e_ w2 ⟨rfl, hb2⟩; have B2 := Lib.hid (B1.out.trans (hb2.mono B1.out.size)); clear hb2))
    go_ret
    exact ⟨rfl, HAA.out _ B2.out⟩
  | true =>
    obtain ⟨f1, hf1⟩ : ∃ f, (checkV k a L).1 = f := ⟨_, rfl⟩
    obtain ⟨f2, hf2⟩ : ∃ f, (checkV k a L).2 = f := ⟨_, rfl⟩
    have hRC : Hid (∀ W, Below w.heap.size w W → Calls Try.prog 11 #[.agg #[.int .i64 k, .int .i64 a, .slice A0 n c0]] W (Ret (.tuple #[.int .i64 f1, .int .i64 f2]) W)) := Lib.hid (fun W hb => by rw [← hf1, ← hf2]; exact RC.out W hb)
    by_cases h0 : f1 = 0
    · subst h0
      have hfit := fit_of hf1 hw
      obtain ⟨m, hm⟩ : ∃ m, (compL k a L).length = m := ⟨_, rfl⟩
      by_cases hlong : m ≤ 4096
      · have CP := Lib.hid (fun W hb => compile_ok (HL.out W hb) hy hw hf1 hm hlong)
        have hpos : 0 < m := by have := comp_len0 k a L; omega
        have hposD : decide (0 < m) = true := by simpa using hpos
        clear hn hb0 hy AA hf1 hf2 hfit hm RC
        go_enter Try.func3, Try.ntmps3
        go_wp2_with (first
          | (go_at_call 8; (with_reducible refine (AW.out _).mono ?_); rintro e_ w1 ⟨rfl, hb1⟩; have s0 := keep_cell hb1 r0; have s1 := keep_cell hb1 r1; have s2 := keep_cell hb1 r2; have B1 := Lib.hid hb1; clear hb1)
          | (go_at_call 9; (with_reducible refine (LT.out _ (HAA.out _ B1.out)).mono ?_); rintro e_ w2 ⟨rfl, hb2⟩; have t0 := keep_cell hb2 s0; have t1 := keep_cell hb2 s1; have t2 := keep_cell hb2 s2; have B2 := Lib.hid (B1.out.trans (hb2.mono B1.out.size)); clear hb2)
          | (go_at_call 10; (with_reducible refine (CP.out _ (HAA.out _ B2.out)).mono ?_); rintro e_ w3 ⟨A3, c3, rfl, _, hb3⟩; have u0 := keep_cell hb3 t0; have u1 := keep_cell hb3 t1; have u2 := keep_cell hb3 t2; have B3 := Lib.hid (B2.out.trans (hb3.mono B2.out.size)); clear hb3)
          | (go_at_call 11; (with_reducible refine (hRC.out _ (HAA.out _ B3.out)).mono ?_); rintro e_ w4 ⟨rfl, hb4⟩; have B4 := Lib.hid (B3.out.trans (hb4.mono B3.out.size)); clear hb4))
        go_ret
        exact ⟨rfl, HAA.out _ B4.out⟩
      · have CP := Lib.hid (fun W hb => compile_long (k := k) (a := a) (HL.out W hb) hy hw hf1 (by omega))
        have WT := Lib.hid (fun W hb => ref_weight_any k a _ L W (HL.out W hb) hy)
        obtain ⟨z, hz⟩ : ∃ z, (wtN L : Int) = z := ⟨_, rfl⟩
        have hzl : (4096 : Int) < z := by have := comp_weight k a L (fun r hr => (hfit.2 r hr).2.2.2.2); omega
        rw [hz] at WT
        clear hn hb0 hy AA hf1 hf2 hfit hm RC hz
        go_enter Try.func3, Try.ntmps3
        go_wp2_with (first
          | (go_at_call 8; (with_reducible refine (AW.out _).mono ?_); rintro e_ w1 ⟨rfl, hb1⟩; have s0 := keep_cell hb1 r0; have s1 := keep_cell hb1 r1; have s2 := keep_cell hb1 r2; have B1 := Lib.hid hb1; clear hb1)
          | (go_at_call 9; (with_reducible refine (LT.out _ (HAA.out _ B1.out)).mono ?_); rintro e_ w2 ⟨rfl, hb2⟩; have t0 := keep_cell hb2 s0; have t1 := keep_cell hb2 s1; have t2 := keep_cell hb2 s2; have B2 := Lib.hid (B1.out.trans (hb2.mono B1.out.size)); clear hb2)
          | (go_at_call 10; (with_reducible refine (CP.out _ (HAA.out _ B2.out)).mono ?_); rintro e_ w3 ⟨rfl, hb3⟩; have u0 := keep_cell hb3 t0; have u1 := keep_cell hb3 t1; have u2 := keep_cell hb3 t2; have B3 := Lib.hid (B2.out.trans (hb3.mono B2.out.size)); clear hb3)
          | (go_at_call 11; (with_reducible refine (hRC.out _ (HAA.out _ B3.out)).mono ?_); rintro e_ w4 ⟨rfl, hb4⟩; have v0 := keep_cell hb4 u0; have v1 := keep_cell hb4 u1; have v2 := keep_cell hb4 u2; have B4 := Lib.hid (B3.out.trans (hb4.mono B3.out.size)); clear hb4)
          | (go_at_call 12; (with_reducible refine (WT.out _ (HAA.out _ B4.out)).mono ?_); rintro e_ w5 ⟨rfl, hb5⟩; have B5 := Lib.hid (B4.out.trans (hb5.mono B4.out.size)); clear hb5))
        go_ret
        exact ⟨rfl, HAA.out _ B5.out⟩
    · have CP := Lib.hid (fun W hb => compile_err (HL.out W hb) hy hw hf1 h0)
      have hfE : (f1 == 0) = false := by simpa using h0
      clear hn hb0 hy AA hf1 hf2 RC
      go_enter Try.func3, Try.ntmps3
      go_wp2_with (first
        | (go_at_call 8; (with_reducible refine (AW.out _).mono ?_); rintro e_ w1 ⟨rfl, hb1⟩; have s0 := keep_cell hb1 r0; have s1 := keep_cell hb1 r1; have s2 := keep_cell hb1 r2; have B1 := Lib.hid hb1; clear hb1)
        | (go_at_call 9; (with_reducible refine (LT.out _ (HAA.out _ B1.out)).mono ?_); rintro e_ w2 ⟨rfl, hb2⟩; have t0 := keep_cell hb2 s0; have t1 := keep_cell hb2 s1; have t2 := keep_cell hb2 s2; have B2 := Lib.hid (B1.out.trans (hb2.mono B1.out.size)); clear hb2)
        | (go_at_call 10; (with_reducible refine (CP.out _ (HAA.out _ B2.out)).mono ?_); rintro e_ w3 ⟨rfl, hb3⟩; have u0 := keep_cell hb3 t0; have u1 := keep_cell hb3 t1; have u2 := keep_cell hb3 t2; have B3 := Lib.hid (B2.out.trans (hb3.mono B2.out.size)); clear hb3)
        | (go_at_call 11; (with_reducible refine (hRC.out _ (HAA.out _ B3.out)).mono ?_); rintro e_ w4 ⟨rfl, hb4⟩; have B4 := Lib.hid (B3.out.trans (hb4.mono B3.out.size)); clear hb4))
      go_ret
      exact ⟨rfl, HAA.out _ B4.out⟩
end Go.Proofs.Ytjmmbadpknlmcaa
