/- What a law may use: Compile by cases; how a program of rules runs; that awake is true. Conditions: the rules can be read; they are light; their numbers are of their kinds. -/
import Derived.Test.YtjmmbadpknlmcaaComp
import Derived.Test.YtjmmbadpknlmcaaVm
import Derived.Test.YtjmmbadpknlmcaaSem
import Derived.Test.YtjmmbadpknlmcaaDecide
namespace Go.Proofs.Ytjmmbadpknlmcaa
open Go.RowKit
set_option linter.unusedVariables false
set_option linter.unusedSimpArgs false
set_option maxRecDepth 100000

section
variable {k a : Int} {lv : Value} {L : List Rul} {w : World}
theorem compile_err (hL : RulsAt w lv L) (hl : lightB L = true) (hw : WfL L) {f1 : Int} (hf : (checkV k a L).1 = f1) (h : ¬ f1 = 0) : Calls Try.prog 10 #[.agg #[.int .i64 k, .int .i64 a, lv]] w (Ret (.tuple #[.slice none 0 0, .int .i64 f1]) w) :=
  (compile_any k a lv L w hL hl hw).mono fun e w' hp => by
    obtain ⟨hb, hp⟩ := hp
    rw [hf, if_pos h] at hp
    exact ⟨hp, hb⟩
theorem compile_long (hL : RulsAt w lv L) (hl : lightB L = true) (hw : WfL L) (hf : (checkV k a L).1 = 0) (h : 4096 < (compL k a L).length) : Calls Try.prog 10 #[.agg #[.int .i64 k, .int .i64 a, lv]] w (Ret (.tuple #[.slice none 0 0, .int .i64 4]) w) :=
  (compile_any k a lv L w hL hl hw).mono fun e w' hp => by
    obtain ⟨hb, hp⟩ := hp
    rw [hf, if_neg (by decide), if_pos h] at hp
    exact ⟨hp, hb⟩
/-- It returns a program of n instructions. -/
def Prog (P : List Ins) (n : Nat) (w : World) (e : Ending) (w' : World) : Prop := ∃ A c, e = .returned (.tuple #[.slice A n c, .int .i64 0]) ∧ InsRd w' (.slice A n c) P ∧ Below w.heap.size w w'
theorem compile_ok (hL : RulsAt w lv L) (hl : lightB L = true) (hw : WfL L) (hf : (checkV k a L).1 = 0) {n : Nat} (hn : (compL k a L).length = n) (h : n ≤ 4096) : Calls Try.prog 10 #[.agg #[.int .i64 k, .int .i64 a, lv]] w (Prog (compL k a L) n w) :=
  (compile_any k a lv L w hL hl hw).mono fun e w' hp => by
    obtain ⟨hb, hp⟩ := hp
    rw [hf, if_neg (by decide), hn, if_neg (by omega)] at hp
    obtain ⟨A, c, he, ho⟩ := hp
    exact ⟨A, c, he, ho.rd, hb⟩
end
theorem nodup_of {ns : List ByteArray} (h : wrongI ns = 0) : ns.Nodup := by
  have hd : dupTo ns ns.length = false := by
    unfold wrongI at h
    split at h
    · split at h
      · cases h
      · rename_i h2; simpa using h2
    · cases h
  have hk : ∀ n, n ≤ ns.length → dupTo ns n = false := fun n hn => by
    cases hx : dupTo ns n with
    | false => rfl
    | true => rw [dupTo_mono hx _ hn] at hd; cases hd
  refine List.pairwise_iff_getElem.2 (fun i j hi hj hij he => ?_)
  have h1 := hk (j + 1) hj
  rw [dupTo_succ (List.getElem?_eq_getElem hj), Bool.or_eq_false_iff] at h1
  have h2 := h1.2
  unfold seenB at h2
  rw [List.any_eq_false] at h2
  have hmem : ns[i] ∈ ns.take j := List.mem_take_iff_getElem.2 ⟨i, by omega, rfl⟩
  exact h2 _ hmem (by simpa using he)
theorem wrong_of : ∀ {L : List Rul} {j : Nat}, (checkL L j).1 = 0 → ∀ r ∈ L, wrongI r.ns = 0
  | [], _, _, r, hr => by cases hr
  | x :: L, j, h, r, hr => by
    unfold checkL at h
    split at h
    · rename_i hx
      rcases List.mem_cons.1 hr with rfl | hr
      · exact hx
      · exact wrong_of h r hr
    · rename_i hx
      exact absurd h hx
theorem fit_of {k a : Int} {L : List Rul} (hf : (checkV k a L).1 = 0) (hw : WfL L) : actB k a = true ∧ ∀ r ∈ L, actB r.k r.a = true ∧ FitC r.cs ∧ r.ns.Nodup ∧ TightR r := by
  unfold checkV at hf
  split at hf
  · rename_i hr
    refine ⟨?_, fun r hm => ?_⟩
    · unfold rulesB at hr
      simp only [Bool.and_eq_true] at hr
      exact hr.1.1
    · obtain ⟨h1, h2, h3, h4⟩ := rules_fine hr hm
      refine ⟨h1, fun c hc => ⟨h4 c hc, hw r hm c hc⟩, nodup_of (wrong_of hf r hm), fun c hc => ?_, h3⟩
      have := h4 c hc
      unfold rightB at this
      rw [decide_eq_true_eq] at this
      exact ⟨this.1, this.2.1⟩
  · cases hf
/-- A program of rules runs. -/
theorem run_comp {k a : Int} {L : List Rul} (hf : (checkV k a L).1 = 0) (hw : WfL L) (hlen : (compL k a L).length ≤ 4096) {d : Dat} (hd : WfD d) :
    ∃ n, n ≤ mostD d L ∧ ∀ (v : Value) (w : World), InsRd w v (compL k a L) → Calls Try.prog 15 #[v, .agg d.arr] w (Ret (.tuple #[.int .u32 (ansD d k a L), .int .i64 n, .int .i64 0]) w) := by
  obtain ⟨_, hfit⟩ := fit_of hf hw
  obtain ⟨n, hn, hs⟩ := comp_go hd k a L (fun r hr => ⟨(hfit r hr).2.1, (hfit r hr).2.2.1⟩)
  exact ⟨n, hn, fun v w hrd => run_fine v _ d w n _ hrd (fine_comp (fun r hr => (hfit r hr).2.2.2)) (comp_len0 k a L) hlen hs⟩
def d0 (ar : Int) : Dat := ⟨0, ar, 0, 0, 0, 0, 0, 0, 0⟩
theorem d0_wf (ar : Int) (h : U32 ar) : WfD (d0 ar) := ⟨⟨Int.le_refl _, by show (0 : Int) < 4294967296; decide⟩, h, fun a => by
  have : (d0 ar).arg a = 0 := by simp [Dat.arg, argI, d0]
  rw [this]; exact ⟨by decide, by decide⟩⟩
theorem nums_nil : numsV [] = [] := by unfold numsV; rw [List.filter_eq_nil_iff]; intro x _; simp [spkL]
theorem comp_nil : compL 8 0 [] = headL ++ [⟨6, 0, 0, valV 8 0⟩] := by unfold compL; rw [if_pos nums_nil]
theorem len_nil : (compL 8 0 []).length = 5 := by rw [comp_nil]; rfl
theorem chk_nil : (checkV 8 0 []).1 = 0 := by decide +kernel
theorem val80 : valV 8 0 = 2147418112 := by decide +kernel
theorem val10 : valV 1 0 = 2147483648 := by decide +kernel
theorem nil_ruls (w : World) : RulsAt w (.slice none 0 0) [] := ⟨none, 0, rfl, by simp, fun h => absurd h (by simp)⟩
set_option maxHeartbeats 4000000 in
theorem awake_any (w : World) : Calls Try.prog 8 #[] w (Ret (.bool true) w) := by
  have hw : WfL [] := fun r hr => by cases hr
  have C := Lib.hid (fun W => compile_ok (k := 8) (a := 0) (w := W) (nil_ruls W) rfl hw chk_nil len_nil (by decide))
  obtain ⟨n1, hn1, R1⟩ := run_comp (k := 8) (a := 0) (L := []) chk_nil hw (by rw [len_nil]; decide) (d0_wf 3221225534 ⟨by decide, by decide⟩)
  obtain ⟨n2, hn2, R2⟩ := run_comp (k := 8) (a := 0) (L := []) chk_nil hw (by rw [len_nil]; decide) (d0_wf 0 ⟨by decide, by decide⟩)
  have e1 : ansD (d0 3221225534) 8 0 [] = 2147418112 := by rw [← val80]; rfl
  have e2 : ansD (d0 0) 8 0 [] = 2147483648 := by rw [← val10]; rfl
  rw [e1] at R1
  rw [e2] at R2
  have HR1 := Lib.hid R1
  have HR2 := Lib.hid R2
  obtain ⟨P, hP⟩ : ∃ P, compL 8 0 [] = P := ⟨_, rfl⟩
  rw [hP] at C HR1 HR2
  simp only [d0, Dat.arr] at HR1 HR2
  clear hP
  clear R1 R2 hw e1 e2 hn1 hn2
  go_enter Try.func8, Try.ntmps8
  go_wp2_with (first
    | (go_at_call 10; (with_reducible refine (C.out _).mono ?_); rintro e_ w1 ⟨A1, c1, rfl, hr1, hb1⟩; have Hr1 := Lib.hid hr1; have Hb1 := Lib.hid hb1; clear hr1 hb1)
    | (go_at_call 15; (with_reducible refine (HR1.out _ w1 Hr1.out).mono ?_); rintro e_ w2 ⟨rfl, hb2⟩; have Hb2 := Lib.hid hb2; clear hb2)
    | (go_at_call 15; (with_reducible refine (HR2.out _ w2 (Hr1.out.below Hb2.out)).mono ?_); rintro e_ w3 ⟨rfl, hb3⟩; have Hb3 := Lib.hid hb3; clear hb3))
  go_ret
  exact ⟨rfl, (Hb1.out.trans (Hb2.out.mono Hb1.out.size)).trans (Hb3.out.mono (Nat.le_trans Hb1.out.size Hb2.out.size))⟩
end Go.Proofs.Ytjmmbadpknlmcaa
