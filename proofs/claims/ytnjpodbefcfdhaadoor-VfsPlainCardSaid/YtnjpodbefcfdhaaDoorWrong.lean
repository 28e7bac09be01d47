/- The reference's wrong: what is wrong with a node behind others. Conditions: the nodes can be read; they are not many. -/
import Derived.Test.YtnjpodbefcfdhaaDoorFine
import Derived.Test.YtnjpodbefcfdhaaDoorRefLeft
namespace Go.Proofs.YtnjpodbefcfdhaaDoor
open Go.RowKit
attribute [local go_sem ↓] Go.wp_at_zero Go.wp_at_succ
set_option linter.unusedVariables false
set_option linter.unusedSimpArgs false

theorem wrongN_bad {A : List Nod} {x : Nod} (h : fineN x = false) : wrongN A x = 1 := by unfold wrongN; rw [h]; rfl
theorem wrongN_twice {A : List Nod} {x y : Nod} (h : fineN x = true) (h2 : findL A x.p = some y) : wrongN A x = 9 := by unfold wrongN; rw [h, h2]; rfl
theorem wrongN_none {A : List Nod} {x : Nod} (h : fineN x = true) (h2 : findL A x.p = none) (h3 : findL A (upL x.p) = none) : wrongN A x = 17 := by unfold wrongN; rw [h, h2, h3]; rfl
theorem wrongN_some {A : List Nod} {x y : Nod} (h : fineN x = true) (h2 : findL A x.p = none) (h3 : findL A (upL x.p) = some y) : wrongN A x = if y.k = 2 then 0 else 20 := by unfold wrongN; rw [h, h2, h3]; rfl

def lastI (o : Option Nod) : Int := match o with | none => 17 | some y => if y.k = 2 then 0 else 20
set_option maxRecDepth 100000 in
set_option maxHeartbeats 8000000 in
theorem wrong_any (v : Value) (A : List Nod) (x : Nod) (w : World) (hN : NodesAt w v A) (hl : A.length ≤ 1000000) : Calls Tryd.prog 32 #[v, nodV x] w (Ret (.int .i64 (wrongN A x)) w) := by
  have C := ref_clean_any (strL x.p)
  rw [strL_data] at C
  obtain ⟨F, hF⟩ : ∃ F, wrongN A x = F := ⟨_, rfl⟩
  rw [hF]
  have HF := Lib.hid hF
  have F1 := fun W hW => ref_find_any v A x.p W hW hl
  have F2 := fun W hW => ref_find_any v A (upL x.p) W hW hl
  have U := ref_up_any (strL x.p)
  rw [strL_data] at U
  have T := target_any (strL x.t)
  rw [strL_data] at T
  have HN := Lib.hid hN
  obtain ⟨Aa, ca, rfl⟩ := hN.form
  clear hF hN
  unfold nodV
  obtain ⟨xp, xk, xt⟩ := x
  simp only at C U T F1 F2 ⊢
  have tp : (strL xp).toList = xp := ByteArray.toList_eq _
  have tt : (strL xt).toList = xt := ByteArray.toList_eq _
  obtain ⟨u, hu⟩ : ∃ u, strL xp = u := ⟨_, rfl⟩
  obtain ⟨t, ht⟩ : ∃ t, strL xt = t := ⟨_, rfl⟩
  rw [hu] at C U tp ⊢
  simp only [hu] at F1
  rw [ht] at tt T ⊢
  clear hu ht
  have hbox := below_alloc w (.cells #[.string u, .int .i64 xk, .string t] 32)
  have step0 : ∀ w1 : World, Below (w.alloc (.cells #[.string u, .int .i64 xk, .string t] 32)).heap.size (w.alloc (.cells #[.string u, .int .i64 xk, .string t] 32)) w1 → Below w.heap.size w w1 ∧ Trio w1 w.heap.size (.string u) (.int .i64 xk) (.string t) := fun w1 hb1 => ⟨bchain hbox hbox.size hb1, (Trio.new w _ _ _).below hb1⟩
  unfold cleanV at C
  unfold upV at U
  cases hr : rightB xp with
  | false =>
    rw [hr, if_neg (by decide)] at C
    have Hfin := Lib.hid (wrongN_bad (A := A) (fineN_bad (x := ⟨xp, xk, xt⟩) hr))
    clear hr F1 F2 U T
    go_enter Tryd.func32, Tryd.ntmps32
    go_wp2_with (go_at_call 42; refine (C _).mono ?_; rintro e w1 ⟨rfl, hb1⟩)
    go_ret
    exact ⟨by rw [← HF.out, Hfin.out]; rfl, (step0 w1 hb1).1⟩
  | true =>
    rw [hr, if_pos rfl] at C U
    have tc : (strL (cleanL xp)).toList = cleanL xp := ByteArray.toList_eq _
    obtain ⟨c, hc⟩ : ∃ c, cleanL xp = c := ⟨_, rfl⟩
    rw [hc] at C tc
    obtain ⟨cs, hcs⟩ : ∃ cs, strL c = cs := ⟨_, rfl⟩
    rw [hcs] at C tc
    by_cases h1 : c = xp
    case neg =>
      have hE : (c == xp) = false := by simpa using h1
      have Hfin := Lib.hid (wrongN_bad (A := A) (fineN_dirty (x := ⟨xp, xk, xt⟩) (by show ¬ cleanL xp = xp; rw [hc]; exact h1)))
      clear hc h1 hr hcs F1 F2 U T
      go_enter Tryd.func32, Tryd.ntmps32
      go_wp2_with (go_at_call 42; refine (C _).mono ?_; rintro e w1 ⟨rfl, hb1⟩; have hs := step0 w1 hb1; have b0 := hs.2.c0)
      go_ret
      exact ⟨by rw [← HF.out, Hfin.out]; rfl, hs.1⟩
    case pos =>
    subst h1
    have hE : (c == c) = true := by simp
    by_cases h2 : c = [47]
    · have hE2 : (c == [47]) = true := by simpa using h2
      have Hfin := Lib.hid (wrongN_bad (A := A) (fineN_root (x := ⟨c, xk, xt⟩) h2))
      clear hc h2 hr hcs F1 F2 U T
      go_enter Tryd.func32, Tryd.ntmps32
      go_wp2_with (go_at_call 42; refine (C _).mono ?_; rintro e w1 ⟨rfl, hb1⟩; have hs := step0 w1 hb1; have b0 := hs.2.c0)
      go_ret
      exact ⟨by rw [← HF.out, Hfin.out]; rfl, hs.1⟩
    · have hE2 : (c == [47]) = false := by simpa using h2
      have hform := fineN_form (x := ⟨c, xk, xt⟩) hr hc h2
      clear hc h2 hr hcs
      -- a node whose form may not be
      by_cases hk : xk < 1 ∨ 3 < xk
      · have Hfin := Lib.hid (wrongN_bad (A := A) (x := ⟨c, xk, xt⟩) (by rw [hform]; unfold formB; rw [if_neg (by simp; omega), if_neg (by simp; omega)]))
        clear hform F1 F2 U T
        by_cases hk1 : xk < 1
        · go_enter Tryd.func32, Tryd.ntmps32
          go_wp2_with (go_at_call 42; refine (C _).mono ?_; rintro e w1 ⟨rfl, hb1⟩; have hs := step0 w1 hb1; have b0 := hs.2.c0; have b1 := hs.2.c1)
          go_ret
          exact ⟨by rw [← HF.out, Hfin.out]; rfl, hs.1⟩
        · have hk2 : 3 < xk := by omega
          have hk3 : 1 ≤ xk := by omega
          clear hk hk1
          go_enter Tryd.func32, Tryd.ntmps32
          go_wp2_with (go_at_call 42; refine (C _).mono ?_; rintro e w1 ⟨rfl, hb1⟩; have hs := step0 w1 hb1; have b0 := hs.2.c0; have b1 := hs.2.c1)
          go_ret
          exact ⟨by rw [← HF.out, Hfin.out]; rfl, hs.1⟩
      · have hk1 : 1 ≤ xk := by omega
        have hk2 : xk ≤ 3 := by omega
        clear hk
        obtain ⟨f, hf⟩ : ∃ f, formB ⟨c, xk, xt⟩ = f := ⟨_, rfl⟩
        rw [hf] at hform
        by_cases hff : f = false
        · subst hff
          have Hfin := Lib.hid (wrongN_bad (A := A) (x := ⟨c, xk, xt⟩) hform)
          clear hform F1 F2 U
          by_cases k3 : xk = 3
          · subst k3
            have htg : tgtB xt = false := by unfold formB at hf; rw [if_neg (by simp), if_pos rfl] at hf; exact hf
            rw [htg] at T
            clear hf htg
            go_enter Tryd.func32, Tryd.ntmps32
            go_wp2_with (first
              | (go_at_call 42; refine (C _).mono ?_; rintro e w1 ⟨rfl, hb1⟩; have hs := step0 w1 hb1; have b0 := hs.2.c0; have b1 := hs.2.c1; have b2 := hs.2.c2)
              | (go_at_call 43; refine (T _).mono ?_; rintro e w2 ⟨rfl, rfl⟩))
            go_ret
            exact ⟨by rw [← HF.out, Hfin.out]; rfl, hs.1⟩
          · have hk3 : (xk == 3) = false := by simpa using k3
            have hne : xt ≠ [] := by
              intro h0
              unfold formB at hf
              rw [if_pos (by simp; omega), decide_eq_true (show (⟨c, xk, xt⟩ : Nod).t = [] from h0)] at hf
              cases hf
            have hE3 : xt.isEmpty = false := by simpa using hne
            clear hf hne
            go_enter Tryd.func32, Tryd.ntmps32
            go_wp2_with (go_at_call 42; refine (C _).mono ?_; rintro e w1 ⟨rfl, hb1⟩; have hs := step0 w1 hb1; have b0 := hs.2.c0; have b1 := hs.2.c1; have b2 := hs.2.c2)
            go_ret
            exact ⟨by rw [← HF.out, Hfin.out]; rfl, hs.1⟩
        · have hft : f = true := by simpa using hff
          subst hft
          have hT3 : xk = 3 → tgtB xt = true := fun k3 => formB_link hf k3
          have hT0 : xk ≠ 3 → xt.isEmpty = true := fun k3 => by
            unfold formB at hf
            rw [if_pos (by simp; omega)] at hf
            simpa using hf
          clear hf hff
          have main : ∀ (c9 : Bool), (xk == 3) = c9 → (c9 = true → tgtB xt = true) → (c9 = false → xt.isEmpty = true) → Calls Tryd.prog 32 #[.slice Aa A.length ca, .agg #[.string u, .int .i64 xk, .string t]] w (Ret (.int .i64 F) w) := by
            intro c9 hc9 hct hcf
            have hb9 : (xk != 3) = !c9 := by rw [← hc9]; rfl
            have d1 : decide (xk < 1) = false := decide_eq_false (by omega)
            have d2 : decide (3 < xk) = false := decide_eq_false (by omega)
            obtain ⟨n, hn⟩ : ∃ n, A.length = n := ⟨_, rfl⟩
            rw [hn] at HN F1 F2 ⊢
            unfold findV nodV at F1 F2
            cases h1 : findL A c with
            | some y =>
              have Hfin := Lib.hid (wrongN_twice (A := A) (x := ⟨c, xk, xt⟩) hform h1)
              simp only [h1] at F1
              clear h1 hform hn F2 U hT3 hT0
              cases c9 with
              | true =>
                rw [hct rfl] at T
                clear hct hcf
                go_enter Tryd.func32, Tryd.ntmps32
                go_wp2_with (first
                  | (go_at_call 42; refine (C _).mono ?_; rintro e w1 ⟨rfl, hb1⟩; have hs := step0 w1 hb1; have b0 := hs.2.c0; have b1 := hs.2.c1; have b2 := hs.2.c2)
                  | (go_at_call 43; refine (T _).mono ?_; rintro e w2 ⟨rfl, rfl⟩)
                  | (go_at_call 33; refine (F1 _ (HN.out.below hs.1)).mono ?_; rintro e w3 ⟨rfl, hb3⟩))
                go_ret
                exact ⟨by rw [← HF.out, Hfin.out]; rfl, (bchain hs.1 hs.1.size hb3).alloc (Nat.le_trans hs.1.size hb3.size) _⟩
              | false =>
                have hE3 := hcf rfl
                clear hct hcf T
                go_enter Tryd.func32, Tryd.ntmps32
                go_wp2_with (first
                  | (go_at_call 42; refine (C _).mono ?_; rintro e w1 ⟨rfl, hb1⟩; have hs := step0 w1 hb1; have b0 := hs.2.c0; have b1 := hs.2.c1; have b2 := hs.2.c2)
                  | (go_at_call 33; refine (F1 _ (HN.out.below hs.1)).mono ?_; rintro e w3 ⟨rfl, hb3⟩))
                go_ret
                exact ⟨by rw [← HF.out, Hfin.out]; rfl, (bchain hs.1 hs.1.size hb3).alloc (Nat.le_trans hs.1.size hb3.size) _⟩
            | none =>
              simp only [h1] at F1
              unfold zeroN at F1
              have hlast : Hid (wrongN A ⟨c, xk, xt⟩ = lastI (findL A (upL c))) := Lib.hid (by
                cases h2 : findL A (upL c) with
                | none => show _ = (17 : Int); exact wrongN_none (x := ⟨c, xk, xt⟩) hform h1 h2
                | some y => show _ = (if y.k = 2 then (0 : Int) else 20); exact wrongN_some (x := ⟨c, xk, xt⟩) hform h1 h2)
              clear h1 hform hn hT3 hT0
              obtain ⟨up, hup⟩ : ∃ up, strL (upL c) = up := ⟨_, rfl⟩
              rw [hup] at U
              simp only [hup] at F2
              clear hup
              have step3 : ∀ (w1 w3 : World) (z : Obj), Below w.heap.size w w1 → Trio w1 w.heap.size (.string u) (.int .i64 xk) (.string t) → Below w1.heap.size w1 w3 → Below w.heap.size w (w3.alloc z) ∧ Trio (w3.alloc z) w.heap.size (.string u) (.int .i64 xk) (.string t) := fun w1 w3 z h1 h2 h3 => ⟨(bchain h1 h1.size h3).alloc (Nat.le_trans h1.size h3.size) _, (h2.below h3).below (below_alloc _ _)⟩
              have fin : ∀ (yv : Option Nod), findL A (upL c) = yv → Calls Tryd.prog 32 #[.slice Aa n ca, .agg #[.string u, .int .i64 xk, .string t]] w (Ret (.int .i64 F) w) := by
                intro yv hyv
                rw [hyv] at hlast
                simp only [hyv] at F2
                clear hyv
                have HF2 : Hid (F = lastI yv) := Lib.hid (by rw [← HF.out]; exact hlast.out)
                clear hlast HF
                cases c9 with
                | true =>
                  rw [hct rfl] at T
                  clear hct hcf
                  cases yv with
                  | none =>
                    simp only at F2
                    unfold zeroN at F2
                    go_enter Tryd.func32, Tryd.ntmps32
                    go_wp2_with (first
                      | (go_at_call 42; refine (C _).mono ?_; rintro e w1 ⟨rfl, hb1⟩; have hs := step0 w1 hb1; have b0 := hs.2.c0; have b1 := hs.2.c1; have b2 := hs.2.c2)
                      | (go_at_call 43; refine (T _).mono ?_; rintro e w2 ⟨rfl, rfl⟩)
                      | (go_at_call 33; (with_reducible refine (F1 _ (HN.out.below hs.1)).mono ?_); rintro e w3 ⟨rfl, hb3⟩; have hs3 := step3 w1 w3 (.cells #[.string ⟨#[]⟩, .int .i64 0, .string ⟨#[]⟩] 32) hs.1 hs.2 hb3; have q0 := hs3.2.c0)
                      | (go_at_call 44; refine (U _).mono ?_; rintro e w5 ⟨rfl, hb5⟩; have hk5 := bchain hs3.1 hs3.1.size hb5)
                      | (go_at_call 33; (with_reducible refine (F2 _ (HN.out.below hk5)).mono ?_); rintro e w6 ⟨rfl, hb6⟩; have hk6 := bchain hk5 hk5.size hb6))
                    go_ret
                    exact ⟨by rw [HF2.out]; rfl, hk6.alloc hk6.size _⟩
                  | some y =>
                    obtain ⟨yp, yk, yt⟩ := y
                    simp only at F2
                    by_cases hy : yk = 2
                    · have hl2 : lastI (some ⟨yp, yk, yt⟩) = 0 := (if_pos hy)
                      rw [hl2] at HF2
                      subst hy
                      go_enter Tryd.func32, Tryd.ntmps32
                      go_wp2_with (first
                        | (go_at_call 42; refine (C _).mono ?_; rintro e w1 ⟨rfl, hb1⟩; have hs := step0 w1 hb1; have b0 := hs.2.c0; have b1 := hs.2.c1; have b2 := hs.2.c2)
                        | (go_at_call 43; refine (T _).mono ?_; rintro e w2 ⟨rfl, rfl⟩)
                        | (go_at_call 33; (with_reducible refine (F1 _ (HN.out.below hs.1)).mono ?_); rintro e w3 ⟨rfl, hb3⟩; have hs3 := step3 w1 w3 (.cells #[.string ⟨#[]⟩, .int .i64 0, .string ⟨#[]⟩] 32) hs.1 hs.2 hb3; have q0 := hs3.2.c0)
                        | (go_at_call 44; refine (U _).mono ?_; rintro e w5 ⟨rfl, hb5⟩; have hk5 := bchain hs3.1 hs3.1.size hb5)
                        | (go_at_call 33; (with_reducible refine (F2 _ (HN.out.below hk5)).mono ?_); rintro e w6 ⟨rfl, hb6⟩; have hk6 := bchain hk5 hk5.size hb6))
                      go_ret
                      exact ⟨by rw [HF2.out]; rfl, hk6.alloc hk6.size _⟩
                    · have hl2 : lastI (some ⟨yp, yk, yt⟩) = 20 := (if_neg hy)
                      rw [hl2] at HF2
                      have hy2 : (yk == 2) = false := by simpa using hy
                      go_enter Tryd.func32, Tryd.ntmps32
                      go_wp2_with (first
                        | (go_at_call 42; refine (C _).mono ?_; rintro e w1 ⟨rfl, hb1⟩; have hs := step0 w1 hb1; have b0 := hs.2.c0; have b1 := hs.2.c1; have b2 := hs.2.c2)
                        | (go_at_call 43; refine (T _).mono ?_; rintro e w2 ⟨rfl, rfl⟩)
                        | (go_at_call 33; (with_reducible refine (F1 _ (HN.out.below hs.1)).mono ?_); rintro e w3 ⟨rfl, hb3⟩; have hs3 := step3 w1 w3 (.cells #[.string ⟨#[]⟩, .int .i64 0, .string ⟨#[]⟩] 32) hs.1 hs.2 hb3; have q0 := hs3.2.c0)
                        | (go_at_call 44; refine (U _).mono ?_; rintro e w5 ⟨rfl, hb5⟩; have hk5 := bchain hs3.1 hs3.1.size hb5)
                        | (go_at_call 33; (with_reducible refine (F2 _ (HN.out.below hk5)).mono ?_); rintro e w6 ⟨rfl, hb6⟩; have hk6 := bchain hk5 hk5.size hb6))
                      go_ret
                      exact ⟨by rw [HF2.out]; rfl, hk6.alloc hk6.size _⟩
                | false =>
                  have hE3 := hcf rfl
                  clear hct hcf T
                  cases yv with
                  | none =>
                    simp only at F2
                    unfold zeroN at F2
                    go_enter Tryd.func32, Tryd.ntmps32
                    go_wp2_with (first
                      | (go_at_call 42; refine (C _).mono ?_; rintro e w1 ⟨rfl, hb1⟩; have hs := step0 w1 hb1; have b0 := hs.2.c0; have b1 := hs.2.c1; have b2 := hs.2.c2)
                      | (go_at_call 33; (with_reducible refine (F1 _ (HN.out.below hs.1)).mono ?_); rintro e w3 ⟨rfl, hb3⟩; have hs3 := step3 w1 w3 (.cells #[.string ⟨#[]⟩, .int .i64 0, .string ⟨#[]⟩] 32) hs.1 hs.2 hb3; have q0 := hs3.2.c0)
                      | (go_at_call 44; refine (U _).mono ?_; rintro e w5 ⟨rfl, hb5⟩; have hk5 := bchain hs3.1 hs3.1.size hb5)
                      | (go_at_call 33; (with_reducible refine (F2 _ (HN.out.below hk5)).mono ?_); rintro e w6 ⟨rfl, hb6⟩; have hk6 := bchain hk5 hk5.size hb6))
                    go_ret
                    exact ⟨by rw [HF2.out]; rfl, hk6.alloc hk6.size _⟩
                  | some y =>
                    obtain ⟨yp, yk, yt⟩ := y
                    simp only at F2
                    by_cases hy : yk = 2
                    · have hl2 : lastI (some ⟨yp, yk, yt⟩) = 0 := (if_pos hy)
                      rw [hl2] at HF2
                      subst hy
                      go_enter Tryd.func32, Tryd.ntmps32
                      go_wp2_with (first
                        | (go_at_call 42; refine (C _).mono ?_; rintro e w1 ⟨rfl, hb1⟩; have hs := step0 w1 hb1; have b0 := hs.2.c0; have b1 := hs.2.c1; have b2 := hs.2.c2)
                        | (go_at_call 33; (with_reducible refine (F1 _ (HN.out.below hs.1)).mono ?_); rintro e w3 ⟨rfl, hb3⟩; have hs3 := step3 w1 w3 (.cells #[.string ⟨#[]⟩, .int .i64 0, .string ⟨#[]⟩] 32) hs.1 hs.2 hb3; have q0 := hs3.2.c0)
                        | (go_at_call 44; refine (U _).mono ?_; rintro e w5 ⟨rfl, hb5⟩; have hk5 := bchain hs3.1 hs3.1.size hb5)
                        | (go_at_call 33; (with_reducible refine (F2 _ (HN.out.below hk5)).mono ?_); rintro e w6 ⟨rfl, hb6⟩; have hk6 := bchain hk5 hk5.size hb6))
                      go_ret
                      exact ⟨by rw [HF2.out]; rfl, hk6.alloc hk6.size _⟩
                    · have hl2 : lastI (some ⟨yp, yk, yt⟩) = 20 := (if_neg hy)
                      rw [hl2] at HF2
                      have hy2 : (yk == 2) = false := by simpa using hy
                      go_enter Tryd.func32, Tryd.ntmps32
                      go_wp2_with (first
                        | (go_at_call 42; refine (C _).mono ?_; rintro e w1 ⟨rfl, hb1⟩; have hs := step0 w1 hb1; have b0 := hs.2.c0; have b1 := hs.2.c1; have b2 := hs.2.c2)
                        | (go_at_call 33; (with_reducible refine (F1 _ (HN.out.below hs.1)).mono ?_); rintro e w3 ⟨rfl, hb3⟩; have hs3 := step3 w1 w3 (.cells #[.string ⟨#[]⟩, .int .i64 0, .string ⟨#[]⟩] 32) hs.1 hs.2 hb3; have q0 := hs3.2.c0)
                        | (go_at_call 44; refine (U _).mono ?_; rintro e w5 ⟨rfl, hb5⟩; have hk5 := bchain hs3.1 hs3.1.size hb5)
                        | (go_at_call 33; (with_reducible refine (F2 _ (HN.out.below hk5)).mono ?_); rintro e w6 ⟨rfl, hb6⟩; have hk6 := bchain hk5 hk5.size hb6))
                      go_ret
                      exact ⟨by rw [HF2.out]; rfl, hk6.alloc hk6.size _⟩
              exact fin _ rfl
          exact main _ rfl (fun h => hT3 (by simpa using h)) (fun h => hT0 (by simpa using h))
end Go.Proofs.YtnjpodbefcfdhaaDoor
