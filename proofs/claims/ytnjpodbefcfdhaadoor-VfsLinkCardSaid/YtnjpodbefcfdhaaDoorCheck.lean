/- Check: what is wrong with a tree. Conditions: the nodes can be read; their strings are no longer than strings can be. -/
import Derived.Test.YtnjpodbefcfdhaaDoorKinds
namespace Go.Proofs.YtnjpodbefcfdhaaDoor
open Go.RowKit
attribute [local go_sem ↓] Go.wp_at_zero Go.wp_at_succ
set_option linter.unusedVariables false
set_option linter.unusedSimpArgs false

def KRel (L : List Nod) (w : World) (i : Value) (wr : World) : Prop :=
  ∃ k : Nat, k ≤ L.length ∧ i = .int .i64 k ∧ Below w.heap.size w wr ∧ KindsIs wr w.heap.size (k + 1) (fun s => kindOf (L.take k) s.data.toList) ∧ Fines (L.take k) ∧ checkR [] L = checkR (L.take k) (L.drop k)
theorem fines_snoc {A : List Nod} (h : Fines A) {x : Nod} (hx : fineN x = true) : Fines (A ++ [x]) := by
  intro y hy
  rcases List.mem_append.1 hy with h1 | h1
  · exact h y h1
  · obtain rfl : y = x := (by simpa using h1)
    exact hx
theorem slash_mk : (⟨#[47]⟩ : ByteArray) = strL [47] := rfl
theorem strL_eq_iff (s : ByteArray) (l : List UInt8) : s = strL l ↔ s.data.toList = l := by
  constructor
  · rintro rfl; rfl
  · rintro rfl; exact (strL_of s).symm

set_option maxRecDepth 100000 in
set_option maxHeartbeats 8000000 in
theorem check_any (v : Value) (L : List Nod) (w : World) (hN : NodesAt w v L) (hS : ∀ x ∈ L, SizedN x) : Calls Tryd.prog 14 #[v] w (Ret2 (pairT (checkV L)) w) := by
  have HN := Lib.hid hN
  have HS := Lib.hid hS
  obtain ⟨A, c, rfl, hlc, hc63, hcells⟩ := hN
  have Hcells := Lib.hid hcells
  obtain ⟨F, hF⟩ : ∃ F, checkV L = F := ⟨_, rfl⟩
  rw [hF]
  unfold checkV at hF
  obtain ⟨n, hn⟩ : ∃ n, L.length = n := ⟨_, rfl⟩
  rw [hn] at hF hlc HN ⊢
  have Hn := Lib.hid hn
  clear hcells hn hS
  by_cases h64 : 64 < n
  · rw [if_pos h64] at hF
    have h64' : (64 : Int) < n := by omega
    subst hF
    clear h64
    go_enter Tryd.func14, Tryd.ntmps14
    go_wp2
    go_ret2
    exact ⟨rfl, Below.refl _ _⟩
  · rw [if_neg h64] at hF
    have h64' : (n : Int) ≤ 64 := by omega
    have HF := Lib.hid hF
    have hmade := KindsIs.made w
    have hal := below_alloc w (.map #[] 0)
    have hmk : (Instr.makeMap 47 none).run Tryd.prog w = .ok (.map (some w.heap.size)) (w.alloc (.map #[] 0)) := rfl
    obtain ⟨wm, hwm⟩ : ∃ wm, w.alloc (.map #[] 0) = wm := ⟨_, rfl⟩
    rw [hwm] at hmade hal hmk
    have Hmade := Lib.hid hmade
    clear h64 hF hmade
    go_enter Tryd.func14, Tryd.ntmps14
    go_wp2_with (refine wpList_kindI _ rfl _ _ _ rfl w.heap.size 0 (fun _ => 0) rfl Hmade.out (by omega) ⟨#[47]⟩ (by decide) 2 (by decide) rfl rfl ?_; intro wi hki hgi)
    have hbi : Below w.heap.size w wi := hal.trans (grown_below hgi hal.size (Nat.le_refl _))
    go_loopw [16] (fun i wr => KRel L w i wr) (fun i _ => n - (intOf i).toNat)
    case atStart =>
      refine ⟨0, Nat.zero_le _, rfl, hbi, hki.congr (fun s => ?_), fun x hx => by simp at hx, by rw [List.take_zero, List.drop_zero]⟩
      rw [List.take_zero, kindOf_nil, slash_mk]
      simp only [strL_eq_iff]
    case round =>
      obtain ⟨k, hk, rfl, hb, hki2, hfin, hf⟩ := hrel
      rw [Hn.out] at hk
      have Hki := Lib.hid hki2
      have Hfin := Lib.hid hfin
      clear hki2 hfin
      by_cases hlt : k < n
      · obtain ⟨gl, o, rfl, hcell⟩ := Hcells.out (by rw [Hn.out]; omega)
        obtain ⟨x, hx⟩ : ∃ x, L[k]? = some x := ⟨_, List.getElem?_eq_getElem (by rw [Hn.out]; exact hlt)⟩
        obtain ⟨e0, e1, e2⟩ := (hcell k x hx).below hb
        have hsx := HS.out x (List.mem_of_getElem? hx)
        rw [checkR_at hx] at hf
        have htake : L.take (k + 1) = L.take k ++ [x] := by rw [List.take_add_one, hx]; rfl
        have hlt' : (k : Int) < n := by omega
        have Fn := fine_any x
        have hwk := wrongN_kinds (A := L.take k) Hfin.out (x := x)
        have hbad := wrongN_bad (A := L.take k) (x := x)
        have hsn := kindOf_snoc (A := L.take k) (x := x)
        have hkz := kind_zero Hfin.out x.p
        have hfp := fineN_parts (x := x)
        have U := up_any (strL x.p)
        rw [strL_data] at U
        obtain ⟨fx, hfx⟩ : ∃ fx, fineN x = fx := ⟨_, rfl⟩
        rw [hfx] at Fn
        have hlen : (strL x.p).size ≤ 9223372036854775807 := by rw [strL_size]; exact hsx.1
        have hul : (strL (upL x.p)).size ≤ 9223372036854775807 := by
          rw [strL_size]
          unfold upL
          have h1 := total_take ((leftL (namesL x.p)).length - 1) (leftL (namesL x.p))
          have h2 := total_leftL x.p
          rw [join_len]
          split <;> omega
        have hkd : Hid (Fines (L.take k) → fx = true → fineN x = true) := Lib.hid (fun _ h => by rw [hfx, h])
        have Htake := Lib.hid htake
        have Hwk := Lib.hid hwk
        have Hbad := Lib.hid hbad
        have Hsn := Lib.hid hsn
        have Hkz := Lib.hid hkz
        have Hfx := Lib.hid hfx
        have Hf := Lib.hid hf
        have hlook := fun W (h : KindsIs W w.heap.size (k + 1) (fun s => kindOf (L.take k) s.data.toList)) => h.look (strL x.p) hlen
        have hlook2 := fun W (h : KindsIs W w.heap.size (k + 1) (fun s => kindOf (L.take k) s.data.toList)) => h.look (strL (upL x.p)) hul
        simp only [strL_data] at hlook hlook2
        have hal2 := below_alloc wr (.cells #[.string (strL x.p), .int .i64 x.k, .string (strL x.t)] 32)
        clear hcell hx hwk hbad hsn hkz htake hf hsx hfx
        unfold nodV at Fn
        cases fx with
        | false =>
          obtain ⟨xp, xk, xt⟩ := x
          simp only at e0 e1 e2 Fn U hal2 hlook hlook2 hlen
          obtain ⟨u, hu⟩ : ∃ u, strL xp = u := ⟨_, rfl⟩
          obtain ⟨t, ht⟩ : ∃ t, strL xt = t := ⟨_, rfl⟩
          rw [hu] at e0 Fn hal2
          rw [ht] at e2 Fn hal2
          clear hu ht U hlook hlook2 hfp
          have Hw1 := Lib.hid (Hbad.out Hfx.out)
          go_wp2_with (go_at_call 25; refine (Fn _).mono ?_; rintro e w5 ⟨rfl, hb5⟩)
          go_ret2
          exact ⟨by rw [← HF.out, Hf.out, Hw1.out]; rfl, bchain (bchain hb hb.size hal2) (Nat.le_trans hb.size hal2.size) hb5⟩
        | true =>
          have hxf := hkd.out Hfin.out rfl
          have hparts := hfp hxf
          unfold upV at U
          rw [hparts.1, if_pos rfl] at U
          have hwz := Hwk.out hxf
          have hkinds := formB_kind hparts.2.2.2
          have Hkinds := Lib.hid hkinds
          have Hroot := Lib.hid hparts.2.2.1
          have Hxf := Lib.hid hxf
          obtain ⟨q1, hq1⟩ : ∃ q, kindOf (L.take k) x.p = q := ⟨_, rfl⟩
          obtain ⟨q2, hq2⟩ : ∃ q, kindOf (L.take k) (upL x.p) = q := ⟨_, rfl⟩
          rw [hq1, hq2] at hwz
          rw [hq1] at hlook
          rw [hq2] at hlook2
          have Hq1 := Lib.hid hq1
          have Hwz := Lib.hid hwz
          clear hfp hparts hwz hkinds hq1 hq2 hxf hul
          have Hul : Hid ((strL (upL x.p)).size ≤ 9223372036854775807) := Lib.hid (by
            rw [strL_size]
            unfold upL
            have h1 := total_take ((leftL (namesL x.p)).length - 1) (leftL (namesL x.p))
            have h2 := total_leftL x.p
            rw [join_len]
            split <;> omega)
          obtain ⟨uu, huu⟩ : ∃ uu, strL (upL x.p) = uu := ⟨_, rfl⟩
          rw [huu] at U
          simp only [huu] at hlook2
          have step : ∀ (w5 w6 : World), Below (wr.alloc (.cells #[.string (strL x.p), .int .i64 x.k, .string (strL x.t)] 32)).heap.size (wr.alloc (.cells #[.string (strL x.p), .int .i64 x.k, .string (strL x.t)] 32)) w5 →
              Below w.heap.size w w5 ∧ Trio w5 wr.heap.size (.string (strL x.p)) (.int .i64 x.k) (.string (strL x.t)) ∧ KindsIs w5 w.heap.size (k + 1) (fun s => kindOf (L.take k) s.data.toList) := fun w5 _ h5 =>
            ⟨bchain (bchain hb hb.size hal2) (Nat.le_trans hb.size hal2.size) h5, (Trio.new wr _ _ _).below h5, (Hki.out.below hal2).below h5⟩
          have step6 : ∀ (w5 w6 : World), Below w.heap.size w w5 ∧ Trio w5 wr.heap.size (.string (strL x.p)) (.int .i64 x.k) (.string (strL x.t)) ∧ KindsIs w5 w.heap.size (k + 1) (fun s => kindOf (L.take k) s.data.toList) → Below w5.heap.size w5 w6 →
              Below w.heap.size w w6 ∧ Trio w6 wr.heap.size (.string (strL x.p)) (.int .i64 x.k) (.string (strL x.t)) ∧ KindsIs w6 w.heap.size (k + 1) (fun s => kindOf (L.take k) s.data.toList) := fun w5 w6 h5 h6 =>
            ⟨bchain h5.1 h5.1.size h6, h5.2.1.below h6, h5.2.2.below h6⟩
          have upd : ∀ W', KindsIs W' w.heap.size (k + 1 + 1) (fun t => if t = strL x.p then x.k else kindOf (L.take k) t.data.toList) → q1 = 0 → KindsIs W' w.heap.size (k + 1 + 1) (fun s => kindOf (L.take (k + 1)) s.data.toList) := fun W' h hq => h.congr (fun s => by
            rw [Htake.out, Hsn.out Hroot.out (Hkz.out.1 (by rw [Hq1.out, hq]))]
            simp only [strL_eq_iff])
          have Hupd := Lib.hid upd
          have Hstep := Lib.hid step
          have Hstep6 := Lib.hid step6
          have hkwf : (Lit.int IntKind.i64 x.k).wf = true := by rcases Hkinds.out with h | h | h <;> rw [h] <;> decide
          have Hkwf := Lib.hid hkwf
          have hfs : Hid (Fines (L.take (k + 1))) := Lib.hid (by rw [Htake.out]; exact fines_snoc Hfin.out Hxf.out)
          clear upd step step6 huu hkwf hkd
          obtain ⟨xp, xk, xt⟩ := x
          simp only at e0 e1 e2 Fn U hal2 hlook hlook2 hlen Hstep Hstep6 Hupd Hkwf
          obtain ⟨u, hu⟩ : ∃ u, strL xp = u := ⟨_, rfl⟩
          obtain ⟨t, ht⟩ : ∃ t, strL xt = t := ⟨_, rfl⟩
          rw [hu] at e0 Fn hal2 hlen U
          rw [ht] at e2 Fn hal2
          simp only [hu] at hlook Hstep Hstep6 Hupd
          simp only [ht] at Hstep Hstep6
          clear hu ht
          have Hlook := Lib.hid hlook
          have Hlook2 := Lib.hid hlook2
          clear hlook hlook2
          by_cases h1 : q1 = 0
          case neg =>
            have hE : (q1 == 0) = false := by simpa using h1
            have Hw9 := Lib.hid (Hwz.out.trans (if_pos h1))
            clear h1
            go_wp2_with (go_at_call 25; refine (Fn _).mono ?_; rintro e w5 ⟨rfl, hb5⟩; have h5 := Hstep.out w5 w5 hb5; have b0 := h5.2.1.c0; have b1 := h5.2.1.c1; have lk := Hlook.out w5 h5.2.2)
            go_ret2
            exact ⟨by rw [← HF.out, Hf.out, Hw9.out]; rfl, h5.1⟩
          subst h1
          by_cases h2 : q2 = 0
          · subst h2
            have Hw9 := Lib.hid (Hwz.out.trans ((if_neg (by simp)).trans (if_pos rfl)))
            go_wp2_with (first
              | (go_at_call 25; refine (Fn _).mono ?_; rintro e w5 ⟨rfl, hb5⟩; have h5 := Hstep.out w5 w5 hb5; have b0 := h5.2.1.c0; have b1 := h5.2.1.c1; have lk := Hlook.out w5 h5.2.2)
              | (go_at_call 26; refine (U _).mono ?_; rintro e w6 ⟨rfl, hb6⟩; have h6 := Hstep6.out w5 w6 h5 hb6; have d0 := h6.2.1.c0; have d1 := h6.2.1.c1; have lk2 := Hlook2.out w6 h6.2.2))
            go_ret2
            exact ⟨by rw [← HF.out, Hf.out, Hw9.out]; rfl, h6.1⟩
          by_cases h3 : q2 = 2
          · subst h3
            have Hw9 := Lib.hid (Hwz.out.trans ((if_neg (by simp)).trans ((if_neg (by decide)).trans (if_pos rfl))))
            go_wp2_with (first
              | (go_at_call 25; refine (Fn _).mono ?_; rintro e w5 ⟨rfl, hb5⟩; have h5 := Hstep.out w5 w5 hb5; have b0 := h5.2.1.c0; have b1 := h5.2.1.c1; have lk := Hlook.out w5 h5.2.2)
              | (go_at_call 26; refine (U _).mono ?_; rintro e w6 ⟨rfl, hb6⟩; have h6 := Hstep6.out w5 w6 h5 hb6; have d0 := h6.2.1.c0; have d1 := h6.2.1.c1; have lk2 := Hlook2.out w6 h6.2.2)
              | (at_mapUpdate; refine wpList_kind _ rfl _ _ _ rfl w.heap.size (k + 1) _ rfl h6.2.2 (by omega) u hlen xk Hkwf.out rfl rfl ?_; intro w7 hk7 hg7))
            go_roundw
            case rel =>
              exact ⟨k + 1, by rw [Hn.out]; omega, by go_num, h6.1.trans (grown_below hg7 h6.1.size (Nat.le_refl _)), Hupd.out _ hk7 trivial, hfs.out, by rw [Hf.out, Hw9.out, if_pos rfl]⟩
            case measure => (simp [intOf] <;> omega)
          · have hE2 : (q2 == 0) = false := by simpa using h2
            have hE3 : (q2 == 2) = false := by simpa using h3
            have Hw9 := Lib.hid (Hwz.out.trans ((if_neg (by simp)).trans ((if_neg h2).trans (if_neg h3))))
            clear h2 h3
            go_wp2_with (first
              | (go_at_call 25; refine (Fn _).mono ?_; rintro e w5 ⟨rfl, hb5⟩; have h5 := Hstep.out w5 w5 hb5; have b0 := h5.2.1.c0; have b1 := h5.2.1.c1; have lk := Hlook.out w5 h5.2.2)
              | (go_at_call 26; refine (U _).mono ?_; rintro e w6 ⟨rfl, hb6⟩; have h6 := Hstep6.out w5 w6 h5 hb6; have d0 := h6.2.1.c0; have d1 := h6.2.1.c1; have lk2 := Hlook2.out w6 h6.2.2))
            go_ret2
            exact ⟨by rw [← HF.out, Hf.out, Hw9.out]; rfl, h6.1⟩
      · obtain rfl : k = n := by omega
        rw [List.drop_eq_nil_of_le (by rw [Hn.out]; exact Nat.le_refl _)] at hf
        have Hf := Lib.hid hf
        clear hf
        go_wp2
        go_ret2
        exact ⟨by rw [← HF.out, Hf.out]; simp [checkR, pairT], hb⟩
end Go.Proofs.YtnjpodbefcfdhaaDoor
