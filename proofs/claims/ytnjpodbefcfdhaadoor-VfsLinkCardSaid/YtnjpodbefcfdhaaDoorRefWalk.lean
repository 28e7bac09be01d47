/- The reference's walk: where names lead. Conditions: the nodes can be read, and pass; the names are no great row. -/
import Derived.Test.YtnjpodbefcfdhaaDoorParts
import Derived.Test.YtnjpodbefcfdhaaDoorCheck
import Derived.ArgAppend
import Derived.Laws.AppendOwnNone
namespace Go.Proofs.YtnjpodbefcfdhaaDoor
open Go.RowKit
attribute [local go_sem ↓] Go.wp_at_zero Go.wp_at_succ
set_option linter.unusedVariables false
set_option linter.unusedSimpArgs false

def resT (r : Res) : Value := .tuple #[.string (strL r.1), .int .i64 r.2.1, .int .i64 r.2.2]
def sliceLen : Value → Nat
  | .slice _ n _ => n
  | _ => 0
def NilOk (v : Value) : Prop := ∀ n c, v = .slice none n c → n = 0 ∧ c = 0
theorem nilOk_own {w : World} {b : Nat} {e : TypeId} {size k : Nat} {v : Value} {xs : List Value} (h : w.ownsRow b e size v k xs) : NilOk v := by
  intro n c hv
  rcases h.2 with ⟨h1, h2⟩ | ⟨g, cap, cur, h3, _⟩
  · rw [h1] at hv; cases hv; exact ⟨rfl, rfl⟩
  · rw [h3] at hv; cases hv
theorem nilOk_nil : NilOk (.slice none 0 0) := fun n c h => by cases h; exact ⟨rfl, rfl⟩
theorem nilOk_take {A : Option Addr} {n c k : Nat} (h : NilOk (.slice A n c)) (hk : k < n) : NilOk (.slice A k c) := by
  intro m d e
  cases e
  have := h _ _ rfl
  omega
def WRel (L : List Nod) (f : List UInt8 → List (List UInt8) → List (List UInt8) → Res) (r : Res) (N : Nat) (w : World) (av nv : Value) (wr : World) : Prop :=
  ∃ a ns, NilOk av ∧ StrsAt wr av a ∧ StrsAt wr nv ns ∧ Here L a ∧ NamesOk ns ∧ ns.length ≤ N ∧ Below w.heap.size w wr ∧ r = walk1 L f a ns
theorem strsAt_form {w : World} {v : Value} {ns : List (List UInt8)} (h : StrsAt w v ns) : ∃ A c, v = .slice A ns.length c := by
  obtain ⟨A, c, h1, _⟩ := h
  exact ⟨A, c, h1⟩
theorem here_total {L : List Nod} (h : OkL L) {a : List (List UInt8)} (ha : Here L a) : total a ≤ 256 := by
  obtain ⟨_, x, hx, _⟩ := ha
  exact h.len hx
theorem total_len (a : List (List UInt8)) : a.length ≤ total a := flatL_len a
theorem total_snoc (a : List (List UInt8)) (n : List UInt8) : total (a ++ [n]) = total a + (n.length + 1) := by
  rw [total_append]; simp [total, flatL]

theorem strsAt_tail {w : World} {b o m c : Nat} {n : List UInt8} {rest : List (List UInt8)} {ad : Addr} (hm : rest.length = m) (had : (if c = 1 then some (⟨b, o, none⟩ : Addr) else some ⟨b, o + 1, none⟩) = some ad)
    (h : StrsAt w (.slice (some ⟨b, o, none⟩) (m + 1) c) (n :: rest)) : StrsAt w (.slice (some ad) m (c - 1)) rest := by
  obtain ⟨A, c', h1, h2, h3⟩ := h
  cases h1
  simp only [List.length_cons] at h2 h3
  refine ⟨some ad, c - 1, by rw [hm], by omega, fun h0 => ?_⟩
  obtain ⟨b', o', e, hlt, hx⟩ := h3 (by omega)
  cases e
  rw [if_neg (by omega)] at had
  cases had
  exact ⟨b, o + 1, rfl, hlt, fun j x hj => by rw [show o + 1 + j = o + (j + 1) by omega]; exact hx (j + 1) x hj⟩
theorem strsAt_cells {w : World} {ad : Addr} {m c : Nat} {ns : List (List UInt8)} (h : StrsAt w (.slice (some ad) m c) ns) : ∀ j u, (rowP ns)[j]? = some u → w.cell? (ad.add j) = some u := by
  obtain ⟨A, c', h1, h2, h3⟩ := h
  intro j u hu
  unfold rowP at hu
  rw [List.getElem?_map, Option.map_eq_some_iff] at hu
  obtain ⟨x, hx, rfl⟩ := hu
  have hl := (List.getElem?_eq_some_iff.1 hx).1
  obtain ⟨b, o, e, _, hc⟩ := h3 (by omega)
  cases h1
  cases e
  rw [addr_add']
  exact hc j x hx
theorem parts_len {t : List UInt8} (h : t.length ≤ 256) : (partsL t).length ≤ 257 := by
  unfold partsL
  have h1 := total_pieces _ t (Nat.le_refl _)
  have h2 := flatL_len (pieces t)
  have h3 := List.length_filter_le nameB (pieces t)
  unfold total at h1
  omega
theorem walk1_dots {L : List Nod} {f : List UInt8 → List (List UInt8) → List (List UInt8) → Res} {a ns : List (List UInt8)} : walk1 L f a ([46, 46] :: ns) = walk1 L f (a.take (a.length - 1)) ns := by simp [walk1]
theorem walk1_none {L : List Nod} {f : List UInt8 → List (List UInt8) → List (List UInt8) → Res} {a ns : List (List UInt8)} {n : List UInt8} (h : ¬ n = [46, 46]) (hx : findL L (joinL (a ++ [n])) = none) : walk1 L f a (n :: ns) = badR 17 := by
  simp only [walk1]; rw [if_neg h, hx]
theorem walk1_file {L : List Nod} {f : List UInt8 → List (List UInt8) → List (List UInt8) → Res} {a ns : List (List UInt8)} {n : List UInt8} {x : Nod} (h : ¬ n = [46, 46]) (hx : findL L (joinL (a ++ [n])) = some x) (hk : x.k = 1) (hns : ns ≠ []) : walk1 L f a (n :: ns) = badR 20 := by
  simp only [walk1]; rw [if_neg h, hx]; simp only; rw [if_pos ⟨hk, hns⟩]
theorem walk1_link {L : List Nod} {f : List UInt8 → List (List UInt8) → List (List UInt8) → Res} {a ns : List (List UInt8)} {n : List UInt8} {x : Nod} (h : ¬ n = [46, 46]) (hx : findL L (joinL (a ++ [n])) = some x) (hk : x.k = 3) : walk1 L f a (n :: ns) = f x.t a ns := by
  simp only [walk1]; rw [if_neg h, hx]; simp only; rw [if_neg (by omega), if_pos hk]
theorem walk1_go {L : List Nod} {f : List UInt8 → List (List UInt8) → List (List UInt8) → Res} {a ns : List (List UInt8)} {n : List UInt8} {x : Nod} (h : ¬ n = [46, 46]) (hx : findL L (joinL (a ++ [n])) = some x) (h1 : ¬ (x.k = 1 ∧ ns ≠ [])) (h3 : ¬ x.k = 3) : walk1 L f a (n :: ns) = walk1 L f (a ++ [n]) ns := by
  simp only [walk1]; rw [if_neg h, hx]; simp only; rw [if_neg h1, if_neg h3]

set_option maxRecDepth 100000 in
set_option maxHeartbeats 16000000 in
theorem ref_walk_step (L : List Nod) (hO : OkL L) (hl : L.length ≤ 1000000) (h N : Nat) (hh : h ≤ 8) (hN3 : N + 300 ≤ 4000)
    (R : ∀ (h' : Nat), h = h' + 1 → ∀ (nv av mv : Value) (a ns : List (List UInt8)) (w : World), NodesAt w nv L → NilOk av → StrsAt w av a → StrsAt w mv ns → Here L a → NamesOk ns → ns.length ≤ N + 300 → Calls Tryd.prog 22 #[nv, av, mv, .int .i64 h'] w (Ret (resT (walkH L h' a ns)) w))
    (nv av mv : Value) (a ns : List (List UInt8)) (w : World) (hN : NodesAt w nv L) (hAn : NilOk av) (hA : StrsAt w av a) (hM : StrsAt w mv ns) (ha : Here L a) (hn : NamesOk ns) (hns : ns.length ≤ N) : Calls Tryd.prog 22 #[nv, av, mv, .int .i64 h] w (Ret (resT (walkH L h a ns)) w) := by
  obtain ⟨F, hF⟩ : ∃ F, walkH L h a ns = F := ⟨_, rfl⟩
  rw [hF]
  rw [walkH_eq] at hF
  have HF := Lib.hid hF
  have HN := Lib.hid hN
  simp only [resT] at R
  have HR := Lib.hid R
  have HO := Lib.hid hO
  obtain ⟨i0, hi, hz0, hz1, hz2⟩ := info_parts info9
  have hml : 10000 ≤ maxLen := by decide
  obtain ⟨A0, c0, rfl⟩ := hN.form
  obtain ⟨A1, c1, rfl⟩ := strsAt_form hA
  obtain ⟨A2, c2, rfl⟩ := strsAt_form hM
  have hrel0 : WRel L (walkF L h) F N w (.slice A1 a.length c1) (.slice A2 ns.length c2) w := ⟨a, ns, hAn, hA, hM, ha, hn, hns, Below.refl _ _, hF.symm⟩
  have Hrel0 := Lib.hid hrel0
  have Fd := fun p W hW => ref_find_any (.slice A0 L.length c0) L p W hW hl
  have hh8 : (h : Int) ≤ 8 := by omega
  have hh0 : (0 : Int) ≤ (h : Int) := by omega
  obtain ⟨nl, hnl⟩ : ∃ nl, L.length = nl := ⟨_, rfl⟩
  rw [hnl] at HN Fd ⊢
  have HFd := Lib.hid Fd
  clear hF hN R hA hM ha hn hrel0 hO hnl Fd
  go_enter Tryd.func22, Tryd.ntmps22
  go_wp2
  go_loopw [1, 2] (fun av nv wr => WRel L (walkF L h) F N w av nv wr) (fun _ nv _ => sliceLen nv)
  case atStart => exact Hrel0.out
  case round =>
    obtain ⟨a', ns', hno, hA, hM, ha, hn, hns', hb, hf⟩ := hrel
    have Hno := Lib.hid hno
    have Ha := Lib.hid ha
    have Hn := Lib.hid hn
    have Hf := Lib.hid hf
    have HA := Lib.hid hA
    have hta := here_total HO.out ha
    have hal := total_len a'
    clear Hrel0 ha hn hf hno
    obtain ⟨A3, c3, rfl⟩ := strsAt_form hA
    have hc3 : a'.length ≤ c3 := by
      obtain ⟨_, _, e, h2, _⟩ := hA
      cases e; exact h2
    cases ns' with
    | nil =>
      obtain ⟨A4, c4, rfl⟩ := strsAt_form hM
      obtain ⟨hg, x, hx, h3⟩ := Ha.out
      have hres : F = (joinL a', x.k, 0) := by rw [Hf.out]; simp [walk1, kindOf, hx]
      have Hres := Lib.hid hres
      have Fd := HFd.out (joinL a')
      rw [hx] at Fd
      unfold findV nodV at Fd
      have J := fun W hS => ref_join_any (.slice A3 a'.length c3) a' W hS (by omega)
      obtain ⟨xp, xk, xt⟩ := x
      simp only at Fd
      obtain ⟨xps, hxps⟩ : ∃ u, strL xp = u := ⟨_, rfl⟩
      obtain ⟨t2, ht2⟩ : ∃ u, strL xt = u := ⟨_, rfl⟩
      obtain ⟨js, hjs⟩ : ∃ js, strL (joinL a') = js := ⟨_, rfl⟩
      simp only [hxps, ht2, hjs] at Fd
      simp only [hjs] at J
      have Hjs := Lib.hid hjs
      have HF2 := Lib.hid Fd
      have HJ := Lib.hid J
      obtain ⟨al, hal2⟩ : ∃ al, a'.length = al := ⟨_, rfl⟩
      rw [hal2] at HA HJ hal hc3 ⊢
      clear hA hM hns' hg hx h3 hres Fd J hxps ht2 hjs hal2 Hf Hn
      go_wp2_with (first
        | (go_at_call 34; refine (HJ.out _ HA.out).mono ?_; rintro e w7 ⟨rfl, hb7⟩)
        | (go_at_call 33; (with_reducible refine (HF2.out _ (HN.out.below (bchain hb hb.size hb7))).mono ?_); rintro e w8 ⟨rfl, hb8⟩; have k8 := bchain hb7 hb7.size hb8; have k8a := (k8.alloc k8.size (.cells #[.string xps, .int .i64 xk, .string t2] 32)); have q1 := (Trio.new w8 (.string xps) (.int .i64 xk) (.string t2)).c1))
      have HA9 := strsAt_below HA.out k8a.drew
      go_region_held3 (fun w' => w'.cell? ⟨w8.heap.size, 1, none⟩ = some (.int .i64 xk))
        (first | assumption | exact keep_cell hb9 (by assumption) | exact keep_cell hb9 q1 | (show World.cell? (w8.alloc _) _ = _; assumption)) (first | (go_at_call 34; refine (HJ.out _ HA9).mono ?_; rintro e w9 ⟨rfl, hb9⟩))
      go_wp2
      (try simp only [Exit.inBlock, Exit.then])
      refine bodyPost_ret (results_tmp3 rfl _ _ _) rfl ?_
      exact ⟨by rw [Hres.out]; unfold resT; rw [Hjs.out]; rfl, bchain hb hb.size (bchain k8a.drew k8a.drew.size hb9)⟩
    | cons n rest =>
      obtain ⟨A4, c4, e4, hc4, hcell4⟩ := hM
      subst e4
      obtain ⟨b4, o4, rfl, hlt4, hx4⟩ := hcell4 (by simp)
      have c0 := hx4 0 n rfl
      have tn : (strL n).toList = n := ByteArray.toList_eq _
      have hrl : rest.length ≤ 3700 := by simp at hns'; omega
      simp only [List.length_cons] at hc4 ⊢
      have hpos : (0 : Int) < ((rest.length + 1 : Nat) : Int) := by omega
      obtain ⟨m, hm⟩ : ∃ m, rest.length = m := ⟨_, rfl⟩
      rw [hm] at hc4 hrl hpos ⊢
      rw [Nat.add_zero] at c0
      have Hx4 := Lib.hid hx4
      clear hx4 hcell4
      have hM2 : StrsAt wr (.slice (some ⟨b4, o4, none⟩) (m + 1) c4) (n :: rest) := ⟨some ⟨b4, o4, none⟩, c4, by rw [List.length_cons, hm], by rw [List.length_cons, hm]; exact hc4, fun _ => ⟨b4, o4, rfl, hlt4, Hx4.out⟩⟩
      obtain ⟨ad, had⟩ : ∃ ad, (if c4 = 1 then some (⟨b4, o4, none⟩ : Addr) else some ⟨b4, o4 + 1, none⟩) = some ad := by
        by_cases h1 : c4 = 1
        · exact ⟨_, by rw [if_pos h1]⟩
        · exact ⟨_, by rw [if_neg h1]⟩
      have hT := strsAt_tail hm had hM2
      have Hcells := Lib.hid (strsAt_cells hT)
      have HT := Lib.hid hT
      have hrn : NamesOk rest := fun x hx => Hn.out x (by simp [hx])
      have hnn := Hn.out n (by simp)
      have hrN : rest.length ≤ N := by simp at hns'; omega
      have Hrn := Lib.hid hrn
      have Hnn := Lib.hid hnn
      have Hm := Lib.hid hm
      have HrN := Lib.hid hrN
      have hnl : n.length ≤ 256 := hnn.1
      clear hM2 hT hrn hnn hrN hns' Hx4 Hn hm
      obtain ⟨t, ht⟩ : ∃ t, strL n = t := ⟨_, rfl⟩
      rw [ht] at c0 tn
      have Ht := Lib.hid ht
      clear ht
      by_cases hdd : n = [46, 46]
      · have hd : (n == [46, 46]) = true := by simpa using hdd
        subst hdd
        have Hgo := Lib.hid (Hf.out.trans walk1_dots)
        rcases Nat.eq_zero_or_pos a'.length with h0 | h0
        · have ha0 : a' = [] := List.length_eq_zero_iff.1 h0
          subst ha0
          clear h0
          go_wp2
          go_roundw
          case rel =>
            refine ⟨[], rest, Hno.out, HA.out, HT.out, Ha.out, Hrn.out, HrN.out, hb, Hgo.out⟩
          case measure => show m < m + 1; omega
        · obtain ⟨q, hq⟩ : ∃ q, a'.length = q + 1 := ⟨a'.length - 1, by omega⟩
          have hq1 : q ≤ 256 := by omega
          have hkm : max (q : Int) 0 = q := by omega
          have hTk := strsAt_take HA.out q (by omega)
          have htk : a'.take (a'.length - 1) = a'.take q := by rw [hq]; rfl
          rw [htk] at Hgo
          have hht := here_take HO.out Ha.out
          rw [htk] at hht
          have Hht := Lib.hid hht
          have HTk := Lib.hid hTk
          have hqc : q + 1 ≤ c3 := by omega
          have hqc' : (q : Int) ≤ c3 := by omega
          have Hnq := Lib.hid (nilOk_take Hno.out (k := q) (by omega))
          rw [hq]
          clear h0 htk hht hTk hq
          go_wp2
          go_roundw
          case rel => exact ⟨_, rest, Hnq.out, HTk.out, HT.out, Hht.out, Hrn.out, HrN.out, hb, Hgo.out⟩
          case measure => show m < m + 1; omega
      · have hd : (n == [46, 46]) = false := by simpa using hdd
        have Hdd := Lib.hid hdd
        clear hdd
        have own0 : (wr.alloc (Obj.cells #[] 9)).ownsRow wr.heap.size 9 1 (.slice (some ⟨wr.heap.size, 0, none⟩) 0 0) 0 [] :=
          ⟨rfl, .inr ⟨_, 0, #[], rfl, Nat.le_refl _, World.alloc_heap_new wr _, Nat.le_refl _, Nat.zero_le _, rfl, rfl⟩⟩
        have kA : Below wr.heap.size wr (wr.alloc (Obj.cells #[] 9)) := below_alloc wr _
        have htn := total_snoc a' n
        have J := fun v W hS => ref_join_any v (a' ++ [n]) W hS (by omega)
        have Fd := HFd.out (joinL (a' ++ [n]))
        have hrow : rowP (a' ++ [n]) = rowP a' ++ [.string t] := by unfold rowP; rw [List.map_append]; simp [Ht.out]
        have hlenA : (a' ++ [n]).length = a'.length + 1 := by simp
        have Hrow := Lib.hid hrow
        have HlenA := Lib.hid hlenA
        have hsrc : ∀ ad, A3 = some ad → ∀ W, Below wr.heap.size wr W → ∀ j u, (rowP a')[j]? = some u → W.cell? (ad.add j) = some u := by
          intro ad e W hW
          subst e
          exact strsAt_cells (strsAt_below HA.out hW)
        have hnil : A3 = none → a' = [] := by
          intro e
          subst e
          obtain ⟨_, _, e2, _, h3⟩ := HA.out
          cases e2
          rcases Nat.eq_zero_or_pos a'.length with h0 | h0
          · exact List.length_eq_zero_iff.1 h0
          · obtain ⟨_, _, e3, _⟩ := h3 h0
            cases e3
        have rest0 : ∀ (W6 : World) (v6 : Value), W6.ownsRow wr.heap.size 9 1 v6 (a'.length + 1) (rowP a' ++ [.string t]) → StrsAt W6 v6 (a' ++ [n]) := fun W6 v6 h => strsAt_of_row (base := wr.heap.size) (by rw [Hrow.out, HlenA.out]; exact h)
        have Hsrc := Lib.hid hsrc
        have Hrest0 := Lib.hid rest0
        obtain ⟨js, hjs⟩ : ∃ js, strL (joinL (a' ++ [n])) = js := ⟨_, rfl⟩
        rw [hjs] at J Fd
        clear hjs hrow hlenA htn hsrc rest0
        -- behind the look-up: the same for both forms of the row
        have HJ := Lib.hid J
        have HF2 := Lib.hid Fd
        clear J Fd
        obtain ⟨al, hal2⟩ : ∃ al, a'.length = al := ⟨_, rfl⟩
        have Hal : Hid ((rowP a').length = al * 1) := Lib.hid (by rw [rowP_len, hal2, Nat.mul_one])
        rw [hal2] at Hrest0 HA Hno hal hc3 ⊢
        have halm : al ≤ 300 := by omega
        clear hal2
        have hs0 : w.heap.size ≤ wr.heap.size := hb.size
        cases A3 with
        | some ad3 =>
          have Hs3 := Lib.hid (Hsrc.out ad3 rfl)
          clear Hsrc hnil
          cases hx : findL L (joinL (a' ++ [n])) with
          | none =>
            have Hr := Lib.hid (Hf.out.trans (walk1_none Hdd.out hx))
            rw [hx] at HF2
            unfold findV zeroN at HF2
            simp only at HF2
            clear hx
            go_wp2_with (first
              | (at_builtin; refine wpList_append_own _ rfl (Operand.tmp 33) (Operand.tmp 34) 43 rfl wr.heap.size 9 i0 (.string ⟨#[]⟩) 1 16 Tryd.underlying43 hi hz0 hz1 hz2 rfl (by decide) _ 0 [] rfl own0 ad3 al c3 (rowP a') rfl Hal.out (Hs3.out _ (below_alloc _ _)) rowP_one (by omega) (by omega) (by simp) ?_; intro v5 w5 hown5 hgrow5 _; have k5 : Below wr.heap.size wr w5 := kA.grown hgrow5 (by simp) (own_ge own0))
              | (at_builtin; refine wpList_append_own _ rfl (Operand.tmp 35) (Operand.tmp 37) 43 rfl wr.heap.size 9 i0 (.string ⟨#[]⟩) 1 16 Tryd.underlying43 hi hz0 hz1 hz2 rfl (by decide) _ _ _ rfl (hown5.alloc _) ⟨w5.heap.size, 0, none⟩ 1 1 [.string t] rfl rfl (cell_one_new _ _ _) (by simp [Value.oneCell']) (by omega) (by omega) (by have := k5.size; simp; omega) ?_; intro v6 w6 hown6 hgrow6 _; have k6 : Below wr.heap.size wr w6 := (k5.alloc k5.size _).grown hgrow6 (by have := k5.size; simp; omega) (own_ge hown5); rw [Nat.zero_add, List.nil_append] at hown6; have hS6 := Hrest0.out w6 v6 hown6)
              | (go_at_call 34; refine (HJ.out _ _ hS6).mono ?_; rintro e w7 ⟨rfl, hb7⟩; have k7 := bchain k6 k6.size hb7)
              | (go_at_call 33; (with_reducible refine (HF2.out _ (HN.out.below (bchain hb hb.size k7))).mono ?_); rintro e w8 ⟨rfl, hb8⟩; have k8 := bchain k7 k7.size hb8; have k8a := (k8.alloc k8.size (.cells #[.string ⟨#[]⟩, .int .i64 0, .string ⟨#[]⟩] 32))))
            (try simp only [Exit.inBlock, Exit.then])
            refine bodyPost_ret (results_tmp3 rfl _ _ _) rfl ?_
            exact ⟨by rw [Hr.out]; rfl, bchain hb hb.size k8a⟩
          | some x =>
            rw [hx] at HF2
            unfold findV nodV at HF2
            obtain ⟨xp, xk, xt⟩ := x
            simp only at HF2
            have tt : (strL xt).toList = xt := ByteArray.toList_eq _
            obtain ⟨xps, hxps⟩ : ∃ u, strL xp = u := ⟨_, rfl⟩
            obtain ⟨t2, ht2⟩ : ∃ u, strL xt = u := ⟨_, rfl⟩
            simp only [hxps, ht2] at HF2
            by_cases hk1 : xk = 1 ∧ rest ≠ []
            · have Hr := Lib.hid (Hf.out.trans (walk1_file Hdd.out hx hk1.1 hk1.2))
              have hm0 : (0 : Int) < (m : Int) := by
                have h1 := List.length_pos_iff.2 hk1.2
                rw [Hm.out] at h1
                omega
              obtain ⟨rfl, -⟩ := hk1
              clear hx hxps ht2
              go_wp2_with (first
                | (at_builtin; refine wpList_append_own _ rfl (Operand.tmp 33) (Operand.tmp 34) 43 rfl wr.heap.size 9 i0 (.string ⟨#[]⟩) 1 16 Tryd.underlying43 hi hz0 hz1 hz2 rfl (by decide) _ 0 [] rfl own0 ad3 al c3 (rowP a') rfl Hal.out (Hs3.out _ (below_alloc _ _)) rowP_one (by omega) (by omega) (by simp) ?_; intro v5 w5 hown5 hgrow5 _; have k5 : Below wr.heap.size wr w5 := kA.grown hgrow5 (by simp) (own_ge own0))
                | (at_builtin; refine wpList_append_own _ rfl (Operand.tmp 35) (Operand.tmp 37) 43 rfl wr.heap.size 9 i0 (.string ⟨#[]⟩) 1 16 Tryd.underlying43 hi hz0 hz1 hz2 rfl (by decide) _ _ _ rfl (hown5.alloc _) ⟨w5.heap.size, 0, none⟩ 1 1 [.string t] rfl rfl (cell_one_new _ _ _) (by simp [Value.oneCell']) (by omega) (by omega) (by have := k5.size; simp; omega) ?_; intro v6 w6 hown6 hgrow6 _; have k6 : Below wr.heap.size wr w6 := (k5.alloc k5.size _).grown hgrow6 (by have := k5.size; simp; omega) (own_ge hown5); rw [Nat.zero_add, List.nil_append] at hown6; have hS6 := Hrest0.out w6 v6 hown6)
                | (go_at_call 34; refine (HJ.out _ _ hS6).mono ?_; rintro e w7 ⟨rfl, hb7⟩; have k7 := bchain k6 k6.size hb7)
                | (go_at_call 33; (with_reducible refine (HF2.out _ (HN.out.below (bchain hb hb.size k7))).mono ?_); rintro e w8 ⟨rfl, hb8⟩; have k8 := bchain k7 k7.size hb8; have k8a := (k8.alloc k8.size (.cells #[.string xps, .int .i64 1, .string t2] 32))))
              (try simp only [Exit.inBlock, Exit.then])
              refine bodyPost_ret (results_tmp3 rfl _ _ _) rfl ?_
              exact ⟨by rw [Hr.out]; rfl, bchain hb hb.size k8a⟩
            · by_cases hk3 : xk = 3
              · have htg := HO.out.link hx hk3
                have Hr := Lib.hid (Hf.out.trans (walk1_link Hdd.out hx hk3))
                subst hk3
                obtain ⟨htne, htl, _⟩ := tgtB_parts htg
                have Htg := Lib.hid htg
                clear hk1 hx htg
                cases h with
                | zero =>
                  clear hxps ht2
                  go_wp2_with (first
                    | (at_builtin; refine wpList_append_own _ rfl (Operand.tmp 33) (Operand.tmp 34) 43 rfl wr.heap.size 9 i0 (.string ⟨#[]⟩) 1 16 Tryd.underlying43 hi hz0 hz1 hz2 rfl (by decide) _ 0 [] rfl own0 ad3 al c3 (rowP a') rfl Hal.out (Hs3.out _ (below_alloc _ _)) rowP_one (by omega) (by omega) (by simp) ?_; intro v5 w5 hown5 hgrow5 _; have k5 : Below wr.heap.size wr w5 := kA.grown hgrow5 (by simp) (own_ge own0))
                    | (at_builtin; refine wpList_append_own _ rfl (Operand.tmp 35) (Operand.tmp 37) 43 rfl wr.heap.size 9 i0 (.string ⟨#[]⟩) 1 16 Tryd.underlying43 hi hz0 hz1 hz2 rfl (by decide) _ _ _ rfl (hown5.alloc _) ⟨w5.heap.size, 0, none⟩ 1 1 [.string t] rfl rfl (cell_one_new _ _ _) (by simp [Value.oneCell']) (by omega) (by omega) (by have := k5.size; simp; omega) ?_; intro v6 w6 hown6 hgrow6 _; have k6 : Below wr.heap.size wr w6 := (k5.alloc k5.size _).grown hgrow6 (by have := k5.size; simp; omega) (own_ge hown5); rw [Nat.zero_add, List.nil_append] at hown6; have hS6 := Hrest0.out w6 v6 hown6)
                    | (go_at_call 34; refine (HJ.out _ _ hS6).mono ?_; rintro e w7 ⟨rfl, hb7⟩; have k7 := bchain k6 k6.size hb7)
                    | (go_at_call 33; (with_reducible refine (HF2.out _ (HN.out.below (bchain hb hb.size k7))).mono ?_); rintro e w8 ⟨rfl, hb8⟩; have k8 := bchain k7 k7.size hb8; have k8a := (k8.alloc k8.size (.cells #[.string xps, .int .i64 3, .string t2] 32))))
                  (try simp only [Exit.inBlock, Exit.then])
                  refine bodyPost_ret (results_tmp3 rfl _ _ _) rfl ?_
                  exact ⟨by rw [Hr.out]; rfl, bchain hb hb.size k8a⟩
                | succ h' =>
                  have P := ref_parts_any (strL xt) (by rw [strL_size]; exact htl)
                  rw [strL_data] at P
                  have hpl : (partsL xt).length ≤ 257 := parts_len htl
                  obtain ⟨b0, hb0⟩ : ∃ b0, xt.head? = some b0 := by
                    cases xt with
                    | nil => exact absurd rfl htne
                    | cons b0 l => exact ⟨b0, rfl⟩
                  have hsz : 0 < t2.size := by rw [← ht2, strL_size]; exact List.length_pos_iff.2 htne
                  have hsz' : (0 : Int) < (t2.size : Int) := by omega
                  have hidx : ∀ hh : 0 < t2.size, t2[0]'hh = b0 := by
                    subst ht2
                    intro hh
                    have h1 := get_data (strL xt) 0 hh
                    rw [strL_data, ← List.head?_eq_getElem?, hb0] at h1
                    exact (Option.some.inj h1).symm
                  have hrowM : rowP (partsL xt ++ rest) = rowP (partsL xt) ++ rowP rest := by unfold rowP; rw [List.map_append]
                  have HrowM := Lib.hid hrowM
                  have HnsN := Lib.hid (namesOk_append (namesOk_parts Htg.out) Hrn.out)
                  have HhN := Lib.hid (here_next (t := xt) Ha.out)
                  have Hlen : Hid ((partsL xt ++ rest).length ≤ N + 300) := Lib.hid (by rw [List.length_append]; have := HrN.out; omega)
                  have hMk : ∀ (W : World) (v : Value) (B : Nat), W.ownsRow B 9 1 v ((partsL xt).length + m) (rowP (partsL xt) ++ rowP rest) → StrsAt W v (partsL xt ++ rest) := fun W v B h => strsAt_of_row (base := B) (by rw [HrowM.out, List.length_append, Hm.out]; exact h)
                  have HMk := Lib.hid hMk
                  have HmR : Hid ((rowP rest).length = m * 1) := Lib.hid (by rw [rowP_len, Hm.out, Nat.mul_one])
                  have Hc3 : Hid (∀ W, Below wr.heap.size wr W → ∀ j u, (rowP rest)[j]? = some u → W.cell? (ad.add j) = some u) := Lib.hid (fun W hW => strsAt_cells (strsAt_below HT.out hW))
                  have HRk := HR.out h' rfl
                  simp only [ht2] at P
                  obtain ⟨pn, hpn⟩ : ∃ pn, (partsL xt).length = pn := ⟨_, rfl⟩
                  rw [hpn] at hpl
                  have Hpn := Lib.hid hpn
                  have HP : Hid (∀ W, Calls Tryd.prog 35 #[.string t2] W fun e W' => ∃ v, e = .returned v ∧ W'.ownsRow W.heap.size 9 1 v pn (rowP (partsL xt)) ∧ Below W.heap.size W W') := Lib.hid (fun W => by have h := P W; unfold GivesOwn at h; rw [hpn] at h; exact h)
                  rw [hpn] at HMk
                  clear hrowM hMk hpn P HR hxps ht2
                  by_cases hb47 : b0 = 47
                  · have hcc : (((t2[0]).toNat : Int) == 47) = true := by rw [hidx]; rw [hb47]; rfl
                    have hnx : nextA xt a' = [] := by unfold nextA; rw [if_pos (by rw [hb0, hb47])]
                    rw [hnx] at HhN
                    have HhX := Lib.hid (show F = walkH L h' [] (partsL xt ++ rest) by rw [Hr.out]; show walkH L h' (nextA xt a') (partsL xt ++ rest) = _; rw [hnx])
                    have hA0 : ∀ W, StrsAt W (.slice none 0 0) [] := fun W => ⟨none, 0, rfl, Nat.le_refl _, fun h => absurd h (by simp)⟩
                    have HA0 := Lib.hid hA0
                    clear hA0 hnx hidx hb0 hb47
                    go_wp2_with (first
                      | (at_builtin; refine wpList_append_own _ rfl (Operand.tmp 33) (Operand.tmp 34) 43 rfl wr.heap.size 9 i0 (.string ⟨#[]⟩) 1 16 Tryd.underlying43 hi hz0 hz1 hz2 rfl (by decide) _ 0 [] rfl own0 ad3 al c3 (rowP a') rfl Hal.out (Hs3.out _ (below_alloc _ _)) rowP_one (by omega) (by omega) (by simp) ?_; intro v5 w5 hown5 hgrow5 _; have k5 : Below wr.heap.size wr w5 := kA.grown hgrow5 (by simp) (own_ge own0))
                      | (at_builtin; refine wpList_append_own _ rfl (Operand.tmp 35) (Operand.tmp 37) 43 rfl wr.heap.size 9 i0 (.string ⟨#[]⟩) 1 16 Tryd.underlying43 hi hz0 hz1 hz2 rfl (by decide) _ _ _ rfl (hown5.alloc _) ⟨w5.heap.size, 0, none⟩ 1 1 [.string t] rfl rfl (cell_one_new _ _ _) (by simp [Value.oneCell']) (by omega) (by omega) (by have := k5.size; simp; omega) ?_; intro v6 w6 hown6 hgrow6 _; have k6 : Below wr.heap.size wr w6 := (k5.alloc k5.size _).grown hgrow6 (by have := k5.size; simp; omega) (own_ge hown5); rw [Nat.zero_add, List.nil_append] at hown6; have hS6 := Hrest0.out w6 v6 hown6)
                      | (go_at_call 34; refine (HJ.out _ _ hS6).mono ?_; rintro e w7 ⟨rfl, hb7⟩; have k7 := bchain k6 k6.size hb7)
                      | (go_at_call 33; (with_reducible refine (HF2.out _ (HN.out.below (bchain hb hb.size k7))).mono ?_); rintro e w8 ⟨rfl, hb8⟩; have k8 := bchain k7 k7.size hb8; have k8a := (k8.alloc k8.size (.cells #[.string xps, .int .i64 3, .string t2] 32)))
                      | (go_at_call 35; refine (HP.out _).mono ?_; rintro e w9 ⟨v9, rfl, hown9, hb9⟩; have k9 := bchain k8a k8a.size hb9; have hown9' := own_mono hown9 k8a.size)
                      | (at_builtin; refine wpList_append_own _ rfl (Operand.tmp 69) (Operand.tmp 70) 43 rfl wr.heap.size 9 i0 (.string ⟨#[]⟩) 1 16 Tryd.underlying43 hi hz0 hz1 hz2 rfl (by decide) _ _ _ rfl hown9' ad m (c4 - 1) (rowP rest) rfl HmR.out (Hc3.out _ k9) rowP_one (by omega) (by omega) k9.size ?_; intro v10 w10 hown10 hgrow10 _; have k10 : Below wr.heap.size wr w10 := k9.grown hgrow10 k9.size (own_ge hown9'); have hM10 := HMk.out _ _ _ hown10)
                      | (go_at_call 22; refine (HRk _ _ _ [] (partsL xt ++ rest) _ (HN.out.below (bchain hb hb.size k10)) nilOk_nil (HA0.out _) hM10 HhN.out HnsN.out Hlen.out).mono ?_; rintro e w11 ⟨rfl, hb11⟩))
                    (try simp only [Exit.inBlock, Exit.then])
                    refine bodyPost_ret (results_tmp3 rfl _ _ _) rfl ?_
                    exact ⟨by rw [HhX.out]; rfl, bchain hb hb.size (bchain k10 k10.size hb11)⟩
                  · have hcc : (((t2[0]).toNat : Int) == 47) = false := by
                      rw [hidx]
                      simp only [beq_eq_false_iff_ne]
                      intro h
                      exact hb47 ((byte_eq (n := 47) (by omega)).1 h)
                    have hnx : nextA xt a' = a' := by unfold nextA; rw [if_neg (by rw [hb0]; intro h; exact hb47 (Option.some.inj h))]
                    rw [hnx] at HhN
                    have HhX := Lib.hid (show F = walkH L h' a' (partsL xt ++ rest) by rw [Hr.out]; show walkH L h' (nextA xt a') (partsL xt ++ rest) = _; rw [hnx])
                    clear hnx hidx hb0 hb47
                    go_wp2_with (first
                      | (at_builtin; refine wpList_append_own _ rfl (Operand.tmp 33) (Operand.tmp 34) 43 rfl wr.heap.size 9 i0 (.string ⟨#[]⟩) 1 16 Tryd.underlying43 hi hz0 hz1 hz2 rfl (by decide) _ 0 [] rfl own0 ad3 al c3 (rowP a') rfl Hal.out (Hs3.out _ (below_alloc _ _)) rowP_one (by omega) (by omega) (by simp) ?_; intro v5 w5 hown5 hgrow5 _; have k5 : Below wr.heap.size wr w5 := kA.grown hgrow5 (by simp) (own_ge own0))
                      | (at_builtin; refine wpList_append_own _ rfl (Operand.tmp 35) (Operand.tmp 37) 43 rfl wr.heap.size 9 i0 (.string ⟨#[]⟩) 1 16 Tryd.underlying43 hi hz0 hz1 hz2 rfl (by decide) _ _ _ rfl (hown5.alloc _) ⟨w5.heap.size, 0, none⟩ 1 1 [.string t] rfl rfl (cell_one_new _ _ _) (by simp [Value.oneCell']) (by omega) (by omega) (by have := k5.size; simp; omega) ?_; intro v6 w6 hown6 hgrow6 _; have k6 : Below wr.heap.size wr w6 := (k5.alloc k5.size _).grown hgrow6 (by have := k5.size; simp; omega) (own_ge hown5); rw [Nat.zero_add, List.nil_append] at hown6; have hS6 := Hrest0.out w6 v6 hown6)
                      | (go_at_call 34; refine (HJ.out _ _ hS6).mono ?_; rintro e w7 ⟨rfl, hb7⟩; have k7 := bchain k6 k6.size hb7)
                      | (go_at_call 33; (with_reducible refine (HF2.out _ (HN.out.below (bchain hb hb.size k7))).mono ?_); rintro e w8 ⟨rfl, hb8⟩; have k8 := bchain k7 k7.size hb8; have k8a := (k8.alloc k8.size (.cells #[.string xps, .int .i64 3, .string t2] 32)))
                      | (go_at_call 35; refine (HP.out _).mono ?_; rintro e w9 ⟨v9, rfl, hown9, hb9⟩; have k9 := bchain k8a k8a.size hb9; have hown9' := own_mono hown9 k8a.size)
                      | (at_builtin; refine wpList_append_own _ rfl (Operand.tmp 69) (Operand.tmp 70) 43 rfl wr.heap.size 9 i0 (.string ⟨#[]⟩) 1 16 Tryd.underlying43 hi hz0 hz1 hz2 rfl (by decide) _ _ _ rfl hown9' ad m (c4 - 1) (rowP rest) rfl HmR.out (Hc3.out _ k9) rowP_one (by omega) (by omega) k9.size ?_; intro v10 w10 hown10 hgrow10 _; have k10 : Below wr.heap.size wr w10 := k9.grown hgrow10 k9.size (own_ge hown9'); have hM10 := HMk.out _ _ _ hown10)
                      | (go_at_call 22; refine (HRk _ _ _ a' (partsL xt ++ rest) _ (HN.out.below (bchain hb hb.size k10)) Hno.out (strsAt_below HA.out k10) hM10 HhN.out HnsN.out Hlen.out).mono ?_; rintro e w11 ⟨rfl, hb11⟩))
                    (try simp only [Exit.inBlock, Exit.then])
                    refine bodyPost_ret (results_tmp3 rfl _ _ _) rfl ?_
                    exact ⟨by rw [HhX.out]; rfl, bchain hb hb.size (bchain k10 k10.size hb11)⟩
              · have hkk : ¬ (xk = 1 ∧ 0 < m) := by
                  rintro ⟨h1, h2⟩
                  exact hk1 ⟨h1, fun e => by have h3 := Hm.out; rw [e] at h3; simp at h3; omega⟩
                have Hr := Lib.hid (Hf.out.trans (walk1_go Hdd.out hx hk1 hk3))
                have hg2 : Here L (a' ++ [n]) := ⟨good_snoc Ha.out.1 (Hnn.out.2 Hdd.out), _, hx, hk3⟩
                have Hg2 := Lib.hid hg2
                have hE3 : (xk == 3) = false := by simpa using hk3
                clear hk1 hk3 hx hg2 hxps ht2
                by_cases hx1 : xk = 1
                · subst hx1
                  have hm0 : m = 0 := by omega
                  subst hm0
                  clear hkk
                  go_wp2_with (first
                    | (at_builtin; refine wpList_append_own _ rfl (Operand.tmp 33) (Operand.tmp 34) 43 rfl wr.heap.size 9 i0 (.string ⟨#[]⟩) 1 16 Tryd.underlying43 hi hz0 hz1 hz2 rfl (by decide) _ 0 [] rfl own0 ad3 al c3 (rowP a') rfl Hal.out (Hs3.out _ (below_alloc _ _)) rowP_one (by omega) (by omega) (by simp) ?_; intro v5 w5 hown5 hgrow5 _; have k5 : Below wr.heap.size wr w5 := kA.grown hgrow5 (by simp) (own_ge own0))
                    | (at_builtin; refine wpList_append_own _ rfl (Operand.tmp 35) (Operand.tmp 37) 43 rfl wr.heap.size 9 i0 (.string ⟨#[]⟩) 1 16 Tryd.underlying43 hi hz0 hz1 hz2 rfl (by decide) _ _ _ rfl (hown5.alloc _) ⟨w5.heap.size, 0, none⟩ 1 1 [.string t] rfl rfl (cell_one_new _ _ _) (by simp [Value.oneCell']) (by omega) (by omega) (by have := k5.size; simp; omega) ?_; intro v6 w6 hown6 hgrow6 _; have k6 : Below wr.heap.size wr w6 := (k5.alloc k5.size _).grown hgrow6 (by have := k5.size; simp; omega) (own_ge hown5); rw [Nat.zero_add, List.nil_append] at hown6; have hS6 := Hrest0.out w6 v6 hown6)
                    | (go_at_call 34; refine (HJ.out _ _ hS6).mono ?_; rintro e w7 ⟨rfl, hb7⟩; have k7 := bchain k6 k6.size hb7)
                    | (go_at_call 33; (with_reducible refine (HF2.out _ (HN.out.below (bchain hb hb.size k7))).mono ?_); rintro e w8 ⟨rfl, hb8⟩; have k8 := bchain k7 k7.size hb8; have k8a := (k8.alloc k8.size (.cells #[.string xps, .int .i64 1, .string t2] 32))))
                  go_roundw
                  case rel => exact ⟨_, rest, nilOk_own hown6, strsAt_below (strsAt_below (strsAt_below hS6 hb7) hb8) (below_alloc w8 _), strsAt_below HT.out k8a, Hg2.out, Hrn.out, HrN.out, bchain hb hb.size k8a, Hr.out⟩
                  case measure => show 0 < 0 + 1; omega
                · have hE1 : (xk == 1) = false := by simpa using hx1
                  clear hkk
                  go_wp2_with (first
                    | (at_builtin; refine wpList_append_own _ rfl (Operand.tmp 33) (Operand.tmp 34) 43 rfl wr.heap.size 9 i0 (.string ⟨#[]⟩) 1 16 Tryd.underlying43 hi hz0 hz1 hz2 rfl (by decide) _ 0 [] rfl own0 ad3 al c3 (rowP a') rfl Hal.out (Hs3.out _ (below_alloc _ _)) rowP_one (by omega) (by omega) (by simp) ?_; intro v5 w5 hown5 hgrow5 _; have k5 : Below wr.heap.size wr w5 := kA.grown hgrow5 (by simp) (own_ge own0))
                    | (at_builtin; refine wpList_append_own _ rfl (Operand.tmp 35) (Operand.tmp 37) 43 rfl wr.heap.size 9 i0 (.string ⟨#[]⟩) 1 16 Tryd.underlying43 hi hz0 hz1 hz2 rfl (by decide) _ _ _ rfl (hown5.alloc _) ⟨w5.heap.size, 0, none⟩ 1 1 [.string t] rfl rfl (cell_one_new _ _ _) (by simp [Value.oneCell']) (by omega) (by omega) (by have := k5.size; simp; omega) ?_; intro v6 w6 hown6 hgrow6 _; have k6 : Below wr.heap.size wr w6 := (k5.alloc k5.size _).grown hgrow6 (by have := k5.size; simp; omega) (own_ge hown5); rw [Nat.zero_add, List.nil_append] at hown6; have hS6 := Hrest0.out w6 v6 hown6)
                    | (go_at_call 34; refine (HJ.out _ _ hS6).mono ?_; rintro e w7 ⟨rfl, hb7⟩; have k7 := bchain k6 k6.size hb7)
                    | (go_at_call 33; (with_reducible refine (HF2.out _ (HN.out.below (bchain hb hb.size k7))).mono ?_); rintro e w8 ⟨rfl, hb8⟩; have k8 := bchain k7 k7.size hb8; have k8a := (k8.alloc k8.size (.cells #[.string xps, .int .i64 xk, .string t2] 32))))
                  go_roundw
                  case rel => exact ⟨_, rest, nilOk_own hown6, strsAt_below (strsAt_below (strsAt_below hS6 hb7) hb8) (below_alloc w8 _), strsAt_below HT.out k8a, Hg2.out, Hrn.out, HrN.out, bchain hb hb.size k8a, Hr.out⟩
                  case measure => show m < m + 1; omega
        | none =>
          obtain ⟨rfl, rfl⟩ := Hno.out _ _ rfl
          have hr0 : rowP a' = [] := List.length_eq_zero_iff.1 (by rw [Hal.out])
          rw [hr0] at Hrest0
          clear Hsrc hnil
          cases hx : findL L (joinL (a' ++ [n])) with
          | none =>
            have Hr := Lib.hid (Hf.out.trans (walk1_none Hdd.out hx))
            rw [hx] at HF2
            unfold findV zeroN at HF2
            simp only at HF2
            clear hx
            go_wp2_with (first
              | (at_builtin; refine wpList_append_own_none rfl (Operand.tmp 33) (Operand.tmp 34) 43 rfl wr.heap.size 9 i0 1 Tryd.underlying43 hi _ 0 [] rfl own0 rfl ?_)
              | (at_builtin; refine wpList_append_own _ rfl (Operand.tmp 35) (Operand.tmp 37) 43 rfl wr.heap.size 9 i0 (.string ⟨#[]⟩) 1 16 Tryd.underlying43 hi hz0 hz1 hz2 rfl (by decide) _ 0 [] rfl (own0.alloc _) ⟨wr.heap.size + 1, 0, none⟩ 1 1 [.string t] rfl rfl (by have hco := cell_one_new (wr.alloc (Obj.cells #[] 9)) (.string t) 9; rw [show (wr.alloc (Obj.cells #[] 9)).heap.size = wr.heap.size + 1 by simp] at hco; exact hco) (by simp [Value.oneCell']) (by omega) (by omega) (by simp; omega) ?_; intro v6 w6 hown6 hgrow6 _; have k6 : Below wr.heap.size wr w6 := (kA.alloc kA.size _).grown hgrow6 (by simp; omega) (own_ge own0); have hS6 := Hrest0.out w6 v6 hown6)
              | (go_at_call 34; refine (HJ.out _ _ hS6).mono ?_; rintro e w7 ⟨rfl, hb7⟩; have k7 := bchain k6 k6.size hb7)
              | (go_at_call 33; (with_reducible refine (HF2.out _ (HN.out.below (bchain hb hb.size k7))).mono ?_); rintro e w8 ⟨rfl, hb8⟩; have k8 := bchain k7 k7.size hb8; have k8a := (k8.alloc k8.size (.cells #[.string ⟨#[]⟩, .int .i64 0, .string ⟨#[]⟩] 32))))
            (try simp only [Exit.inBlock, Exit.then])
            refine bodyPost_ret (results_tmp3 rfl _ _ _) rfl ?_
            exact ⟨by rw [Hr.out]; rfl, bchain hb hb.size k8a⟩
          | some x =>
            rw [hx] at HF2
            unfold findV nodV at HF2
            obtain ⟨xp, xk, xt⟩ := x
            simp only at HF2
            have tt : (strL xt).toList = xt := ByteArray.toList_eq _
            obtain ⟨xps, hxps⟩ : ∃ u, strL xp = u := ⟨_, rfl⟩
            obtain ⟨t2, ht2⟩ : ∃ u, strL xt = u := ⟨_, rfl⟩
            simp only [hxps, ht2] at HF2
            by_cases hk1 : xk = 1 ∧ rest ≠ []
            · have Hr := Lib.hid (Hf.out.trans (walk1_file Hdd.out hx hk1.1 hk1.2))
              have hm0 : (0 : Int) < (m : Int) := by
                have h1 := List.length_pos_iff.2 hk1.2
                rw [Hm.out] at h1
                omega
              obtain ⟨rfl, -⟩ := hk1
              clear hx hxps ht2
              go_wp2_with (first
                | (at_builtin; refine wpList_append_own_none rfl (Operand.tmp 33) (Operand.tmp 34) 43 rfl wr.heap.size 9 i0 1 Tryd.underlying43 hi _ 0 [] rfl own0 rfl ?_)
                | (at_builtin; refine wpList_append_own _ rfl (Operand.tmp 35) (Operand.tmp 37) 43 rfl wr.heap.size 9 i0 (.string ⟨#[]⟩) 1 16 Tryd.underlying43 hi hz0 hz1 hz2 rfl (by decide) _ 0 [] rfl (own0.alloc _) ⟨wr.heap.size + 1, 0, none⟩ 1 1 [.string t] rfl rfl (by have hco := cell_one_new (wr.alloc (Obj.cells #[] 9)) (.string t) 9; rw [show (wr.alloc (Obj.cells #[] 9)).heap.size = wr.heap.size + 1 by simp] at hco; exact hco) (by simp [Value.oneCell']) (by omega) (by omega) (by simp; omega) ?_; intro v6 w6 hown6 hgrow6 _; have k6 : Below wr.heap.size wr w6 := (kA.alloc kA.size _).grown hgrow6 (by simp; omega) (own_ge own0); have hS6 := Hrest0.out w6 v6 hown6)
                | (go_at_call 34; refine (HJ.out _ _ hS6).mono ?_; rintro e w7 ⟨rfl, hb7⟩; have k7 := bchain k6 k6.size hb7)
                | (go_at_call 33; (with_reducible refine (HF2.out _ (HN.out.below (bchain hb hb.size k7))).mono ?_); rintro e w8 ⟨rfl, hb8⟩; have k8 := bchain k7 k7.size hb8; have k8a := (k8.alloc k8.size (.cells #[.string xps, .int .i64 1, .string t2] 32))))
              (try simp only [Exit.inBlock, Exit.then])
              refine bodyPost_ret (results_tmp3 rfl _ _ _) rfl ?_
              exact ⟨by rw [Hr.out]; rfl, bchain hb hb.size k8a⟩
            · by_cases hk3 : xk = 3
              · have htg := HO.out.link hx hk3
                have Hr := Lib.hid (Hf.out.trans (walk1_link Hdd.out hx hk3))
                subst hk3
                obtain ⟨htne, htl, _⟩ := tgtB_parts htg
                have Htg := Lib.hid htg
                clear hk1 hx htg
                cases h with
                | zero =>
                  clear hxps ht2
                  go_wp2_with (first
                    | (at_builtin; refine wpList_append_own_none rfl (Operand.tmp 33) (Operand.tmp 34) 43 rfl wr.heap.size 9 i0 1 Tryd.underlying43 hi _ 0 [] rfl own0 rfl ?_)
                    | (at_builtin; refine wpList_append_own _ rfl (Operand.tmp 35) (Operand.tmp 37) 43 rfl wr.heap.size 9 i0 (.string ⟨#[]⟩) 1 16 Tryd.underlying43 hi hz0 hz1 hz2 rfl (by decide) _ 0 [] rfl (own0.alloc _) ⟨wr.heap.size + 1, 0, none⟩ 1 1 [.string t] rfl rfl (by have hco := cell_one_new (wr.alloc (Obj.cells #[] 9)) (.string t) 9; rw [show (wr.alloc (Obj.cells #[] 9)).heap.size = wr.heap.size + 1 by simp] at hco; exact hco) (by simp [Value.oneCell']) (by omega) (by omega) (by simp; omega) ?_; intro v6 w6 hown6 hgrow6 _; have k6 : Below wr.heap.size wr w6 := (kA.alloc kA.size _).grown hgrow6 (by simp; omega) (own_ge own0); have hS6 := Hrest0.out w6 v6 hown6)
                    | (go_at_call 34; refine (HJ.out _ _ hS6).mono ?_; rintro e w7 ⟨rfl, hb7⟩; have k7 := bchain k6 k6.size hb7)
                    | (go_at_call 33; (with_reducible refine (HF2.out _ (HN.out.below (bchain hb hb.size k7))).mono ?_); rintro e w8 ⟨rfl, hb8⟩; have k8 := bchain k7 k7.size hb8; have k8a := (k8.alloc k8.size (.cells #[.string xps, .int .i64 3, .string t2] 32))))
                  (try simp only [Exit.inBlock, Exit.then])
                  refine bodyPost_ret (results_tmp3 rfl _ _ _) rfl ?_
                  exact ⟨by rw [Hr.out]; rfl, bchain hb hb.size k8a⟩
                | succ h' =>
                  have P := ref_parts_any (strL xt) (by rw [strL_size]; exact htl)
                  rw [strL_data] at P
                  have hpl : (partsL xt).length ≤ 257 := parts_len htl
                  obtain ⟨b0, hb0⟩ : ∃ b0, xt.head? = some b0 := by
                    cases xt with
                    | nil => exact absurd rfl htne
                    | cons b0 l => exact ⟨b0, rfl⟩
                  have hsz : 0 < t2.size := by rw [← ht2, strL_size]; exact List.length_pos_iff.2 htne
                  have hsz' : (0 : Int) < (t2.size : Int) := by omega
                  have hidx : ∀ hh : 0 < t2.size, t2[0]'hh = b0 := by
                    subst ht2
                    intro hh
                    have h1 := get_data (strL xt) 0 hh
                    rw [strL_data, ← List.head?_eq_getElem?, hb0] at h1
                    exact (Option.some.inj h1).symm
                  have hrowM : rowP (partsL xt ++ rest) = rowP (partsL xt) ++ rowP rest := by unfold rowP; rw [List.map_append]
                  have HrowM := Lib.hid hrowM
                  have HnsN := Lib.hid (namesOk_append (namesOk_parts Htg.out) Hrn.out)
                  have HhN := Lib.hid (here_next (t := xt) Ha.out)
                  have Hlen : Hid ((partsL xt ++ rest).length ≤ N + 300) := Lib.hid (by rw [List.length_append]; have := HrN.out; omega)
                  have hMk : ∀ (W : World) (v : Value) (B : Nat), W.ownsRow B 9 1 v ((partsL xt).length + m) (rowP (partsL xt) ++ rowP rest) → StrsAt W v (partsL xt ++ rest) := fun W v B h => strsAt_of_row (base := B) (by rw [HrowM.out, List.length_append, Hm.out]; exact h)
                  have HMk := Lib.hid hMk
                  have HmR : Hid ((rowP rest).length = m * 1) := Lib.hid (by rw [rowP_len, Hm.out, Nat.mul_one])
                  have Hc3 : Hid (∀ W, Below wr.heap.size wr W → ∀ j u, (rowP rest)[j]? = some u → W.cell? (ad.add j) = some u) := Lib.hid (fun W hW => strsAt_cells (strsAt_below HT.out hW))
                  have HRk := HR.out h' rfl
                  simp only [ht2] at P
                  obtain ⟨pn, hpn⟩ : ∃ pn, (partsL xt).length = pn := ⟨_, rfl⟩
                  rw [hpn] at hpl
                  have Hpn := Lib.hid hpn
                  have HP : Hid (∀ W, Calls Tryd.prog 35 #[.string t2] W fun e W' => ∃ v, e = .returned v ∧ W'.ownsRow W.heap.size 9 1 v pn (rowP (partsL xt)) ∧ Below W.heap.size W W') := Lib.hid (fun W => by have h := P W; unfold GivesOwn at h; rw [hpn] at h; exact h)
                  rw [hpn] at HMk
                  clear hrowM hMk hpn P HR hxps ht2
                  by_cases hb47 : b0 = 47
                  · have hcc : (((t2[0]).toNat : Int) == 47) = true := by rw [hidx]; rw [hb47]; rfl
                    have hnx : nextA xt a' = [] := by unfold nextA; rw [if_pos (by rw [hb0, hb47])]
                    rw [hnx] at HhN
                    have HhX := Lib.hid (show F = walkH L h' [] (partsL xt ++ rest) by rw [Hr.out]; show walkH L h' (nextA xt a') (partsL xt ++ rest) = _; rw [hnx])
                    have hA0 : ∀ W, StrsAt W (.slice none 0 0) [] := fun W => ⟨none, 0, rfl, Nat.le_refl _, fun h => absurd h (by simp)⟩
                    have HA0 := Lib.hid hA0
                    clear hA0 hnx hidx hb0 hb47
                    go_wp2_with (first
                      | (at_builtin; refine wpList_append_own_none rfl (Operand.tmp 33) (Operand.tmp 34) 43 rfl wr.heap.size 9 i0 1 Tryd.underlying43 hi _ 0 [] rfl own0 rfl ?_)
                      | (at_builtin; refine wpList_append_own _ rfl (Operand.tmp 35) (Operand.tmp 37) 43 rfl wr.heap.size 9 i0 (.string ⟨#[]⟩) 1 16 Tryd.underlying43 hi hz0 hz1 hz2 rfl (by decide) _ 0 [] rfl (own0.alloc _) ⟨wr.heap.size + 1, 0, none⟩ 1 1 [.string t] rfl rfl (by have hco := cell_one_new (wr.alloc (Obj.cells #[] 9)) (.string t) 9; rw [show (wr.alloc (Obj.cells #[] 9)).heap.size = wr.heap.size + 1 by simp] at hco; exact hco) (by simp [Value.oneCell']) (by omega) (by omega) (by simp; omega) ?_; intro v6 w6 hown6 hgrow6 _; have k6 : Below wr.heap.size wr w6 := (kA.alloc kA.size _).grown hgrow6 (by simp; omega) (own_ge own0); have hS6 := Hrest0.out w6 v6 hown6)
                      | (go_at_call 34; refine (HJ.out _ _ hS6).mono ?_; rintro e w7 ⟨rfl, hb7⟩; have k7 := bchain k6 k6.size hb7)
                      | (go_at_call 33; (with_reducible refine (HF2.out _ (HN.out.below (bchain hb hb.size k7))).mono ?_); rintro e w8 ⟨rfl, hb8⟩; have k8 := bchain k7 k7.size hb8; have k8a := (k8.alloc k8.size (.cells #[.string xps, .int .i64 3, .string t2] 32)))
                      | (go_at_call 35; refine (HP.out _).mono ?_; rintro e w9 ⟨v9, rfl, hown9, hb9⟩; have k9 := bchain k8a k8a.size hb9; have hown9' := own_mono hown9 k8a.size)
                      | (at_builtin; refine wpList_append_own _ rfl (Operand.tmp 69) (Operand.tmp 70) 43 rfl wr.heap.size 9 i0 (.string ⟨#[]⟩) 1 16 Tryd.underlying43 hi hz0 hz1 hz2 rfl (by decide) _ _ _ rfl hown9' ad m (c4 - 1) (rowP rest) rfl HmR.out (Hc3.out _ k9) rowP_one (by omega) (by omega) k9.size ?_; intro v10 w10 hown10 hgrow10 _; have k10 : Below wr.heap.size wr w10 := k9.grown hgrow10 k9.size (own_ge hown9'); have hM10 := HMk.out _ _ _ hown10)
                      | (go_at_call 22; refine (HRk _ _ _ [] (partsL xt ++ rest) _ (HN.out.below (bchain hb hb.size k10)) nilOk_nil (HA0.out _) hM10 HhN.out HnsN.out Hlen.out).mono ?_; rintro e w11 ⟨rfl, hb11⟩))
                    (try simp only [Exit.inBlock, Exit.then])
                    refine bodyPost_ret (results_tmp3 rfl _ _ _) rfl ?_
                    exact ⟨by rw [HhX.out]; rfl, bchain hb hb.size (bchain k10 k10.size hb11)⟩
                  · have hcc : (((t2[0]).toNat : Int) == 47) = false := by
                      rw [hidx]
                      simp only [beq_eq_false_iff_ne]
                      intro h
                      exact hb47 ((byte_eq (n := 47) (by omega)).1 h)
                    have hnx : nextA xt a' = a' := by unfold nextA; rw [if_neg (by rw [hb0]; intro h; exact hb47 (Option.some.inj h))]
                    rw [hnx] at HhN
                    have HhX := Lib.hid (show F = walkH L h' a' (partsL xt ++ rest) by rw [Hr.out]; show walkH L h' (nextA xt a') (partsL xt ++ rest) = _; rw [hnx])
                    clear hnx hidx hb0 hb47
                    go_wp2_with (first
                      | (at_builtin; refine wpList_append_own_none rfl (Operand.tmp 33) (Operand.tmp 34) 43 rfl wr.heap.size 9 i0 1 Tryd.underlying43 hi _ 0 [] rfl own0 rfl ?_)
                      | (at_builtin; refine wpList_append_own _ rfl (Operand.tmp 35) (Operand.tmp 37) 43 rfl wr.heap.size 9 i0 (.string ⟨#[]⟩) 1 16 Tryd.underlying43 hi hz0 hz1 hz2 rfl (by decide) _ 0 [] rfl (own0.alloc _) ⟨wr.heap.size + 1, 0, none⟩ 1 1 [.string t] rfl rfl (by have hco := cell_one_new (wr.alloc (Obj.cells #[] 9)) (.string t) 9; rw [show (wr.alloc (Obj.cells #[] 9)).heap.size = wr.heap.size + 1 by simp] at hco; exact hco) (by simp [Value.oneCell']) (by omega) (by omega) (by simp; omega) ?_; intro v6 w6 hown6 hgrow6 _; have k6 : Below wr.heap.size wr w6 := (kA.alloc kA.size _).grown hgrow6 (by simp; omega) (own_ge own0); have hS6 := Hrest0.out w6 v6 hown6)
                      | (go_at_call 34; refine (HJ.out _ _ hS6).mono ?_; rintro e w7 ⟨rfl, hb7⟩; have k7 := bchain k6 k6.size hb7)
                      | (go_at_call 33; (with_reducible refine (HF2.out _ (HN.out.below (bchain hb hb.size k7))).mono ?_); rintro e w8 ⟨rfl, hb8⟩; have k8 := bchain k7 k7.size hb8; have k8a := (k8.alloc k8.size (.cells #[.string xps, .int .i64 3, .string t2] 32)))
                      | (go_at_call 35; refine (HP.out _).mono ?_; rintro e w9 ⟨v9, rfl, hown9, hb9⟩; have k9 := bchain k8a k8a.size hb9; have hown9' := own_mono hown9 k8a.size)
                      | (at_builtin; refine wpList_append_own _ rfl (Operand.tmp 69) (Operand.tmp 70) 43 rfl wr.heap.size 9 i0 (.string ⟨#[]⟩) 1 16 Tryd.underlying43 hi hz0 hz1 hz2 rfl (by decide) _ _ _ rfl hown9' ad m (c4 - 1) (rowP rest) rfl HmR.out (Hc3.out _ k9) rowP_one (by omega) (by omega) k9.size ?_; intro v10 w10 hown10 hgrow10 _; have k10 : Below wr.heap.size wr w10 := k9.grown hgrow10 k9.size (own_ge hown9'); have hM10 := HMk.out _ _ _ hown10)
                      | (go_at_call 22; refine (HRk _ _ _ a' (partsL xt ++ rest) _ (HN.out.below (bchain hb hb.size k10)) Hno.out (strsAt_below HA.out k10) hM10 HhN.out HnsN.out Hlen.out).mono ?_; rintro e w11 ⟨rfl, hb11⟩))
                    (try simp only [Exit.inBlock, Exit.then])
                    refine bodyPost_ret (results_tmp3 rfl _ _ _) rfl ?_
                    exact ⟨by rw [HhX.out]; rfl, bchain hb hb.size (bchain k10 k10.size hb11)⟩
              · have hkk : ¬ (xk = 1 ∧ 0 < m) := by
                  rintro ⟨h1, h2⟩
                  exact hk1 ⟨h1, fun e => by have h3 := Hm.out; rw [e] at h3; simp at h3; omega⟩
                have Hr := Lib.hid (Hf.out.trans (walk1_go Hdd.out hx hk1 hk3))
                have hg2 : Here L (a' ++ [n]) := ⟨good_snoc Ha.out.1 (Hnn.out.2 Hdd.out), _, hx, hk3⟩
                have Hg2 := Lib.hid hg2
                have hE3 : (xk == 3) = false := by simpa using hk3
                clear hk1 hk3 hx hg2 hxps ht2
                by_cases hx1 : xk = 1
                · subst hx1
                  have hm0 : m = 0 := by omega
                  subst hm0
                  clear hkk
                  go_wp2_with (first
                    | (at_builtin; refine wpList_append_own_none rfl (Operand.tmp 33) (Operand.tmp 34) 43 rfl wr.heap.size 9 i0 1 Tryd.underlying43 hi _ 0 [] rfl own0 rfl ?_)
                    | (at_builtin; refine wpList_append_own _ rfl (Operand.tmp 35) (Operand.tmp 37) 43 rfl wr.heap.size 9 i0 (.string ⟨#[]⟩) 1 16 Tryd.underlying43 hi hz0 hz1 hz2 rfl (by decide) _ 0 [] rfl (own0.alloc _) ⟨wr.heap.size + 1, 0, none⟩ 1 1 [.string t] rfl rfl (by have hco := cell_one_new (wr.alloc (Obj.cells #[] 9)) (.string t) 9; rw [show (wr.alloc (Obj.cells #[] 9)).heap.size = wr.heap.size + 1 by simp] at hco; exact hco) (by simp [Value.oneCell']) (by omega) (by omega) (by simp; omega) ?_; intro v6 w6 hown6 hgrow6 _; have k6 : Below wr.heap.size wr w6 := (kA.alloc kA.size _).grown hgrow6 (by simp; omega) (own_ge own0); have hS6 := Hrest0.out w6 v6 hown6)
                    | (go_at_call 34; refine (HJ.out _ _ hS6).mono ?_; rintro e w7 ⟨rfl, hb7⟩; have k7 := bchain k6 k6.size hb7)
                    | (go_at_call 33; (with_reducible refine (HF2.out _ (HN.out.below (bchain hb hb.size k7))).mono ?_); rintro e w8 ⟨rfl, hb8⟩; have k8 := bchain k7 k7.size hb8; have k8a := (k8.alloc k8.size (.cells #[.string xps, .int .i64 1, .string t2] 32))))
                  go_roundw
                  case rel => exact ⟨_, rest, nilOk_own hown6, strsAt_below (strsAt_below (strsAt_below hS6 hb7) hb8) (below_alloc w8 _), strsAt_below HT.out k8a, Hg2.out, Hrn.out, HrN.out, bchain hb hb.size k8a, Hr.out⟩
                  case measure => show 0 < 0 + 1; omega
                · have hE1 : (xk == 1) = false := by simpa using hx1
                  clear hkk
                  go_wp2_with (first
                    | (at_builtin; refine wpList_append_own_none rfl (Operand.tmp 33) (Operand.tmp 34) 43 rfl wr.heap.size 9 i0 1 Tryd.underlying43 hi _ 0 [] rfl own0 rfl ?_)
                    | (at_builtin; refine wpList_append_own _ rfl (Operand.tmp 35) (Operand.tmp 37) 43 rfl wr.heap.size 9 i0 (.string ⟨#[]⟩) 1 16 Tryd.underlying43 hi hz0 hz1 hz2 rfl (by decide) _ 0 [] rfl (own0.alloc _) ⟨wr.heap.size + 1, 0, none⟩ 1 1 [.string t] rfl rfl (by have hco := cell_one_new (wr.alloc (Obj.cells #[] 9)) (.string t) 9; rw [show (wr.alloc (Obj.cells #[] 9)).heap.size = wr.heap.size + 1 by simp] at hco; exact hco) (by simp [Value.oneCell']) (by omega) (by omega) (by simp; omega) ?_; intro v6 w6 hown6 hgrow6 _; have k6 : Below wr.heap.size wr w6 := (kA.alloc kA.size _).grown hgrow6 (by simp; omega) (own_ge own0); have hS6 := Hrest0.out w6 v6 hown6)
                    | (go_at_call 34; refine (HJ.out _ _ hS6).mono ?_; rintro e w7 ⟨rfl, hb7⟩; have k7 := bchain k6 k6.size hb7)
                    | (go_at_call 33; (with_reducible refine (HF2.out _ (HN.out.below (bchain hb hb.size k7))).mono ?_); rintro e w8 ⟨rfl, hb8⟩; have k8 := bchain k7 k7.size hb8; have k8a := (k8.alloc k8.size (.cells #[.string xps, .int .i64 xk, .string t2] 32))))
                  go_roundw
                  case rel => exact ⟨_, rest, nilOk_own hown6, strsAt_below (strsAt_below (strsAt_below hS6 hb7) hb8) (below_alloc w8 _), strsAt_below HT.out k8a, Hg2.out, Hrn.out, HrN.out, bchain hb hb.size k8a, Hr.out⟩
                  case measure => show m < m + 1; omega

theorem ref_walk_any (L : List Nod) (hO : OkL L) (hl : L.length ≤ 1000000) : ∀ (h : Nat), h ≤ 8 → ∀ (nv av mv : Value) (a ns : List (List UInt8)) (w : World), NodesAt w nv L → NilOk av → StrsAt w av a → StrsAt w mv ns → Here L a → NamesOk ns → ns.length ≤ 3700 - 300 * h → Calls Tryd.prog 22 #[nv, av, mv, .int .i64 h] w (Ret (resT (walkH L h a ns)) w)
  | 0, hh => fun nv av mv a ns w => ref_walk_step L hO hl 0 3700 hh (by omega) (fun h' e => by omega) nv av mv a ns w
  | h + 1, hh => fun nv av mv a ns w hN hAn hA hM ha hn hns => ref_walk_step L hO hl (h + 1) (3700 - 300 * (h + 1)) hh (by omega) (fun h' e nv av mv a ns w h1 h2 h3 h4 h5 h6 h7 => by
      obtain rfl : h' = h := by omega
      exact ref_walk_any L hO hl h' (by omega) nv av mv a ns w h1 h2 h3 h4 h5 h6 (by omega)) nv av mv a ns w hN hAn hA hM ha hn hns

set_option maxRecDepth 100000 in
set_option maxHeartbeats 4000000 in
theorem ref_resolve_any (nv : Value) (L : List Nod) (s : ByteArray) (w : World) (hN : NodesAt w nv L) (hl : L.length ≤ 1000000) : Calls Tryd.prog 11 #[nv, .string s] w (Ret (resT (resolveV L s.data.toList)) w) := by
  have C := fun W hW => ref_check_any nv L W hW
  have R := ref_right_any s
  have N := ref_names_any s
  have HN := Lib.hid hN
  obtain ⟨F, hF⟩ : ∃ F, resolveV L s.data.toList = F := ⟨_, rfl⟩
  rw [hF]
  unfold resolveV at hF
  obtain ⟨A, c, rfl⟩ := hN.form
  by_cases h0 : (checkV L).1 = 0
  · rw [if_pos h0] at hF
    have ho := (checkV_ok h0).2
    unfold pairT at C
    rw [h0] at C
    cases hr : rightB s.data.toList with
    | false =>
      rw [hr, if_neg (by decide)] at hF
      rw [hr] at R
      subst hF
      clear h0 hr ho
      go_enter Tryd.func11, Tryd.ntmps11
      go_wp2_with (first
        | (go_at_call 20; refine (C _ HN.out).mono ?_; rintro e w1 ⟨rfl, hb1⟩)
        | (go_at_call 21; refine (R _).mono ?_; rintro e w2 ⟨rfl, rfl⟩))
      (try simp only [Exit.inBlock, Exit.then])
      refine bodyPost_ret (results_tmp3 rfl _ _ _) rfl ?_
      exact ⟨rfl, hb1⟩
    | true =>
      rw [hr, if_pos rfl] at hF
      rw [hr] at R
      have hlen := names_small s.data.toList
      have W := fun mv W h1 h4 => ref_walk_any L ho hl 8 (Nat.le_refl _) (.slice A L.length c) (.slice none 0 0) mv [] (namesL s.data.toList) W h1 nilOk_nil ⟨none, 0, rfl, Nat.le_refl _, fun h => absurd h (by simp)⟩ h4 (here_nil L) (namesOk_names _) (by omega)
      rw [hF] at W
      unfold resT at W
      have HW := Lib.hid W
      have Hz : Hid (∀ x : Value, x = resT F → x = resT F) := Lib.hid (fun x h => h)
      clear h0 hr ho W hF hlen
      go_enter Tryd.func11, Tryd.ntmps11
      go_wp2_with (first
        | (go_at_call 20; refine (C _ HN.out).mono ?_; rintro e w1 ⟨rfl, hb1⟩)
        | (go_at_call 21; refine (R _).mono ?_; rintro e w2 ⟨rfl, rfl⟩)
        | (go_at_call 23; refine (N _).mono ?_; rintro e w3 ⟨v3, rfl, hs3, hb3⟩; have k3 := bchain hb1 hb1.size hb3)
        | (go_at_call 22; refine (HW.out _ _ (HN.out.below k3) hs3).mono ?_; rintro e w4 ⟨rfl, hb4⟩))
      (try simp only [Exit.inBlock, Exit.then])
      refine bodyPost_ret (results_tmp3 rfl _ _ _) rfl ?_
      exact ⟨rfl, bchain k3 k3.size hb4⟩
  · rw [if_neg h0] at hF
    obtain ⟨z, hz⟩ : ∃ z, (checkV L).1 = z := ⟨_, rfl⟩
    obtain ⟨z2, hz2⟩ : ∃ z, (checkV L).2 = z := ⟨_, rfl⟩
    unfold pairT at C
    rw [hz] at h0 hF
    rw [hz, hz2] at C
    have hE : (z == 0) = false := by simpa using h0
    subst hF
    clear h0 hz hz2
    go_enter Tryd.func11, Tryd.ntmps11
    go_wp2_with (go_at_call 20; refine (C _ HN.out).mono ?_; rintro e w1 ⟨rfl, hb1⟩)
    (try simp only [Exit.inBlock, Exit.then])
    refine bodyPost_ret (results_tmp3 rfl _ _ _) rfl ?_
    exact ⟨rfl, hb1⟩
end Go.Proofs.YtnjpodbefcfdhaaDoor
