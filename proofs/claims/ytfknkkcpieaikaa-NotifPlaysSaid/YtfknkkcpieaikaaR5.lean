/- The document's table: Add. Conditions: it can be read; what is laid down of its numbers. -/
import Derived.Test.YtfknkkcpieaikaaSrc
import Derived.Deep.RegionLaw
import Derived.BigRegion
import Derived.BigQuiet
import Derived.Deep.DeepCutAuto
import Derived.Outline
namespace Go.Proofs.Ytfknkkcpieaikaa
open Go.RowKit
set_option linter.unusedVariables false
set_option linter.unusedSimpArgs false

theorem below_alloc_drew (w : World) (o : Obj) : Below w.heap.size w (w.alloc o).drew := (below_alloc w o).drew
theorem src_cells {W : World} {g sz : Nat} {cs : Array Value} {t : TypeId} (h : W.heap[g]? = some (.cells cs t (0, 0))) (hs : cs.toList.length = 1 * sz) (h1 : ∀ u ∈ cs.toList, u.oneCell' = true) : SrcAt W sz (some ⟨g, 0, none⟩) 1 cs.toList := by
  refine ⟨hs, fun _ => ⟨g, 0, rfl, fun j u hu => ?_⟩, h1⟩
  rw [Nat.zero_add]
  unfold World.cell?
  rw [h]
  show cs[j]? = some u
  rw [← Array.getElem?_toList]
  exact hu
/-- Behind the store of the longer row. -/
def MidAdd (w wx : World) (r : Nat) (v : Value) (T : Tb) : Prop := ∃ v', RefAt wx r v' T ∧ Upto (ROwn r v) w wx ∧ ∀ k, v'.ownBlock = some k → v.ownBlock = some k ∨ w.heap.size ≤ k
theorem RefAt.next {w : World} {r : Nat} {v : Value} {T : Tb} (h : RefAt w r v T) (nx : Int) : RefAt (w.setCell ⟨r, 3, none⟩ (.int .u64 nx)) r v { T with next := nx } :=
  ⟨cells_set (o := 3) h.q _, own_kept h.row (set_upto w r 3 _) (fun k hk ho => h.ne (by rw [ho, hk])), h.ne⟩
/-- Another row is laid in. -/
theorem RefAt.lay {w w2 : World} {r : Nat} {v v' : Value} {T : Tb} {L : List Ent} (h : RefAt w r v T) (hq : w2.heap[r]? = w.heap[r]?) (hrow : w2.ownsRow 0 37 6 v' L.length (rowE L)) (hne : v'.ownBlock ≠ some r) : RefAt (w2.setCell ⟨r, 0, none⟩ v') r v' { T with L := L } :=
  ⟨cells_set (o := 0) (hq.trans h.q) _, own_kept hrow (set_upto w2 r 0 _) (fun k hk ho => hne (by rw [ho, hk])), hne⟩
theorem rowE_append (L : List Ent) (x : Ent) : rowE (L ++ [x]) = rowE L ++ x.cells.toList := by unfold rowE; rw [List.flatMap_append]; simp
theorem MidAdd.drew {w wx : World} {r : Nat} {v : Value} {T : Tb} (h : MidAdd w wx r v T) : MidAdd w wx.drew r v T := by
  obtain ⟨v', h1, h2, h3⟩ := h
  exact ⟨v', ⟨h1.q, h1.row, h1.ne⟩, h2.drew, h3⟩
theorem row_keep {W2 W w2 : World} {r : Nat} {v : Value} {T : Tb} (hT : RefAt W2 r v T) (hW : Below W2.heap.size W2 W) (hg : W.grownBy w2 v.ownBlock) : w2.heap[r]? = W2.heap[r]? :=
  (((below_upto (S := fun k => v.ownBlock = some k) hW).grown hg (fun k hk => .inl hk)).block r hT.lt hT.ne)
theorem add_close {wr W2 W w2 : World} {r i : Nat} {v v2 : Value} {T : Tb} {x : Ent} (HU2 : Upto F0 wr W2) (hT : RefAt W2 r v T) (hW : Below W2.heap.size W2 W) (hg : W.grownBy w2 v.ownBlock) (hat : v2.ownBlock = v.ownBlock ∨ v2.ownBlock = some W.heap.size) (ho : w2.ownsRow 0 37 6 v2 (i + 1) (rowE T.L ++ x.cells.toList)) (hn : T.L.length = i) :
    MidAdd wr (w2.setCell ⟨r, 0, none⟩ v2) r v { T with L := T.L ++ [x] } := by
  have hu := (below_upto (S := fun k => v.ownBlock = some k) hW).grown hg (fun k hk => .inl hk)
  have hrl := hT.lt
  have hne : v2.ownBlock ≠ some r := fun e => by
    rcases hat with h | h
    · exact hT.ne (by rw [← h]; exact e)
    · rw [h] at e; cases e; have := hW.size; omega
  refine ⟨v2, hT.lay (row_keep hT hW hg) (by rw [List.length_append, hn, rowE_append]; exact ho) hne, ?_, fun k hk => ?_⟩
  · exact Upto.setCell (S := ROwn r v) ((HU2.mono (fun _ h => False.elim h)).then (hu.mono (fun k hk => .inl (.inr hk)))) (p := ⟨r, 0, none⟩) (.inl (.inl rfl)) _
  · rcases hat with h | h
    · exact .inl (by rw [← h]; exact hk)
    · rw [h] at hk; cases hk; exact .inr (Nat.le_trans HU2.size hW.size)
set_option maxRecDepth 100000 in
set_option maxHeartbeats 8000000 in
theorem radd_any (r : Nat) (v : Value) (T : Tb) (m : Int) (w : World) (h : RefAt w r v T) (hF : Fine T) : Calls Try.prog 29 #[.pointer (some ⟨r, 0, none⟩), .int .i64 m] w (RPost r v (addT T m).2.2 (.tuple #[.int .u64 (addT T m).1, .int .i64 (addT T m).2.1]) w) := by
  have hl : T.L.length ≤ 8 := by have := hF.len; have := hF.s2; omega
  have H := Lib.hid h
  have HF := Lib.hid hF
  have Hsame : Hid (∃ v', RefAt w r v' T ∧ Upto (ROwn r v) w w ∧ ∀ k, v'.ownBlock = some k → v.ownBlock = some k ∨ w.heap.size ≤ k) := Lib.hid ⟨v, h, Upto.refl _ _, fun k h => .inl h⟩
  obtain ⟨i7, hi7, hz7, hs7, hb7⟩ := info_parts info37
  by_cases m1 : m < 1
  · have HR : Hid (addT T m = (0, 1, T)) := Lib.hid (by unfold addT; rw [if_pos (.inl m1)])
    have mE : (m < 1) = True := eq_true m1
    clear h hF m1
    go_enter Try.func29, Try.ntmps29
    go_wp2
    go_ret2
    rw [HR.out]
    exact ⟨rfl, Hsame.out⟩
  have mE : (m < 1) = False := eq_false m1
  by_cases m4 : 4 < m
  · have HR : Hid (addT T m = (0, 1, T)) := Lib.hid (by unfold addT; rw [if_pos (.inr m4)])
    have mE4 : (4 < m) = True := eq_true m4
    clear h hF m1 m4
    go_enter Try.func29, Try.ntmps29
    go_wp2
    go_ret2
    rw [HR.out]
    exact ⟨rfl, Hsame.out⟩
  have mE4 : (4 < m) = False := eq_false m4
  have hmm : ¬ (m < 1 ∨ 4 < m) := by omega
  have Hmm := Lib.hid hmm
  have cL := h.c0
  obtain ⟨A, c, rfl⟩ := owns_form h.row
  have hent := fun h0 => ents_at h.row rfl h0
  obtain ⟨n, hn⟩ : ∃ n, T.L.length = n := ⟨_, rfl⟩
  rw [hn] at cL hl hent H Hsame ⊢
  have Hn := Lib.hid hn
  have Hent := Lib.hid hent
  clear h hF hent hn m1 m4 hmm
  go_enter Try.func29, Try.ntmps29
  go_wp2
  go_loopw [6] (fun iv wr => ∃ i : Nat, i ≤ n ∧ iv = .int .i64 i ∧ wr = w ∧ ofL T.L m = (T.L.drop i).find? (fun x => x.task == m)) (fun iv _ => n - (intOf iv).toNat)
  case atStart => exact ⟨0, Nat.zero_le _, rfl, rfl, rfl⟩
  case round =>
    obtain ⟨i, hi, rfl, rfl, hf⟩ := hrel
    by_cases hlt : i < n
    · have hlt' : (i : Int) < n := by omega
      obtain ⟨g, o, rfl, hcl⟩ := Hent.out (by omega)
      obtain ⟨x, hx⟩ : ∃ x, T.L[i]? = some x := ⟨_, List.getElem?_eq_getElem (by rw [Hn.out]; exact hlt)⟩
      obtain ⟨_, d1, _⟩ := hcl i x hx
      rw [find_drop hx] at hf
      by_cases he : x.task = m
      · rw [he] at d1
        rw [if_pos (by simpa using he)] at hf
        have HR : Hid (addT T m = (0, 21, T)) := Lib.hid (by unfold addT; rw [if_neg Hmm.out, hf])
        clear hf hcl hx
        have hE : (m == m) = true := by simp
        go_wp2
        go_ret2
        rw [HR.out]
        exact ⟨rfl, Hsame.out⟩
      · have heE : (x.task == m) = false := by simpa using he
        rw [if_neg (by simpa using he)] at hf
        have Hf := Lib.hid hf
        obtain ⟨xi, hxi⟩ : ∃ xi, x.task = xi := ⟨_, rfl⟩
        rw [hxi] at d1 heE
        clear hf hcl hx he
        go_wp2
        go_roundw
        case rel => exact ⟨i + 1, by omega, by go_num, trivial, Hf.out⟩
        case measure => (simp [intOf] <;> omega)
    · obtain rfl : i = n := by omega
      rw [List.drop_of_length_le (by rw [Hn.out]; exact Nat.le_refl _)] at hf
      have Hof : Hid (ofL T.L m = none) := Lib.hid hf
      have hn2 := HF.out.n2
      have hn1 := HF.out.n1
      have c1 := H.out.c1
      have c2 := H.out.c2
      have c3 := H.out.c3
      obtain ⟨sz, hsz⟩ : ∃ m, T.size = m := ⟨_, rfl⟩
      obtain ⟨nx, hnx⟩ : ∃ m, T.next = m := ⟨_, rfl⟩
      obtain ⟨wt, hwt⟩ : ∃ m, T.wait = m := ⟨_, rfl⟩
      have Hsz := Lib.hid hsz
      have Hnx := Lib.hid hnx
      have Hwt := Lib.hid hwt
      rw [hsz] at c1
      rw [hnx] at c3 hn1 hn2
      rw [hwt] at c2
      clear hf hsz hnx hwt hlt
      by_cases hfull : sz ≤ i
      · have HR : Hid (addT T m = (0, 16, T)) := Lib.hid (by unfold addT; rw [if_neg Hmm.out, Hof.out]; simp only; rw [if_pos (.inl (by rw [Hsz.out, Hn.out]; exact hfull))])
        have hge : decide (sz ≤ (i : Int)) = true := by simpa using hfull
        clear hfull
        go_upto_region 8 with (fail)
        go_quiet (fail)
        go_wp2
        go_ret2
        rw [HR.out]
        exact ⟨rfl, _, ⟨H.out.q, H.out.row, H.out.ne⟩, drewN_upto _ _ _, fun k h => .inl h⟩
      · have hnf : (i : Int) < sz := by omega
        have hge : decide (sz ≤ (i : Int)) = false := by simpa using hnf
        by_cases hmax : nx = 18446744073709551615
        · have HR : Hid (addT T m = (0, 16, T)) := Lib.hid (by unfold addT; rw [if_neg Hmm.out, Hof.out]; simp only; rw [if_pos (.inr (by rw [Hnx.out]; exact hmax))])
          subst hmax
          clear hfull
          go_upto_region 8 with (fail)
          go_quiet (fail)
          go_wp2
          go_ret2
          rw [HR.out]
          exact ⟨rfl, _, ⟨H.out.q, H.out.row, H.out.ne⟩, drewN_upto _ _ _, fun k h => .inl h⟩
        · have HR : Hid (addT T m = (nx, 0, pushT T m)) := Lib.hid (by unfold addT; rw [if_neg Hmm.out, Hof.out]; simp only; rw [if_neg (by rw [Hsz.out, Hnx.out, Hn.out]; omega), Hnx.out])
          have hnE : (nx == 18446744073709551615) = false := by simpa using hmax
          clear hfull
          go_upto_region 8 with (fail)
          go_quiet (fail)
          obtain ⟨W2, hW2⟩ : ∃ W, wr.drewN nq = W := ⟨_, rfl⟩
          have HU2 : Hid (Upto F0 wr W2) := Lib.hid (by rw [← hW2]; exact drewN_upto _ _ _)
          rw [hW2]
          have hT2 := H.out.upto HU2.out (fun _ _ h => h)
          have b0 := hT2.c0
          have b2 := hT2.c2
          have b3 := hT2.c3
          rw [Hnx.out] at b3
          rw [Hwt.out] at b2
          have HT2 := Lib.hid hT2
          clear cL c1 c2 c3 hge hW2 hT2
          go_upto_region 10 with (fail)
          go_cut [] from 4 (fun wx => MidAdd wr wx r (.slice A i c) { T with L := T.L ++ [fresh T m] })
          case first =>
            have hR0 := HT2.out.row
            rw [Hn.out] at hR0
            have HR0 := Lib.hid hR0
            have HBA := Lib.hid (below_alloc_drew W2 (.cells #[.int .u64 nx, .int .i64 m, .int .i64 1, .int .i64 wt, .int .i64 0, .int .i64 0] 37))
            have HP : Hid ((W2.alloc (.cells #[.int .u64 nx, .int .i64 m, .int .i64 1, .int .i64 wt, .int .i64 0, .int .i64 0] 37)).drew.heap[W2.heap.size]? = some (.cells #[.int .u64 nx, .int .i64 m, .int .i64 1, .int .i64 wt, .int .i64 0, .int .i64 0] 37 (0, 0))) := Lib.hid (World.alloc_heap_new W2 _)
            have Hfr : Hid ((fresh T m).cells.toList = [.int .u64 nx, .int .i64 m, .int .i64 1, .int .i64 wt, .int .i64 0, .int .i64 0]) := Lib.hid (by simp [fresh, Ent.cells, Hnx.out, Hwt.out])
            have ba0 := fun ob => keep_cell (below_alloc W2 ob) b0
            clear hR0
            go_wp2
            go_region_law (first
              | (refine step_append_src _ (by rfl) (Operand.tmp 53) (Operand.tmp 64) _ (by rfl) 0 37 i7 _ 6 48 under33 hi7 hz7 hs7 hb7 rfl (by decide) (.slice A i c) i (rowE T.L) (by rfl) (own_kept HR0.out (below_upto (S := F0) (by first | exact HBA.out | exact HBA.out.drew)) (fun _ h => False.elim h)) (some ⟨W2.heap.size, 0, none⟩) 1 1 [.int .u64 nx, .int .i64 m, .int .i64 1, .int .i64 wt, .int .i64 0, .int .i64 0] (by rfl) (src_cells (cs := #[.int .u64 nx, .int .i64 m, .int .i64 1, .int .i64 wt, .int .i64 0, .int .i64 0]) HP.out rfl (by simp [Value.oneCell'])) (by unfold maxLen; omega) (by omega) (Nat.zero_le _) ?_; intro v2 w2 hown2 hgrow2 hat2; obtain ⟨A5, c5, rfl⟩ := owns_form hown2; have hq5 : w2.heap[r]? = W2.heap[r]? := row_keep HT2.out (by first | exact HBA.out | exact HBA.out.drew) hgrow2; have d5 : w2.cell? ⟨r, 0, none⟩ = some (.slice A i c) := (World.cell?_of_block (a := ⟨r, 0, none⟩) hq5).trans HT2.out.c0; have f5 : w2.frozen? ⟨r, 0, none⟩ = false := (by have hq6 := hq5.trans HT2.out.q; simp [World.frozen?, hq6]); have Hown2 := Lib.hid hown2; have Hgrow2 := Lib.hid hgrow2; have Hat2 := Lib.hid hat2; clear hown2 hgrow2 hat2 hq5)
              | fail)
            all_goals
              go_wp2
              go_meet
              case rel =>
                have hcl := add_close (x := fresh T m) HU2.out HT2.out (by first | exact HBA.out | exact HBA.out.drew) Hgrow2.out Hat2.out (by rw [Hfr.out]; exact Hown2.out) Hn.out
                first | exact hcl | exact hcl.drew | exact hcl.drew.drew
          case rest =>
            obtain ⟨v', hT, hU, hO⟩ := hcut
            have c3 := hT.c3
            have z3 := hT.fz 3
            have hw1 : IntKind.u64.wrap (nx + 1) = nx + 1 := by rw [IntKind.wrap_u64]; omega
            have hw2 : IntKind.u64.wrap (nx + 1 - 1) = nx := by rw [IntKind.wrap_u64]; omega
            rw [show ({ T with L := T.L ++ [fresh T m] } : Tb).next = nx from Hnx.out] at c3
            have HT' := Lib.hid (hT.next (nx + 1))
            have HU' := Lib.hid hU
            have HO' := Lib.hid hO
            clear hT hU hO
            go_wp2
            go_ret2
            rw [HR.out]
            have e : ({ ({ T with L := T.L ++ [fresh T m] } : Tb) with next := nx + 1 } : Tb) = pushT T m := by unfold pushT; rw [Hnx.out]
            have hT3 := HT'.out
            rw [e] at hT3
            exact ⟨rfl, v', hT3, Upto.setCell HU'.out (p := ⟨r, 3, none⟩) (.inl (.inl rfl)) _, HO'.out⟩
end Go.Proofs.Ytfknkkcpieaikaa
