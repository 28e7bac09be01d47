/- Which rule may be shown. Condition: the rule can be read. -/
import Derived.Test.YtjmmbadpknlmcaaMem
import Derived.Test.YtjmmbadpknlmcaaIs
import Derived.Test.YtjmmbadpknlmcaaAct
namespace Go.Proofs.Ytjmmbadpknlmcaa
open Go.RowKit
attribute [local go_sem ↓] Go.wp_at_zero Go.wp_at_succ
set_option linter.unusedVariables false
set_option linter.unusedSimpArgs false

/-- A loop's round: the place; what lay ahead of the loop lies; what is known of the place. -/
def LR (n : Nat) (wa : World) (p : Nat → Prop) (i : Value) (wr : World) : Prop :=
  ∃ k : Nat, k ≤ n ∧ i = .int .i64 k ∧ Below wa.heap.size wa wr ∧ p k
theorem all_at {α : Type} {L : List α} {k : Nat} {x : α} (h : L[k]? = some x) (f : α → Bool) : (L.drop k).all f = (f x && (L.drop (k + 1)).all f) := by
  have hl := (List.getElem?_eq_some_iff.1 h).1
  rw [List.drop_eq_getElem_cons hl, (List.getElem?_eq_some_iff.1 h).2]
  rfl

def fineB (k a : Int) (ns : List ByteArray) (cs : List Cnd) : Bool :=
  actB k a && decide (1 ≤ ns.length ∧ ns.length ≤ 16 ∧ cs.length ≤ 8) && (ns.all wordB && cs.all fun c => rightB c.a c.o)

set_option maxRecDepth 100000 in
set_option maxHeartbeats 2000000 in
theorem fine_any (k a : Int) (nv cv : Value) (ns : List ByteArray) (cs : List Cnd) (w : World) (hn : StrsAt w nv ns) (hc : CndsAt w cv cs) :
    Calls Try.prog 51 #[.agg #[.int .i64 k, .int .i64 a, nv, cv]] w (Ret (.bool (fineB k a ns cs)) w) := by
  obtain ⟨A, c, rfl, hnl, hnc⟩ := hn
  obtain ⟨A2, c2, rfl, hcl, hcc⟩ := hc
  have Act := act_any k a
  obtain ⟨F, hF⟩ : ∃ F, fineB k a ns cs = F := ⟨_, rfl⟩
  rw [hF]
  unfold fineB at hF
  obtain ⟨y, hy⟩ : ∃ y, actB k a = y := ⟨_, rfl⟩
  rw [hy] at Act hF
  obtain ⟨n, hnn⟩ : ∃ n, ns.length = n := ⟨_, rfl⟩
  obtain ⟨m, hmm⟩ : ∃ m, cs.length = m := ⟨_, rfl⟩
  rw [hnn] at hF hnl hnc ⊢
  rw [hmm] at hF hcl hcc ⊢
  have HF := Lib.hid hF
  have Hnc := Lib.hid hnc
  have Hcc := Lib.hid hcc
  clear hF hnc hcc hy
  have hbox := below_alloc w (.cells #[.int .i64 k, .int .i64 a, .slice A n c, .slice A2 m c2] 44)
  go_enter Try.func51, Try.ntmps51
  cases y with
  | false =>
    go_wp2_with (go_at_call 32; refine (Act _).mono ?_; rintro e w1 ⟨rfl, hb1⟩)
    go_ret
    exact ⟨by rw [← HF.out]; simp, bchain hbox hbox.size hb1⟩
  | true =>
    by_cases hlen : 1 ≤ n ∧ n ≤ 16 ∧ m ≤ 8
    · obtain ⟨q1, q2, q3⟩ := hlen
      have q1' : ¬ (n : Int) < 1 := by omega
      have q2' : ¬ (16 : Int) < n := by omega
      have q3' : ¬ (8 : Int) < m := by omega
      go_wp2_with (go_at_call 32; refine (Act _).mono ?_; rintro e w1 ⟨rfl, hb1⟩; have d2 : w1.cell? ⟨w.heap.size, 2, none⟩ = some (.slice A n c) := keep_cell hb1 (by go_keep); have d3 : w1.cell? ⟨w.heap.size, 3, none⟩ = some (.slice A2 m c2) := keep_cell hb1 (by go_keep))
      have hw1 : Below w.heap.size w w1 := bchain hbox hbox.size hb1
      go_loopw [32] (fun i wr => LR n w1 (fun k => ns.all wordB = (ns.drop k).all wordB) i wr) (fun i _ => n - (intOf i).toNat)
      case atStart => exact ⟨0, by omega, rfl, Below.refl _ _, rfl⟩
      case round =>
        obtain ⟨j, hj, rfl, hb, hf⟩ := hrel
        by_cases hlt : j < n
        · obtain ⟨gl, o, rfl, hcell⟩ := Hnc.out (by omega)
          obtain ⟨x, hx⟩ : ∃ x, ns[j]? = some x := ⟨_, List.getElem?_eq_getElem (by omega)⟩
          obtain ⟨e0, hxs⟩ := hcell j x hx
          have e1 : wr.cell? ⟨gl, o + j, none⟩ = some (.string x) := by rw [Nat.mul_one] at e0; exact keep_cell hb (keep_cell hw1 e0)
          rw [all_at hx] at hf
          have hlt' : (j : Int) < n := by omega
          have I := is_any x
          obtain ⟨z, hz⟩ : ∃ z, wordB x = z := ⟨_, rfl⟩
          rw [hz] at I hf
          have Hf := Lib.hid hf
          clear hcell e0 hx hz hf
          cases z with
          | true =>
            go_wp2_with (go_at_call 68; (with_reducible refine (I _).mono ?_); rintro e w5 ⟨rfl, hb5⟩)
            go_roundw
            case rel => exact ⟨j + 1, by omega, by go_num, bchain hb hb.size hb5, Hf.out⟩
            case measure => (simp [intOf] <;> omega)
          | false =>
            go_wp2_with (go_at_call 68; (with_reducible refine (I _).mono ?_); rintro e w5 ⟨rfl, hb5⟩)
            go_ret
            exact ⟨by rw [← HF.out, Hf.out]; simp, bchain (bchain hw1 hw1.size hb) (bchain hw1 hw1.size hb).size hb5⟩
        · obtain rfl : j = n := by omega
          rw [List.drop_eq_nil_of_le (by omega)] at hf
          have Hf := Lib.hid hf
          have d3r : wr.cell? ⟨w.heap.size, 3, none⟩ = some (.slice A2 m c2) := keep_cell hb d3
          have hwr : Below w.heap.size w wr := bchain hw1 hw1.size hb
          clear hf d2 d3
          go_wp2
          generalize hwb : wr = wb
          have d3b : wb.cell? ⟨w.heap.size, 3, none⟩ = some (.slice A2 m c2) := hwb ▸ d3r
          have hwb2 : Below w.heap.size w wb := hwb ▸ hwr
          go_loopw [43] (fun i wr => LR m wb (fun k => cs.all (fun c => rightB c.a c.o) = (cs.drop k).all fun c => rightB c.a c.o) i wr) (fun i _ => m - (intOf i).toNat)
          case atStart => exact ⟨0, by omega, rfl, Below.refl _ _, rfl⟩
          case round =>
            obtain ⟨i, hi, rfl, hb4, hf4⟩ := hrel
            by_cases hlt4 : i < m
            · obtain ⟨gl, o, rfl, hcell⟩ := Hcc.out (by omega)
              obtain ⟨x, hx⟩ : ∃ x, cs[i]? = some x := ⟨_, List.getElem?_eq_getElem (by omega)⟩
              obtain ⟨e0, e1, e2, e3⟩ := hcell i x hx
              obtain ⟨ca, co, cm, cv⟩ := x
              have f0 : wr.cell? ⟨gl, o + i * 4, none⟩ = some (.int .i64 ca) := keep_cell hb4 (keep_cell hwb2 e0)
              have f1 : wr.cell? ⟨gl, o + i * 4 + 1, none⟩ = some (.int .i64 co) := keep_cell hb4 (keep_cell hwb2 e1)
              have f2 : wr.cell? ⟨gl, o + i * 4 + 2, none⟩ = some (.int .u64 cm) := keep_cell hb4 (keep_cell hwb2 e2)
              have f3 : wr.cell? ⟨gl, o + i * 4 + 3, none⟩ = some (.int .u64 cv) := keep_cell hb4 (keep_cell hwb2 e3)
              rw [all_at hx] at hf4
              have hlt' : (i : Int) < m := by omega
              have I := right_any ca co cm cv
              obtain ⟨z, hz⟩ : ∃ z, rightB ca co = z := ⟨_, rfl⟩
              have hz' : rightB (Cnd.mk ca co cm cv).a (Cnd.mk ca co cm cv).o = z := hz
              rw [hz] at I
              rw [hz'] at hf4
              have Hf4 := Lib.hid hf4
              clear hcell e0 e1 e2 e3 hx hz hz' hf4
              cases z with
              | true =>
                go_wp2_with (go_at_call 55; (with_reducible refine (I _).mono ?_); rintro e w5 ⟨rfl, hb5⟩)
                go_roundw
                case rel => exact ⟨i + 1, by omega, by go_num, (by have k1 := hb4.alloc hb4.size (Obj.cells #[.int .i64 ca, .int .i64 co, .int .u64 cm, .int .u64 cv] 40); exact bchain k1 k1.size hb5), Hf4.out⟩
                case measure => (simp [intOf] <;> omega)
              | false =>
                go_wp2_with (go_at_call 55; (with_reducible refine (I _).mono ?_); rintro e w5 ⟨rfl, hb5⟩)
                go_ret
                refine ⟨by rw [← HF.out, Hf4.out]; simp, ?_⟩
                have k1 := bchain hwb2 hwb2.size (hb4.alloc hb4.size (Obj.cells #[.int .i64 ca, .int .i64 co, .int .u64 cm, .int .u64 cv] 40))
                exact bchain k1 k1.size hb5
            · obtain rfl : i = m := by omega
              rw [List.drop_eq_nil_of_le (by omega)] at hf4
              have Hf4 := Lib.hid hf4
              clear hf4
              go_wp2
              go_ret
              exact ⟨by rw [← HF.out, Hf.out, Hf4.out]; simp; omega, bchain hwb2 hwb2.size hb4⟩
    · have hF2 : F = false := by rw [← HF.out, decide_eq_false hlen]; simp
      subst hF2
      by_cases q1 : (n : Int) < 1
      · go_wp2_with (go_at_call 32; refine (Act _).mono ?_; rintro e w1 ⟨rfl, hb1⟩; have d2 : w1.cell? ⟨w.heap.size, 2, none⟩ = some (.slice A n c) := keep_cell hb1 (by go_keep))
        go_ret
        exact ⟨rfl, bchain hbox hbox.size hb1⟩
      · by_cases q2 : (16 : Int) < n
        · go_wp2_with (go_at_call 32; refine (Act _).mono ?_; rintro e w1 ⟨rfl, hb1⟩; have d2 : w1.cell? ⟨w.heap.size, 2, none⟩ = some (.slice A n c) := keep_cell hb1 (by go_keep))
          go_ret
          exact ⟨rfl, bchain hbox hbox.size hb1⟩
        · have q3 : (8 : Int) < m := by omega
          go_wp2_with (go_at_call 32; refine (Act _).mono ?_; rintro e w1 ⟨rfl, hb1⟩; have d2 : w1.cell? ⟨w.heap.size, 2, none⟩ = some (.slice A n c) := keep_cell hb1 (by go_keep); have d3 : w1.cell? ⟨w.heap.size, 3, none⟩ = some (.slice A2 m c2) := keep_cell hb1 (by go_keep))
          go_ret
          exact ⟨rfl, bchain hbox hbox.size hb1⟩
end Go.Proofs.Ytjmmbadpknlmcaa
