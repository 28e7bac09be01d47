/- Whether a rule speaks of a call and its conditions hold, of the reference. Condition: the rule can be read. -/
import Derived.Test.YtomcobmpojpdcaaMeets
namespace Go.Proofs.Ytomcobmpojpdcaa
open Go.RowKit
attribute [local go_sem ↓] Go.wp_at_zero Go.wp_at_succ
set_option linter.unusedVariables false
set_option linter.unusedSimpArgs false

set_option maxRecDepth 100000 in
set_option maxHeartbeats 4000000 in
theorem ref_meets_any (k a nr ar ip x0 x1 x2 x3 x4 x5 : Int) (nv cv : Value) (ns : List ByteArray) (cs : List Cnd) (w : World) (hn : StrsAt w nv ns) (hc : CndsAt w cv cs) :
    Calls Try.prog 33 #[.agg #[.int .i64 k, .int .i64 a, nv, cv], .agg #[.int .u32 nr, .int .u32 ar, .int .u64 ip, .int .u64 x0, .int .u64 x1, .int .u64 x2, .int .u64 x3, .int .u64 x4, .int .u64 x5]] w
      (Ret (.bool (meetsB nr x0 x1 x2 x3 x4 x5 ⟨k, a, ns, cs⟩)) w) := by
  obtain ⟨F, hF⟩ : ∃ F, meetsB nr x0 x1 x2 x3 x4 x5 ⟨k, a, ns, cs⟩ = F := ⟨_, rfl⟩
  rw [hF]
  have hF : (spokenB ns nr && cs.all (holdsC x0 x1 x2 x3 x4 x5)) = F := hF
  obtain ⟨A1, c1, rfl, hl1, hc1⟩ := hn
  obtain ⟨A2, c2, rfl, hl2, hc2⟩ := hc
  obtain ⟨n, hnn⟩ : ∃ n, ns.length = n := ⟨_, rfl⟩
  obtain ⟨m, hm⟩ : ∃ m, cs.length = m := ⟨_, rfl⟩
  rw [hnn] at hl1 hc1 ⊢
  rw [hm] at hl2 hc2 ⊢
  have HF := Lib.hid hF
  have Hc1 := Lib.hid hc1
  have Hc2 := Lib.hid hc2
  clear hF hc1 hc2
  have hbox0 := below_alloc w (.cells #[.int .i64 k, .int .i64 a, .slice A1 n c1, .slice A2 m c2] 48)
  have g2 := keep_cell (below_alloc _ (.cells #[.int .u32 nr, .int .u32 ar, .int .u64 ip, .int .u64 x0, .int .u64 x1, .int .u64 x2, .int .u64 x3, .int .u64 x4, .int .u64 x5] 41)) (new_cell w #[.int .i64 k, .int .i64 a, .slice A1 n c1, .slice A2 m c2] 48 2 rfl)
  have g3 := keep_cell (below_alloc _ (.cells #[.int .u32 nr, .int .u32 ar, .int .u64 ip, .int .u64 x0, .int .u64 x1, .int .u64 x2, .int .u64 x3, .int .u64 x4, .int .u64 x5] 41)) (new_cell w #[.int .i64 k, .int .i64 a, .slice A1 n c1, .slice A2 m c2] 48 3 rfl)
  have d0 := new_cell (w.alloc (.cells #[.int .i64 k, .int .i64 a, .slice A1 n c1, .slice A2 m c2] 48)) #[.int .u32 nr, .int .u32 ar, .int .u64 ip, .int .u64 x0, .int .u64 x1, .int .u64 x2, .int .u64 x3, .int .u64 x4, .int .u64 x5] 41 0 rfl
  have d1 := new_cell (w.alloc (.cells #[.int .i64 k, .int .i64 a, .slice A1 n c1, .slice A2 m c2] 48)) #[.int .u32 nr, .int .u32 ar, .int .u64 ip, .int .u64 x0, .int .u64 x1, .int .u64 x2, .int .u64 x3, .int .u64 x4, .int .u64 x5] 41 1 rfl
  have d2 := new_cell (w.alloc (.cells #[.int .i64 k, .int .i64 a, .slice A1 n c1, .slice A2 m c2] 48)) #[.int .u32 nr, .int .u32 ar, .int .u64 ip, .int .u64 x0, .int .u64 x1, .int .u64 x2, .int .u64 x3, .int .u64 x4, .int .u64 x5] 41 2 rfl
  have d3 := new_cell (w.alloc (.cells #[.int .i64 k, .int .i64 a, .slice A1 n c1, .slice A2 m c2] 48)) #[.int .u32 nr, .int .u32 ar, .int .u64 ip, .int .u64 x0, .int .u64 x1, .int .u64 x2, .int .u64 x3, .int .u64 x4, .int .u64 x5] 41 3 rfl
  have d4 := new_cell (w.alloc (.cells #[.int .i64 k, .int .i64 a, .slice A1 n c1, .slice A2 m c2] 48)) #[.int .u32 nr, .int .u32 ar, .int .u64 ip, .int .u64 x0, .int .u64 x1, .int .u64 x2, .int .u64 x3, .int .u64 x4, .int .u64 x5] 41 4 rfl
  have d5 := new_cell (w.alloc (.cells #[.int .i64 k, .int .i64 a, .slice A1 n c1, .slice A2 m c2] 48)) #[.int .u32 nr, .int .u32 ar, .int .u64 ip, .int .u64 x0, .int .u64 x1, .int .u64 x2, .int .u64 x3, .int .u64 x4, .int .u64 x5] 41 5 rfl
  have d6 := new_cell (w.alloc (.cells #[.int .i64 k, .int .i64 a, .slice A1 n c1, .slice A2 m c2] 48)) #[.int .u32 nr, .int .u32 ar, .int .u64 ip, .int .u64 x0, .int .u64 x1, .int .u64 x2, .int .u64 x3, .int .u64 x4, .int .u64 x5] 41 6 rfl
  have d7 := new_cell (w.alloc (.cells #[.int .i64 k, .int .i64 a, .slice A1 n c1, .slice A2 m c2] 48)) #[.int .u32 nr, .int .u32 ar, .int .u64 ip, .int .u64 x0, .int .u64 x1, .int .u64 x2, .int .u64 x3, .int .u64 x4, .int .u64 x5] 41 7 rfl
  have d8 := new_cell (w.alloc (.cells #[.int .i64 k, .int .i64 a, .slice A1 n c1, .slice A2 m c2] 48)) #[.int .u32 nr, .int .u32 ar, .int .u64 ip, .int .u64 x0, .int .u64 x1, .int .u64 x2, .int .u64 x3, .int .u64 x4, .int .u64 x5] 41 8 rfl
  have hwa : Below w.heap.size w ((w.alloc (.cells #[.int .i64 k, .int .i64 a, .slice A1 n c1, .slice A2 m c2] 48)).alloc (.cells #[.int .u32 nr, .int .u32 ar, .int .u64 ip, .int .u64 x0, .int .u64 x1, .int .u64 x2, .int .u64 x3, .int .u64 x4, .int .u64 x5] 41)) := bchain hbox0 hbox0.size (below_alloc _ _)
  go_enter Try.func33, Try.ntmps33
  go_wp2
  generalize hal : (w.alloc (.cells #[.int .i64 k, .int .i64 a, .slice A1 n c1, .slice A2 m c2] 48)).alloc (.cells #[.int .u32 nr, .int .u32 ar, .int .u64 ip, .int .u64 x0, .int .u64 x1, .int .u64 x2, .int .u64 x3, .int .u64 x4, .int .u64 x5] 41) = wa
  rw [hal] at g2 g3 hwa d0 d1 d2 d3 d4 d5 d6 d7 d8
  have hs1 : (w.alloc (.cells #[.int .i64 k, .int .i64 a, .slice A1 n c1, .slice A2 m c2] 48)).heap.size = w.heap.size + 1 := by simp
  rw [hs1] at d0 d1 d2 d3 d4 d5 d6 d7 d8
  clear hal hbox0 hs1
  go_loopw [5, 6] (fun f i wr => AnyRel n (fun p b => b = (ns.take p).any fun s => (nrV s).2 && decide ((nrV s).1 = nr)) wa f i wr) (fun _ i _ => n - (intOf i).toNat)
  case atStart => exact ⟨0, false, by omega, rfl, rfl, Below.refl _ _, by simp⟩
  case round =>
    obtain ⟨j, b, hj, rfl, rfl, hb, hf⟩ := hrel
    have hwr : Below w.heap.size w wr := bchain hwa hwa.size hb
    have g2 : wr.cell? ⟨w.heap.size, 2, none⟩ = some (.slice A1 n c1) := keep_cell hb g2
    have g3 : wr.cell? ⟨w.heap.size, 3, none⟩ = some (.slice A2 m c2) := keep_cell hb g3
    have d0 : wr.cell? ⟨w.heap.size + 1, 0, none⟩ = some (.int .u32 nr) := keep_cell hb d0
    have d1 : wr.cell? ⟨w.heap.size + 1, 1, none⟩ = some (.int .u32 ar) := keep_cell hb d1
    have d2 : wr.cell? ⟨w.heap.size + 1, 2, none⟩ = some (.int .u64 ip) := keep_cell hb d2
    have d3 : wr.cell? ⟨w.heap.size + 1, 3, none⟩ = some (.int .u64 x0) := keep_cell hb d3
    have d4 : wr.cell? ⟨w.heap.size + 1, 4, none⟩ = some (.int .u64 x1) := keep_cell hb d4
    have d5 : wr.cell? ⟨w.heap.size + 1, 5, none⟩ = some (.int .u64 x2) := keep_cell hb d5
    have d6 : wr.cell? ⟨w.heap.size + 1, 6, none⟩ = some (.int .u64 x3) := keep_cell hb d6
    have d7 : wr.cell? ⟨w.heap.size + 1, 7, none⟩ = some (.int .u64 x4) := keep_cell hb d7
    have d8 : wr.cell? ⟨w.heap.size + 1, 8, none⟩ = some (.int .u64 x5) := keep_cell hb d8
    have Hf := Lib.hid hf
    clear hf
    by_cases hlt : j < n
    · obtain ⟨gl, o, rfl, hcell⟩ := Hc1.out (by omega)
      obtain ⟨x, hx⟩ : ∃ x, ns[j]? = some x := ⟨_, List.getElem?_eq_getElem (by omega)⟩
      obtain ⟨e0, hxs⟩ := hcell j x hx
      have e1 : wr.cell? ⟨gl, o + j, none⟩ = some (.string x) := by rw [Nat.mul_one] at e0; exact keep_cell hwr e0
      have hlt' : (j : Int) < n := by omega
      have N := ref_nr_any x
      unfold nrT at N
      obtain ⟨⟨v, z⟩, hv⟩ : ∃ p, nrV x = p := ⟨_, rfl⟩
      rw [hv] at N
      have ht := any_take hx (fun s => (nrV s).2 && decide ((nrV s).1 = nr))
      rw [hv] at ht
      have Ht := Lib.hid ht
      clear hcell e0 hx hv ht
      cases z with
      | false =>
        go_wp2_with (go_at_call 12; (with_reducible refine (N _).mono ?_); rintro e w5 ⟨rfl, hb5⟩)
        go_roundw
        case rel => exact ⟨j + 1, b, by omega, by go_num, rfl, bchain hb hb.size hb5, by show b = _; rw [Ht.out, ← Hf.out]; simp⟩
        case measure => (simp [intOf] <;> omega)
      | true =>
        by_cases hvn : v = nr
        · go_wp2_with (go_at_call 12; (with_reducible refine (N _).mono ?_); rintro e w5 ⟨rfl, hb5⟩; have d0' : w5.cell? ⟨w.heap.size + 1, 0, none⟩ = some (.int .u32 nr) := keep_cell hb5 d0)
          go_roundw
          case rel => exact ⟨j + 1, true, by omega, by go_num, rfl, bchain hb hb.size hb5, by show true = _; rw [Ht.out]; simp [hvn]⟩
          case measure => (simp [intOf] <;> omega)
        · go_wp2_with (go_at_call 12; (with_reducible refine (N _).mono ?_); rintro e w5 ⟨rfl, hb5⟩; have d0' : w5.cell? ⟨w.heap.size + 1, 0, none⟩ = some (.int .u32 nr) := keep_cell hb5 d0)
          go_roundw
          case rel => exact ⟨j + 1, b, by omega, by go_num, rfl, bchain hb hb.size hb5, by show b = _; rw [Ht.out, ← Hf.out]; simp [hvn]⟩
          case measure => (simp [intOf] <;> omega)
    · obtain rfl : j = n := by omega
      have hsp : spokenB ns nr = b := by rw [Hf.out, List.take_of_length_le (by omega)]; rfl
      have Hsp := Lib.hid hsp
      clear hsp
      go_wp2
      obtain ⟨wb, hwb⟩ : ∃ wb, wb = wr := ⟨_, rfl⟩
      subst hwb
      clear g2
      go_loopw [5, 9] (fun f i wr => AnyRel m (fun p q => q = (b && (cs.take p).all (holdsC x0 x1 x2 x3 x4 x5))) wb f i wr) (fun _ i _ => m - (intOf i).toNat)
      case atStart => exact ⟨0, b, by omega, rfl, rfl, Below.refl _ _, by simp⟩
      case round =>
        obtain ⟨i, q, hi, rfl, rfl, hb, hf⟩ := hrel
        have hwr2 : Below w.heap.size w wr := bchain hwr hwr.size hb
        have g3 : wr.cell? ⟨w.heap.size, 3, none⟩ = some (.slice A2 m c2) := keep_cell hb g3
        have d0 : wr.cell? ⟨w.heap.size + 1, 0, none⟩ = some (.int .u32 nr) := keep_cell hb d0
        have d1 : wr.cell? ⟨w.heap.size + 1, 1, none⟩ = some (.int .u32 ar) := keep_cell hb d1
        have d2 : wr.cell? ⟨w.heap.size + 1, 2, none⟩ = some (.int .u64 ip) := keep_cell hb d2
        have d3 : wr.cell? ⟨w.heap.size + 1, 3, none⟩ = some (.int .u64 x0) := keep_cell hb d3
        have d4 : wr.cell? ⟨w.heap.size + 1, 4, none⟩ = some (.int .u64 x1) := keep_cell hb d4
        have d5 : wr.cell? ⟨w.heap.size + 1, 5, none⟩ = some (.int .u64 x2) := keep_cell hb d5
        have d6 : wr.cell? ⟨w.heap.size + 1, 6, none⟩ = some (.int .u64 x3) := keep_cell hb d6
        have d7 : wr.cell? ⟨w.heap.size + 1, 7, none⟩ = some (.int .u64 x4) := keep_cell hb d7
        have d8 : wr.cell? ⟨w.heap.size + 1, 8, none⟩ = some (.int .u64 x5) := keep_cell hb d8
        have Hf2 := Lib.hid hf
        clear hf
        by_cases hlt2 : i < m
        · obtain ⟨gl, o, rfl, hcell⟩ := Hc2.out (by omega)
          obtain ⟨x, hx⟩ : ∃ x, cs[i]? = some x := ⟨_, List.getElem?_eq_getElem (by omega)⟩
          obtain ⟨e0, e1, e2, e3⟩ := CndQ.below hwr2 (hcell i x hx)
          have ht := all_take hx (holdsC x0 x1 x2 x3 x4 x5)
          obtain ⟨ca, co, cm, cv⟩ := x
          have hlt' : (i : Int) < m := by omega
          have I := holds2_any ca co cm cv nr ar ip x0 x1 x2 x3 x4 x5
          have ht : (cs.take (i + 1)).all (holdsC x0 x1 x2 x3 x4 x5) = ((cs.take i).all (holdsC x0 x1 x2 x3 x4 x5) && (rightB ca co && cmpB co (bits .and .u64 (argI ca x0 x1 x2 x3 x4 x5) cm) cv)) := ht
          obtain ⟨z, hz⟩ : ∃ z, (rightB ca co && cmpB co (bits .and .u64 (argI ca x0 x1 x2 x3 x4 x5) cm) cv) = z := ⟨_, rfl⟩
          rw [hz] at I ht
          have Ht := Lib.hid ht
          have e0' : wr.cell? ⟨gl, o + i * 4, none⟩ = some (.int .i64 ca) := e0
          have e1' : wr.cell? ⟨gl, o + i * 4 + 1, none⟩ = some (.int .i64 co) := e1
          have e2' : wr.cell? ⟨gl, o + i * 4 + 2, none⟩ = some (.int .u64 cm) := e2
          have e3' : wr.cell? ⟨gl, o + i * 4 + 3, none⟩ = some (.int .u64 cv) := e3
          clear hcell hx hz ht e0 e1 e2 e3
          cases z with
          | true =>
            go_wp2
            go_region_held3 (fun w' => w'.cell? ⟨w.heap.size, 3, none⟩ = some (.slice (some ⟨gl, o, none⟩) m c2) ∧ w'.cell? ⟨gl, o + i * 4, none⟩ = some (.int .i64 ca) ∧ w'.cell? ⟨gl, o + i * 4 + 1, none⟩ = some (.int .i64 co) ∧ w'.cell? ⟨gl, o + i * 4 + 2, none⟩ = some (.int .u64 cm) ∧ w'.cell? ⟨gl, o + i * 4 + 3, none⟩ = some (.int .u64 cv) ∧ w'.cell? ⟨w.heap.size + 1, 0, none⟩ = some (.int .u32 nr) ∧ w'.cell? ⟨w.heap.size + 1, 1, none⟩ = some (.int .u32 ar) ∧ w'.cell? ⟨w.heap.size + 1, 2, none⟩ = some (.int .u64 ip) ∧ w'.cell? ⟨w.heap.size + 1, 3, none⟩ = some (.int .u64 x0) ∧ w'.cell? ⟨w.heap.size + 1, 4, none⟩ = some (.int .u64 x1) ∧ w'.cell? ⟨w.heap.size + 1, 5, none⟩ = some (.int .u64 x2) ∧ w'.cell? ⟨w.heap.size + 1, 6, none⟩ = some (.int .u64 x3) ∧ w'.cell? ⟨w.heap.size + 1, 7, none⟩ = some (.int .u64 x4) ∧ w'.cell? ⟨w.heap.size + 1, 8, none⟩ = some (.int .u64 x5))
              (refine ⟨?_, ?_, ?_, ?_, ?_, ?_, ?_, ?_, ?_, ?_, ?_, ?_, ?_, ?_⟩ <;> first | assumption | exact keep_cell hb7 (by assumption) | (show World.cell? wr _ = _; assumption)) (first | (go_at_call 43; refine (I _).mono ?_; rintro e w5 ⟨rfl, hb7⟩))
            go_wp2
            go_roundw
            case rel => exact ⟨i + 1, q, by omega, by go_num, rfl, bchain hb.drew hb.drew.size hb7, by show q = _; rw [Ht.out, Hf2.out]; simp⟩
            case measure => (simp [intOf] <;> omega)
          | false =>
            go_wp2
            go_region_held3 (fun w' => w'.cell? ⟨w.heap.size, 3, none⟩ = some (.slice (some ⟨gl, o, none⟩) m c2) ∧ w'.cell? ⟨gl, o + i * 4, none⟩ = some (.int .i64 ca) ∧ w'.cell? ⟨gl, o + i * 4 + 1, none⟩ = some (.int .i64 co) ∧ w'.cell? ⟨gl, o + i * 4 + 2, none⟩ = some (.int .u64 cm) ∧ w'.cell? ⟨gl, o + i * 4 + 3, none⟩ = some (.int .u64 cv) ∧ w'.cell? ⟨w.heap.size + 1, 0, none⟩ = some (.int .u32 nr) ∧ w'.cell? ⟨w.heap.size + 1, 1, none⟩ = some (.int .u32 ar) ∧ w'.cell? ⟨w.heap.size + 1, 2, none⟩ = some (.int .u64 ip) ∧ w'.cell? ⟨w.heap.size + 1, 3, none⟩ = some (.int .u64 x0) ∧ w'.cell? ⟨w.heap.size + 1, 4, none⟩ = some (.int .u64 x1) ∧ w'.cell? ⟨w.heap.size + 1, 5, none⟩ = some (.int .u64 x2) ∧ w'.cell? ⟨w.heap.size + 1, 6, none⟩ = some (.int .u64 x3) ∧ w'.cell? ⟨w.heap.size + 1, 7, none⟩ = some (.int .u64 x4) ∧ w'.cell? ⟨w.heap.size + 1, 8, none⟩ = some (.int .u64 x5))
              (refine ⟨?_, ?_, ?_, ?_, ?_, ?_, ?_, ?_, ?_, ?_, ?_, ?_, ?_, ?_⟩ <;> first | assumption | exact keep_cell hb7 (by assumption) | (show World.cell? wr _ = _; assumption)) (first | (go_at_call 43; refine (I _).mono ?_; rintro e w5 ⟨rfl, hb7⟩))
            go_wp2
            go_roundw
            case rel => exact ⟨i + 1, false, by omega, by go_num, rfl, bchain hb.drew hb.drew.size hb7, by show false = _; rw [Ht.out]; simp⟩
            case measure => (simp [intOf] <;> omega)
        · obtain rfl : i = m := by omega
          have hlast : q = F := by rw [Hf2.out, List.take_of_length_le (by omega), ← HF.out, Hsp.out]
          subst hlast
          clear Hf2
          go_wp2
          go_ret
          exact ⟨rfl, hwr2⟩
end Go.Proofs.Ytomcobmpojpdcaa
