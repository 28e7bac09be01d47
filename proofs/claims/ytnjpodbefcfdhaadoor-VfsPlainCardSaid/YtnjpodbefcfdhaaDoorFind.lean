/- Find, twice: what stands at a path. Conditions: the nodes can be read; they are not many. -/
import Derived.Test.YtnjpodbefcfdhaaDoorMem
import Derived.Laws.ResultCell
namespace Go.Proofs.YtnjpodbefcfdhaaDoor
open Go.RowKit
attribute [local go_sem ↓] Go.wp_at_zero Go.wp_at_succ
set_option linter.unusedVariables false
set_option linter.unusedSimpArgs false

def zeroN : Value := .agg #[.string ⟨#[]⟩, .int .i64 0, .string ⟨#[]⟩]
def findV (o : Option Nod) : Value := match o with | some x => .tuple #[nodV x, .bool true] | none => .tuple #[zeroN, .bool false]
def seekL (L : List Nod) (p : List UInt8) : Option Nod := L.find? (fun x => decide (x.p = p))
theorem seekL_at {L : List Nod} {p : List UInt8} {k : Nat} {x : Nod} (h : L[k]? = some x) : seekL (L.drop k) p = if x.p = p then some x else seekL (L.drop (k + 1)) p := by
  have hl := (List.getElem?_eq_some_iff.1 h).1
  rw [List.drop_eq_getElem_cons hl, (List.getElem?_eq_some_iff.1 h).2]
  unfold seekL
  rw [List.find?_cons]
  by_cases hx : x.p = p
  · rw [if_pos hx, decide_eq_true hx]
  · rw [if_neg hx, decide_eq_false hx]
def FindRel (L : List Nod) (p : List UInt8) (w wa : World) (i : Value) (wr : World) : Prop :=
  ∃ k : Nat, k ≤ L.length ∧ i = .int .i64 k ∧ Below wa.heap.size wa wr ∧ seekL L p = seekL (L.drop k) p

set_option maxRecDepth 100000 in
set_option maxHeartbeats 4000000 in
theorem find_any (v : Value) (L : List Nod) (p : List UInt8) (w : World) (h : NodesAt w v L) (hl : L.length ≤ 1000000) : Calls Tryd.prog 13 #[v, .string (strL p)] w (Ret2 (findV (findL L p)) w) := by
  have tp : (strL p).toList = p := ByteArray.toList_eq _
  by_cases hp : p = [47]
  · have hE : (p == [47]) = true := by simpa using hp
    have hf : findL L p = some ⟨p, 2, []⟩ := by unfold findL; rw [if_pos hp, hp]; rfl
    have he : nodV ⟨p, 2, []⟩ = .agg #[.string (strL p), .int .i64 2, .string ⟨#[]⟩] := rfl
    rw [hf]
    unfold findV
    simp only
    rw [he]
    obtain ⟨A, c, rfl⟩ := h.form
    obtain ⟨t, ht⟩ : ∃ t, strL p = t := ⟨_, rfl⟩
    rw [ht] at tp ⊢
    clear hf he ht hp h
    go_enter Tryd.func13, Tryd.ntmps13
    go_wp2
    (try simp only [Exit.inBlock, Exit.then])
    refine bodyPost_ret (v := .tuple #[.agg #[.string t, .int .i64 2, .string ⟨#[]⟩], .bool true]) (by rw [results_cell_tmp rfl]; go_simp) rfl ⟨rfl, below_alloc _ _⟩
  · have hE : (p == [47]) = false := by simpa using hp
    have hf : findL L p = seekL L p := by unfold findL seekL; rw [if_neg hp]
    rw [hf]
    obtain ⟨A, c, rfl, hlc, hc63, hc⟩ := h
    have Hc := Lib.hid hc
    obtain ⟨n, hn⟩ : ∃ n, L.length = n := ⟨_, rfl⟩
    rw [hn] at hl ⊢
    have Hn := Lib.hid hn
    have hal := below_alloc w (.cells #[.string ⟨#[]⟩, .int .i64 0, .string ⟨#[]⟩] 32)
    have ptr := Trio.new w (.string ⟨#[]⟩) (.int .i64 0) (.string ⟨#[]⟩)
    obtain ⟨wa, hwa⟩ : ∃ wa, w.alloc (.cells #[.string ⟨#[]⟩, .int .i64 0, .string ⟨#[]⟩] 32) = wa := ⟨_, rfl⟩
    rw [hwa] at hal ptr
    have Ptr := Lib.hid ptr
    clear ptr
    obtain ⟨t, ht⟩ : ∃ t, strL p = t := ⟨_, rfl⟩
    rw [ht] at tp ⊢
    have Hp := Lib.hid hp
    clear hf ht hc hn hp
    go_enter Tryd.func13, Tryd.ntmps13
    go_wp2
    go_loopw [14] (fun i wr => FindRel L p w wa i wr) (fun i _ => n - (intOf i).toNat)
    case atStart => exact ⟨0, Nat.zero_le _, rfl, Below.refl _ _, rfl⟩
    case round =>
      obtain ⟨k, hk, rfl, hb, hf⟩ := hrel
      rw [Hn.out] at hk
      have tr := Ptr.out.below hb
      have q0 := tr.c0
      have q1 := tr.c1
      have q2 := tr.c2
      have z0 := tr.frozen 0
      have z1 := tr.frozen 1
      have z2 := tr.frozen 2
      have hsz := tr.lt
      clear tr
      by_cases hlt : k < n
      · obtain ⟨gl, o, rfl, hcell⟩ := Hc.out (by rw [Hn.out]; omega)
        obtain ⟨x, hx⟩ : ∃ x, L[k]? = some x := ⟨_, List.getElem?_eq_getElem (by rw [Hn.out]; exact hlt)⟩
        obtain ⟨e0, e1, e2⟩ := (hcell k x hx).below (bchain hal hal.size hb)
        rw [seekL_at hx] at hf
        have hlt' : (k : Int) < n := by omega
        have hbw := bchain hal hal.size hb
        obtain ⟨xp, xk, xt⟩ := x
        have tx : (strL xp).toList = xp := ByteArray.toList_eq _
        obtain ⟨u, hu⟩ : ∃ u, strL xp = u := ⟨_, rfl⟩
        obtain ⟨tt, htt⟩ : ∃ u, strL xt = u := ⟨_, rfl⟩
        simp only [hu, htt] at e0 e1 e2 tx
        simp only at hf
        have Hu := Lib.hid hu
        have Htt := Lib.hid htt
        have Hhb := Lib.hid hb
        clear hcell hx hu htt hb
        by_cases hxp : xp = p
        · rw [if_pos hxp] at hf
          have hE2 : (xp == p) = true := by simpa using hxp
          have Hf := Lib.hid hf
          clear hf hxp
          go_wp2
          (try simp only [Exit.inBlock, Exit.then])
          refine bodyPost_ret (v := .tuple #[.agg #[.string u, .int .i64 xk, .string tt], .bool true]) (by rw [results_cell_tmp rfl]; go_simp) rfl ⟨?_, ?_⟩
          · rw [Hf.out]; show _ = Ending.returned (findV (some ⟨xp, xk, xt⟩)); unfold findV nodV; simp only; rw [Hu.out, Htt.out]
          · refine Below.alloc ?_ (by simp; have := hbw.size; omega) _
            exact (((hbw.setCell (p := ⟨w.heap.size, 0, none⟩) (Nat.le_refl _) _).setCell (p := ⟨w.heap.size, 1, none⟩) (Nat.le_refl _) _).setCell (p := ⟨w.heap.size, 2, none⟩) (Nat.le_refl _) _)
        · rw [if_neg hxp] at hf
          have hE2 : (xp == p) = false := by simpa using hxp
          have Hf := Lib.hid hf
          clear hf hxp
          go_wp2
          go_roundw
          case rel => exact ⟨k + 1, by rw [Hn.out]; omega, by go_num, Hhb.out.alloc Hhb.out.size _, Hf.out⟩
          case measure => (simp [intOf] <;> omega)
      · obtain rfl : k = n := by omega
        rw [List.drop_eq_nil_of_le (by rw [Hn.out]; exact Nat.le_refl _)] at hf
        have Hf := Lib.hid hf
        clear hf
        go_wp2
        (try simp only [Exit.inBlock, Exit.then])
        refine bodyPost_ret (v := .tuple #[.agg #[.string ⟨#[]⟩, .int .i64 0, .string ⟨#[]⟩], .bool false]) (by rw [results_cell_tmp rfl]; go_simp) rfl ⟨?_, ?_⟩
        · rw [Hf.out]; rfl
        · have hbw := bchain hal hal.size hb
          exact (((hbw.setCell (p := ⟨w.heap.size, 0, none⟩) (Nat.le_refl _) _).setCell (p := ⟨w.heap.size, 1, none⟩) (Nat.le_refl _) _).setCell (p := ⟨w.heap.size, 2, none⟩) (Nat.le_refl _) _)

set_option maxRecDepth 100000 in
set_option maxHeartbeats 4000000 in
theorem ref_find_any (v : Value) (L : List Nod) (p : List UInt8) (w : World) (h : NodesAt w v L) (hl : L.length ≤ 1000000) : Calls Tryd.prog 33 #[v, .string (strL p)] w (Ret2 (findV (findL L p)) w) := by
  have tp : (strL p).toList = p := ByteArray.toList_eq _
  by_cases hp : p = [47]
  · have hE : (p == [47]) = true := by simpa using hp
    have hf : findL L p = some ⟨p, 2, []⟩ := by unfold findL; rw [if_pos hp, hp]; rfl
    have he : nodV ⟨p, 2, []⟩ = .agg #[.string ⟨#[47]⟩, .int .i64 2, .string ⟨#[]⟩] := by rw [hp]; rfl
    rw [hf]
    unfold findV
    simp only
    rw [he]
    obtain ⟨A, c, rfl⟩ := h.form
    obtain ⟨t, ht⟩ : ∃ t, strL p = t := ⟨_, rfl⟩
    rw [ht] at tp ⊢
    clear hf he ht hp h
    go_enter Tryd.func33, Tryd.ntmps33
    go_wp2
    (try simp only [Exit.inBlock, Exit.then])
    refine bodyPost_ret (v := .tuple #[.agg #[.string ⟨#[47]⟩, .int .i64 2, .string ⟨#[]⟩], .bool true]) (by rw [results_cell_tmp rfl]; go_simp) rfl ⟨rfl, below_alloc _ _⟩
  · have hE : (p == [47]) = false := by simpa using hp
    have hf : findL L p = seekL L p := by unfold findL seekL; rw [if_neg hp]
    rw [hf]
    obtain ⟨A, c, rfl, hlc, hc63, hc⟩ := h
    have Hc := Lib.hid hc
    obtain ⟨n, hn⟩ : ∃ n, L.length = n := ⟨_, rfl⟩
    rw [hn] at hl ⊢
    have Hn := Lib.hid hn
    have hal := below_alloc w (.cells #[.string ⟨#[]⟩, .int .i64 0, .string ⟨#[]⟩] 32)
    have ptr := Trio.new w (.string ⟨#[]⟩) (.int .i64 0) (.string ⟨#[]⟩)
    obtain ⟨wa, hwa⟩ : ∃ wa, w.alloc (.cells #[.string ⟨#[]⟩, .int .i64 0, .string ⟨#[]⟩] 32) = wa := ⟨_, rfl⟩
    rw [hwa] at hal ptr
    have Ptr := Lib.hid ptr
    clear ptr
    obtain ⟨t, ht⟩ : ∃ t, strL p = t := ⟨_, rfl⟩
    rw [ht] at tp ⊢
    have Hp := Lib.hid hp
    clear hf ht hc hn hp
    go_enter Tryd.func33, Tryd.ntmps33
    go_wp2
    go_loopw [6] (fun i wr => FindRel L p w wa i wr) (fun i _ => n - (intOf i).toNat)
    case atStart => exact ⟨0, Nat.zero_le _, rfl, Below.refl _ _, rfl⟩
    case round =>
      obtain ⟨k, hk, rfl, hb, hf⟩ := hrel
      rw [Hn.out] at hk
      have tr := Ptr.out.below hb
      have q0 := tr.c0
      have q1 := tr.c1
      have q2 := tr.c2
      have z0 := tr.frozen 0
      have z1 := tr.frozen 1
      have z2 := tr.frozen 2
      have hsz := tr.lt
      clear tr
      by_cases hlt : k < n
      · obtain ⟨gl, o, rfl, hcell⟩ := Hc.out (by rw [Hn.out]; omega)
        obtain ⟨x, hx⟩ : ∃ x, L[k]? = some x := ⟨_, List.getElem?_eq_getElem (by rw [Hn.out]; exact hlt)⟩
        obtain ⟨e0, e1, e2⟩ := (hcell k x hx).below (bchain hal hal.size hb)
        rw [seekL_at hx] at hf
        have hlt' : (k : Int) < n := by omega
        have hbw := bchain hal hal.size hb
        obtain ⟨xp, xk, xt⟩ := x
        have tx : (strL xp).toList = xp := ByteArray.toList_eq _
        obtain ⟨u, hu⟩ : ∃ u, strL xp = u := ⟨_, rfl⟩
        obtain ⟨tt, htt⟩ : ∃ u, strL xt = u := ⟨_, rfl⟩
        simp only [hu, htt] at e0 e1 e2 tx
        simp only at hf
        have Hu := Lib.hid hu
        have Htt := Lib.hid htt
        have Hhb := Lib.hid hb
        clear hcell hx hu htt hb
        by_cases hxp : xp = p
        · rw [if_pos hxp] at hf
          have hE2 : (xp == p) = true := by simpa using hxp
          have Hf := Lib.hid hf
          clear hf hxp
          go_wp2
          (try simp only [Exit.inBlock, Exit.then])
          refine bodyPost_ret (v := .tuple #[.agg #[.string u, .int .i64 xk, .string tt], .bool true]) (by rw [results_cell_tmp rfl]; go_simp) rfl ⟨?_, ?_⟩
          · rw [Hf.out]; show _ = Ending.returned (findV (some ⟨xp, xk, xt⟩)); unfold findV nodV; simp only; rw [Hu.out, Htt.out]
          · exact (((hbw.setCell (p := ⟨w.heap.size, 0, none⟩) (Nat.le_refl _) _).setCell (p := ⟨w.heap.size, 1, none⟩) (Nat.le_refl _) _).setCell (p := ⟨w.heap.size, 2, none⟩) (Nat.le_refl _) _)
        · rw [if_neg hxp] at hf
          have hE2 : (xp == p) = false := by simpa using hxp
          have Hf := Lib.hid hf
          clear hf hxp
          go_wp2
          go_roundw
          case rel => exact ⟨k + 1, by rw [Hn.out]; omega, by go_num, Hhb.out, Hf.out⟩
          case measure => (simp [intOf] <;> omega)
      · obtain rfl : k = n := by omega
        rw [List.drop_eq_nil_of_le (by rw [Hn.out]; exact Nat.le_refl _)] at hf
        have Hf := Lib.hid hf
        clear hf
        go_wp2
        (try simp only [Exit.inBlock, Exit.then])
        refine bodyPost_ret (v := .tuple #[.agg #[.string ⟨#[]⟩, .int .i64 0, .string ⟨#[]⟩], .bool false]) (by rw [results_cell_tmp rfl]; go_simp) rfl ⟨?_, ?_⟩
        · rw [Hf.out]; rfl
        · have hbw := bchain hal hal.size hb
          exact (((hbw.setCell (p := ⟨w.heap.size, 0, none⟩) (Nat.le_refl _) _).setCell (p := ⟨w.heap.size, 1, none⟩) (Nat.le_refl _) _).setCell (p := ⟨w.heap.size, 2, none⟩) (Nat.le_refl _) _)
end Go.Proofs.YtnjpodbefcfdhaaDoor
