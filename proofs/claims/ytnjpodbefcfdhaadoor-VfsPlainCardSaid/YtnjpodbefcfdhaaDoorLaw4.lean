/- VfsPlain: it answers true. Conditions: the nodes can be read; their strings are no longer than strings can be. -/
import Derived.Test.YtnjpodbefcfdhaaDoorLaw1
import Derived.ControlIn
namespace Go.Proofs.YtnjpodbefcfdhaaDoor
open Go.RowKit Go.Shelf
attribute [local go_sem] Oper.semAt_some
attribute [local go_sem ↓] Go.wp_at_zero Go.wp_at_succ
set_option linter.unusedVariables false
set_option linter.unusedSimpArgs false

set_option maxRecDepth 100000 in
set_option maxHeartbeats 8000000 in
theorem plain_early (nv : Value) (L : List Nod) (s : ByteArray) (w : World) (hN : NodesAt w nv L) (hS : ∀ x ∈ L, SizedN x) (h : lightB L = false ∨ (256 : Int) < (s.size : Int) ∨ (checkV L).1 ≠ 0 ∨ rightB s.data.toList = false) : Calls Tryd.prog 5 #[nv, .string s] w (Ret (.bool true) w) := by
  have A := awake_any
  have Lt := fun W hW => light_any nv L W hW
  have C := fun W hW => check_any nv L W hW hS
  have Cl := clean_any s
  have hb4 := Boxed.new w 4 (.bool false)
  have hbox := below_alloc w (.cells #[.bool false] 4)
  have HN := Lib.hid hN
  obtain ⟨An, c, rfl⟩ := hN.form
  unfold pairT at C
  unfold cleanV at Cl
  obtain ⟨z, hz⟩ : ∃ z, (checkV L).1 = z := ⟨_, rfl⟩
  obtain ⟨z2, hz2⟩ : ∃ z, (checkV L).2 = z := ⟨_, rfl⟩
  obtain ⟨lt, hlt⟩ : ∃ b, lightB L = b := ⟨_, rfl⟩
  obtain ⟨rr, hrr⟩ : ∃ b, rightB s.data.toList = b := ⟨_, rfl⟩
  rw [hlt] at Lt h
  simp only [hz, hz2] at C
  rw [hz, hrr] at h
  rw [hrr] at Cl
  obtain ⟨cs, hcs⟩ : ∃ u, strL (cleanL s.data.toList) = u := ⟨_, rfl⟩
  rw [hcs] at Cl
  clear hN hS hz hz2 hlt hrr hcs
  have hcl : ∃ cw fw, (if rr = true then Value.tuple #[.string cs, .int .i64 0] else .tuple #[.string ⟨#[]⟩, .int .i64 1]) = .tuple #[.string cw, .int .i64 fw] ∧ (rr = false → fw = 1) ∧ (rr = true → fw = 0) := by
    cases rr with
    | true => exact ⟨cs, 0, rfl, (fun h => by cases h), fun _ => rfl⟩
    | false => exact ⟨⟨#[]⟩, 1, rfl, (fun _ => rfl), fun h => by cases h⟩
  obtain ⟨cw, fw, hcw, hf1, hf0⟩ := hcl
  rw [hcw] at Cl
  clear hcw
  cases lt with
  | false =>
    clear h hf1 hf0
    go_enter Tryd.func5, Tryd.ntmps5
    go_wp2_with (first
      | (go_at_call 8; refine (A _).mono ?_; rintro e w1 ⟨rfl, hb1⟩; have k1 := bchain hbox hbox.size hb1; have bx4 := boxed_below hb4 hb1; have q4 := bx4.cell; have z4 := bx4.frozen; have l4 := bx4.lt; have k1a := k1.alloc k1.size (Obj.cells #[.bool true] 4); have bx5 := Boxed.new w1 4 (.bool true); have bx4a := bx4.alloc (Obj.cells #[.bool true] 4))
      | (go_at_call 9; refine (Lt _ (HN.out.below k1a)).mono ?_; rintro e w2 ⟨rfl, rfl⟩)
      | (go_at_call 14; refine (C _ (HN.out.below k1a)).mono ?_; rintro e w3 ⟨rfl, hb3⟩; have k3 := bchain k1a k1a.size hb3; have by4 := boxed_below bx4a hb3; have by5 := boxed_below bx5 hb3)
      | (go_at_call 12; refine (Cl _).mono ?_; rintro e w4 ⟨rfl, hb4'⟩; have k4 := bchain k3 k3.size hb4'; have bz4 := boxed_below by4 hb4'; have bz5 := boxed_below by5 hb4'; have r4 := bz4.cell; have r4z := bz4.frozen; have r5 := bz5.cell))
    (try simp only [Exit.inBlock, Exit.then])
    have c5 := World.cell?_setCell_same' w4 ⟨w.heap.size, 0, none⟩ (.bool true) (by rw [r4]; rfl)
    refine bodyPost_ret (v := .bool true) (by simp [results, Tryd.results5, go_sem, c5]) rfl ⟨rfl, ?_⟩
    exact k4.setCell (p := ⟨w.heap.size, 0, none⟩) (Nat.le_refl _) _
  | true =>
    by_cases h256 : (256 : Int) < (s.size : Int)
    · clear h hf1 hf0
      go_enter Tryd.func5, Tryd.ntmps5
      go_wp2_with (first
        | (go_at_call 8; refine (A _).mono ?_; rintro e w1 ⟨rfl, hb1⟩; have k1 := bchain hbox hbox.size hb1; have bx4 := boxed_below hb4 hb1; have q4 := bx4.cell; have z4 := bx4.frozen; have l4 := bx4.lt; have k1a := k1.alloc k1.size (Obj.cells #[.bool true] 4); have bx5 := Boxed.new w1 4 (.bool true); have bx4a := bx4.alloc (Obj.cells #[.bool true] 4))
        | (go_at_call 9; refine (Lt _ (HN.out.below k1a)).mono ?_; rintro e w2 ⟨rfl, rfl⟩)
        | (go_at_call 14; refine (C _ (HN.out.below k1a)).mono ?_; rintro e w3 ⟨rfl, hb3⟩; have k3 := bchain k1a k1a.size hb3; have by4 := boxed_below bx4a hb3; have by5 := boxed_below bx5 hb3)
        | (go_at_call 12; refine (Cl _).mono ?_; rintro e w4 ⟨rfl, hb4'⟩; have k4 := bchain k3 k3.size hb4'; have bz4 := boxed_below by4 hb4'; have bz5 := boxed_below by5 hb4'; have r4 := bz4.cell; have r4z := bz4.frozen; have r5 := bz5.cell))
      (try simp only [Exit.inBlock, Exit.then])
      have c5 := World.cell?_setCell_same' w4 ⟨w.heap.size, 0, none⟩ (.bool true) (by rw [r4]; rfl)
      refine bodyPost_ret (v := .bool true) (by simp [results, Tryd.results5, go_sem, c5]) rfl ⟨rfl, ?_⟩
      exact k4.setCell (p := ⟨w.heap.size, 0, none⟩) (Nat.le_refl _) _
    · have hle : (s.size : Int) ≤ 256 := by omega
      by_cases hz0 : z = 0
      · subst hz0
        have hrf : rr = false := by
          rcases h with h | h | h | h
          · cases h
          · omega
          · exact absurd rfl h
          · exact h
        have hfw := hf1 hrf
        subst hfw
        clear h hf1 hf0 h256
        go_enter Tryd.func5, Tryd.ntmps5
        go_wp2_with (first
          | (go_at_call 8; refine (A _).mono ?_; rintro e w1 ⟨rfl, hb1⟩; have k1 := bchain hbox hbox.size hb1; have bx4 := boxed_below hb4 hb1; have q4 := bx4.cell; have z4 := bx4.frozen; have l4 := bx4.lt; have k1a := k1.alloc k1.size (Obj.cells #[.bool true] 4); have bx5 := Boxed.new w1 4 (.bool true); have bx4a := bx4.alloc (Obj.cells #[.bool true] 4))
          | (go_at_call 9; refine (Lt _ (HN.out.below k1a)).mono ?_; rintro e w2 ⟨rfl, rfl⟩)
          | (go_at_call 14; refine (C _ (HN.out.below k1a)).mono ?_; rintro e w3 ⟨rfl, hb3⟩; have k3 := bchain k1a k1a.size hb3; have by4 := boxed_below bx4a hb3; have by5 := boxed_below bx5 hb3)
          | (go_at_call 12; refine (Cl _).mono ?_; rintro e w4 ⟨rfl, hb4'⟩; have k4 := bchain k3 k3.size hb4'; have bz4 := boxed_below by4 hb4'; have bz5 := boxed_below by5 hb4'; have r4 := bz4.cell; have r4z := bz4.frozen; have r5 := bz5.cell))
        (try simp only [Exit.inBlock, Exit.then])
        have c5 := World.cell?_setCell_same' w4 ⟨w.heap.size, 0, none⟩ (.bool true) (by rw [r4]; rfl)
        refine bodyPost_ret (v := .bool true) (by simp [results, Tryd.results5, go_sem, c5]) rfl ⟨rfl, ?_⟩
        exact k4.setCell (p := ⟨w.heap.size, 0, none⟩) (Nat.le_refl _) _
      · have hzE : (z != 0) = true := by simp [hz0]
        clear h hf1 hf0 h256 hz0
        go_enter Tryd.func5, Tryd.ntmps5
        go_wp2_with (first
          | (go_at_call 8; refine (A _).mono ?_; rintro e w1 ⟨rfl, hb1⟩; have k1 := bchain hbox hbox.size hb1; have bx4 := boxed_below hb4 hb1; have q4 := bx4.cell; have z4 := bx4.frozen; have l4 := bx4.lt; have k1a := k1.alloc k1.size (Obj.cells #[.bool true] 4); have bx5 := Boxed.new w1 4 (.bool true); have bx4a := bx4.alloc (Obj.cells #[.bool true] 4))
          | (go_at_call 9; refine (Lt _ (HN.out.below k1a)).mono ?_; rintro e w2 ⟨rfl, rfl⟩)
          | (go_at_call 14; refine (C _ (HN.out.below k1a)).mono ?_; rintro e w3 ⟨rfl, hb3⟩; have k3 := bchain k1a k1a.size hb3; have by4 := boxed_below bx4a hb3; have by5 := boxed_below bx5 hb3)
          | (go_at_call 12; refine (Cl _).mono ?_; rintro e w4 ⟨rfl, hb4'⟩; have k4 := bchain k3 k3.size hb4'; have bz4 := boxed_below by4 hb4'; have bz5 := boxed_below by5 hb4'; have r4 := bz4.cell; have r4z := bz4.frozen; have r5 := bz5.cell))
        (try simp only [Exit.inBlock, Exit.then])
        have c5 := World.cell?_setCell_same' w4 ⟨w.heap.size, 0, none⟩ (.bool true) (by rw [r4]; rfl)
        refine bodyPost_ret (v := .bool true) (by simp [results, Tryd.results5, go_sem, c5]) rfl ⟨rfl, ?_⟩
        exact k4.setCell (p := ⟨w.heap.size, 0, none⟩) (Nat.le_refl _) _

def KindRel (L : List Nod) (w4 : World) (i : Value) (wr : World) : Prop := ∃ k : Nat, k ≤ L.length ∧ i = .int .i64 k ∧ wr = w4 ∧ ∀ j x, j < k → L[j]? = some x → x.k ≠ 3
set_option maxRecDepth 100000 in
set_option maxHeartbeats 8000000 in
theorem plain_linked (nv : Value) (L : List Nod) (s : ByteArray) (w : World) (hN : NodesAt w nv L) (hS : ∀ x ∈ L, SizedN x) (hl : lightB L = true) (h256 : (s.size : Int) ≤ 256) (h0 : (checkV L).1 = 0) (hr : rightB s.data.toList = true) (h3 : ∃ x ∈ L, x.k = 3) : Calls Tryd.prog 5 #[nv, .string s] w (Ret (.bool true) w) := by
  have A := awake_any
  have Lt := fun W hW => light_any nv L W hW
  have C := fun W hW => check_any nv L W hW hS
  have Cl := clean_any s
  have hb4 := Boxed.new w 4 (.bool false)
  have hbox := below_alloc w (.cells #[.bool false] 4)
  have hn64 := (checkV_ok h0).1
  have HN := Lib.hid hN
  obtain ⟨An, c, rfl⟩ := hN.form
  unfold pairT at C
  unfold cleanV at Cl
  obtain ⟨z, hz⟩ : ∃ z, (checkV L).1 = z := ⟨_, rfl⟩
  obtain ⟨z2, hz2⟩ : ∃ z, (checkV L).2 = z := ⟨_, rfl⟩
  obtain ⟨lt, hlt⟩ : ∃ b, lightB L = b := ⟨_, rfl⟩
  obtain ⟨rr, hrr⟩ : ∃ b, rightB s.data.toList = b := ⟨_, rfl⟩
  rw [hlt] at Lt hl
  simp only [hz, hz2] at C
  rw [hz] at h0
  rw [hrr] at Cl hr
  obtain ⟨cs, hcs⟩ : ∃ u, strL (cleanL s.data.toList) = u := ⟨_, rfl⟩
  rw [hcs] at Cl
  subst hl h0 hr
  rw [if_pos rfl] at Cl
  have H3 := Lib.hid h3
  obtain ⟨n, hn⟩ : ∃ n, L.length = n := ⟨_, rfl⟩
  rw [hn] at Lt C HN hn64 ⊢
  have Hn := Lib.hid hn
  clear hN hS hz2 hlt hrr hcs h3 hn hz
  go_enter Tryd.func5, Tryd.ntmps5
  go_wp2_with (first
    | (go_at_call 8; refine (A _).mono ?_; rintro e w1 ⟨rfl, hb1⟩; have k1 := bchain hbox hbox.size hb1; have bx4 := boxed_below hb4 hb1; have q4 := bx4.cell; have z4 := bx4.frozen; have l4 := bx4.lt; have k1a := k1.alloc k1.size (Obj.cells #[.bool true] 4); have bx5 := Boxed.new w1 4 (.bool true); have bx4a := bx4.alloc (Obj.cells #[.bool true] 4))
    | (go_at_call 9; refine (Lt _ (HN.out.below k1a)).mono ?_; rintro e w2 ⟨rfl, rfl⟩)
    | (go_at_call 14; refine (C _ (HN.out.below k1a)).mono ?_; rintro e w3 ⟨rfl, hb3⟩; have k3 := bchain k1a k1a.size hb3; have by4 := boxed_below bx4a hb3; have by5 := boxed_below bx5 hb3)
    | (go_at_call 12; refine (Cl _).mono ?_; rintro e w4 ⟨rfl, hb4'⟩; have k4 := bchain k3 k3.size hb4'; have bz4 := boxed_below by4 hb4'; have bz5 := boxed_below by5 hb4'; have r4 := bz4.cell; have r4z := bz4.frozen; have r5 := bz5.cell))
  have HN4 := Lib.hid (HN.out.below k4)
  go_loopw [11] (fun i wr => KindRel L w4 i wr) (fun i _ => n - (intOf i).toNat)
  case atStart => exact ⟨0, Nat.zero_le _, rfl, rfl, fun j x hj => by omega⟩
  case round =>
    obtain ⟨k, hk, rfl, hwr, hall⟩ := hrel
    subst hwr
    rw [Hn.out] at hk
    have Hall := Lib.hid hall
    clear hall
    by_cases hlt : k < n
    · obtain ⟨_, _, e, _, _, hcell⟩ := HN4.out
      injection e with e1 e2 e3
      subst e1 e3
      obtain ⟨gl, o, rfl, hcq⟩ := hcell (by rw [Hn.out]; omega)
      obtain ⟨x, hx⟩ : ∃ x, L[k]? = some x := ⟨_, List.getElem?_eq_getElem (by rw [Hn.out]; exact hlt)⟩
      obtain ⟨_, e1, _⟩ := hcq k x hx
      have hlt' : (k : Int) < n := by omega
      have hnx := Hall.out
      have Hx := Lib.hid hx
      obtain ⟨xp, xk, xt⟩ := x
      simp only at e1
      clear hcell hcq hx e2
      by_cases hk3 : xk = 3
      · subst hk3
        clear hnx
        go_wp2
        (try simp only [Exit.inBlock, Exit.then])
        have c5 := World.cell?_setCell_same' wr ⟨w.heap.size, 0, none⟩ (.bool true) (by rw [r4]; rfl)
        refine bodyPost_ret (v := .bool true) (by simp [results, Tryd.results5, go_sem, c5]) rfl ⟨rfl, ?_⟩
        exact k4.setCell (p := ⟨w.heap.size, 0, none⟩) (Nat.le_refl _) _
      · have hE : (xk == 3) = false := by simpa using hk3
        have Hk3 := Lib.hid hk3
        clear hk3 hnx
        go_wp2
        go_roundw
        case rel => exact ⟨k + 1, by rw [Hn.out]; omega, by go_num, rfl, fun j y hj hy => by
          rcases Nat.lt_or_ge j k with h | h
          · exact Hall.out j y h hy
          · obtain rfl : j = k := by omega
            rw [Hx.out] at hy
            cases hy
            exact Hk3.out⟩
        case measure => (simp [intOf] <;> omega)
    · exfalso
      obtain ⟨x, hx, hx3⟩ := H3.out
      obtain ⟨j, hj⟩ := List.getElem?_of_mem hx
      have hjl := (List.getElem?_eq_some_iff.1 hj).1
      exact Hall.out j x (by rw [Hn.out] at hjl; omega) hj hx3

def PI (w2 : World) (pre : List ByteArray) (W : World) : Prop := (∀ y ∈ pre, y.data.toList ≠ [46, 46]) ∧ Below w2.heap.size w2 W
def PX (w : World) (B4 : Nat) (c : Code) (pre : List ByteArray) (W : World) : Prop := c = .ret ∧ Boxed W B4 4 (.bool true) ∧ Below w.heap.size w W
theorem pi_own (w2 : World) (B : Nat) (hB : w2.heap.size ≤ B) : OwnFrom B (PI w2) := fun pre W W' row h hg hr => ⟨h.1, h.2.grown hg h.2.size (fun k e => Nat.le_trans hB (hr k e).1)⟩
theorem px_own (w : World) (B4 B : Nat) (hB : w.heap.size ≤ B) (h4 : B4 < B) (c : Code) : OwnFrom B (PX w B4 c) := fun pre W W' row h hg hr => ⟨h.1, h.2.1.kept hg (fun e => by have := (hr B4 e.symm).1; omega), h.2.2.grown hg h.2.2.size (fun k e => Nat.le_trans hB (hr k e).1)⟩
theorem heap_keep4 {w w1 : World} {D : Nat} {o : Obj} (hb : Below w.heap.size w w1) (h : w.heap[D]? = some o) : w1.heap[D]? = some o := (hb.block D (Array.getElem?_eq_some_iff.1 h).1).trans h
theorem plain_end {w w7 : World} {D : Nat} (o : Obj) (u : Value) (hD : w.heap.size < D) (hk7 : Below w.heap.size w w7) (hHD : w7.heap[D]? = some (.deferred (some []))) (hbox : Boxed w7 w.heap.size 4 u) :
    ((w7.setCell ⟨w.heap.size, 0, none⟩ (.bool true)).alloc o).heap[D]? = some (.deferred (some [])) ∧ (((w7.setCell ⟨w.heap.size, 0, none⟩ (.bool true)).alloc o).putObj D (.deferred none)).cell? ⟨w.heap.size, 0, none⟩ = some (.bool true) ∧ Below w.heap.size w (((w7.setCell ⟨w.heap.size, 0, none⟩ (.bool true)).alloc o).putObj D (.deferred none)) := by
  have h1 := (KeepsOthers.setCell w7 ⟨w.heap.size, 0, none⟩ (.bool true)).same D _ hHD rfl
  have h2 : ((w7.setCell ⟨w.heap.size, 0, none⟩ (.bool true)).alloc o).heap[D]? = some (.deferred (some [])) := heap_keep4 (below_alloc _ _) h1
  have h3 : ((w7.setCell ⟨w.heap.size, 0, none⟩ (.bool true)).alloc o).cell? ⟨w.heap.size, 0, none⟩ = some (.bool true) := keep_cell (below_alloc _ _) (World.cell?_setCell_same' w7 ⟨w.heap.size, 0, none⟩ (.bool true) (by rw [hbox.cell]; rfl))
  have h4 : Below w.heap.size w ((w7.setCell ⟨w.heap.size, 0, none⟩ (.bool true)).alloc o) := (hk7.setCell (p := ⟨w.heap.size, 0, none⟩) (Nat.le_refl _) _).alloc (by simpa using hk7.size) _
  exact ⟨h2, cell_kept h3 (grownBy_putObj' _ D (.deferred none)) (fun r e => by cases e; exact ⟨_, h2, rfl⟩), h4.trans (belowK_b (w := w) (Nat.le_refl _) _ D _ (.deferred none) (Nat.le_of_lt hD) h2 rfl rfl)⟩
set_option maxRecDepth 100000 in
set_option maxHeartbeats 16000000 in
theorem plain_late (nv : Value) (L : List Nod) (s : ByteArray) (w : World) (hN : NodesAt w nv L) (hS : ∀ x ∈ L, SizedN x) (hl : lightB L = true) (h256 : (s.size : Int) ≤ 256) (h0 : (checkV L).1 = 0) (hr : rightB s.data.toList = true) (h3 : ∀ x ∈ L, x.k ≠ 3) : CallsIn Fence.wide 3 Tryd.prog 5 #[nv, .string s] w (Ret (.bool true) w) := by
  have A := awake_any
  have Lt := fun W hW => light_any nv L W hW
  have C := fun W hW => check_any nv L W hW hS
  have Cl := clean_any s
  have hb4 := Boxed.new w 4 (.bool false)
  have hbox := below_alloc w (.cells #[.bool false] 4)
  have Rv := fun W hW => resolve_any nv L s W hW hS
  have Fd := fun W hW => find_any nv L (cleanL s.data.toList) W hW (by have := (checkV_ok h0).1; omega)
  have HN := Lib.hid hN
  obtain ⟨An, c, rfl⟩ := hN.form
  unfold pairT at C
  unfold cleanV at Cl
  obtain ⟨z, hz⟩ : ∃ z, (checkV L).1 = z := ⟨_, rfl⟩
  obtain ⟨z2, hz2⟩ : ∃ z, (checkV L).2 = z := ⟨_, rfl⟩
  obtain ⟨lt, hlt⟩ : ∃ b, lightB L = b := ⟨_, rfl⟩
  obtain ⟨rr, hrr⟩ : ∃ b, rightB s.data.toList = b := ⟨_, rfl⟩
  have hN6 := (checkV_ok h0).1
  have plain := fun hd => plain_plain (L := L) (p := s.data.toList) h0 hr h3 hd
  have hNl := namesS_len s
  rw [hlt] at Lt hl
  simp only [hz, hz2] at C
  rw [hz] at h0
  rw [hrr] at Cl hr
  have tc : (strL (cleanL s.data.toList)).toList = cleanL s.data.toList := ByteArray.toList_eq _
  obtain ⟨cl, hcl⟩ : ∃ u, cleanL s.data.toList = u := ⟨_, rfl⟩
  simp only [hcl] at Cl Fd plain tc
  obtain ⟨cs, hcs⟩ : ∃ u, strL cl = u := ⟨_, rfl⟩
  rw [hcs] at Cl tc
  simp only [hcs] at Fd
  subst hl h0 hr
  rw [if_pos rfl] at Cl
  have H3 := Lib.hid h3
  have Hplain := Lib.hid plain
  have HRv := Lib.hid Rv
  have HFd := Lib.hid Fd
  have Hcs := Lib.hid hcs
  obtain ⟨n, hn⟩ : ∃ n, L.length = n := ⟨_, rfl⟩
  rw [hn] at Lt C HN HRv HFd hN6 ⊢
  have Hn := Lib.hid hn
  clear hN hS hz2 hlt hrr hcs h3 hn hz hcl plain Rv Fd
  refine callsIn_of_wp_marks Tryd.func5 rfl trivial ?_ rfl
  simp only [Tryd.ntmps5, List.size_toArray, List.length_cons, List.length_nil, Nat.reduceAdd, Nat.reduceSub, Array.replicate_succ, Array.replicate_zero, List.push_toArray, List.append_toArray, List.nil_append, List.cons_append]
  refine wpIn_wide.2 ?_
  go_wp2_with (first
  | (go_at_call 8; refine (A _).mono ?_; rintro e w1 ⟨rfl, hb1⟩; have k1 := bchain hbox hbox.size hb1; have bx4 := boxed_below hb4 hb1; have q4 := bx4.cell; have z4 := bx4.frozen; have l4 := bx4.lt; have k1a := k1.alloc k1.size (Obj.cells #[.bool true] 4); have bx5 := Boxed.new w1 4 (.bool true); have bx4a := bx4.alloc (Obj.cells #[.bool true] 4))
  | (go_at_call 9; refine (Lt _ (HN.out.below k1a)).mono ?_; rintro e w2 ⟨rfl, rfl⟩)
  | (go_at_call 14; refine (C _ (HN.out.below k1a)).mono ?_; rintro e w3 ⟨rfl, hb3⟩; have k3 := bchain k1a k1a.size hb3; have by4 := boxed_below bx4a hb3; have by5 := boxed_below bx5 hb3)
  | (go_at_call 12; refine (Cl _).mono ?_; rintro e w4 ⟨rfl, hb4'⟩; have k4 := bchain k3 k3.size hb4'; have bz4 := boxed_below by4 hb4'; have bz5 := boxed_below by5 hb4'; have r4 := bz4.cell; have r4z := bz4.frozen; have r5 := bz5.cell))
  have HN4 := Lib.hid (HN.out.below k4)
  go_loopw [11] (fun i wr => ∃ k : Nat, k ≤ n ∧ i = .int .i64 k ∧ wr = w4) (fun i _ => n - (intOf i).toNat)
  case atStart => exact ⟨0, Nat.zero_le _, rfl, rfl⟩
  case round =>
    obtain ⟨k, hk, rfl, hwr⟩ := hrel
    subst hwr
    by_cases hlt : k < n
    · obtain ⟨_, _, e, _, _, hcell⟩ := HN4.out
      injection e with e1 e2 e3
      subst e1 e3
      obtain ⟨gl, o, rfl, hcq⟩ := hcell (by rw [Hn.out]; omega)
      obtain ⟨x, hx⟩ : ∃ x, L[k]? = some x := ⟨_, List.getElem?_eq_getElem (by rw [Hn.out]; exact hlt)⟩
      obtain ⟨_, e1, _⟩ := hcq k x hx
      have hlt' : (k : Int) < n := by omega
      have hk3 := H3.out x (List.mem_of_getElem? hx)
      obtain ⟨xp, xk, xt⟩ := x
      simp only at e1 hk3
      have hE : (xk == 3) = false := by simpa using hk3
      clear hcell hcq hx e2 hk3
      go_wp2
      go_roundw
      case rel => exact ⟨k + 1, by omega, by go_num, trivial⟩
      case measure => (simp [intOf] <;> omega)
    · obtain rfl : k = n := by omega
      go_wp2_with (go_at_call 15; refine (callsIn_wide.1 (all_in 3 s _)).mono ?_; rintro e w' ⟨rfl, rfl⟩)
      have bN := Boxed.new wr 9 (.string s)
      have k4a := k4.alloc k4.size (Obj.cells #[.string s] 9)
      have v4 := bz4.alloc (Obj.cells #[.string s] 9)
      have v5 := bz5.alloc (Obj.cells #[.string s] 9)
      obtain ⟨w5, hw5⟩ : ∃ w5, wr.alloc (.cells #[.string s] 9) = w5 := ⟨_, rfl⟩
      rw [hw5] at bN k4a v4 v5 ⊢
      have v4l := v4.lt
      have hK63 := hNl
      have hBo : w1.heap.size < w5.heap.size := v5.lt
      have sz5 : w5.heap.size = wr.heap.size + 1 := by rw [← hw5]; simp
      refine (wpIn_wide (n := 3)).1 ?_
      refine wpIn_rangeFunc_ownG rfl (show 1 ≤ 3 by omega) (gf := 27) (lb := #[.pointer (some ⟨wr.heap.size, 0, none⟩)]) rfl trivial (enters_of Tryd.func27 (by kernel_rfl) rfl)
        (names_stops _ (by omega) wr.heap.size w5.heap.size s w5 bN.lt bN.cell) belowK_t (belowK_b (Nat.le_refl _)) (Below.refl _ _) (fun _ => rfl)
        (PI w5) (PX w w.heap.size) (pi_own w5 _ (Nat.le_refl _)) (px_own w w.heap.size _ k4a.size v4l)
        ⟨fun y hy => by simp at hy, Below.refl _ _⟩
        (fun x => { tmps := #[Value.slice An k c, Value.string s, undef, undef, Value.pointer (some { block := w.heap.size, off := 0 }), Value.pointer (some { block := w1.heap.size, off := 0 }), Value.bool true, Value.int IntKind.i64 0, Value.int IntKind.i64 z2, Value.string cs, Value.int IntKind.i64 0, Value.int IntKind.i64 (k:Int), .string x, undef, undef, undef, undef, undef, Value.bool true, Value.bool true, Value.bool false, Value.slice An k c, Value.bool true, Value.tuple #[Value.int IntKind.i64 0, Value.int IntKind.i64 z2], Value.slice An k c, Value.tuple #[Value.int IntKind.i64 0, Value.int IntKind.i64 z2], Value.int IntKind.i64 0, Value.int IntKind.i64 z2, Value.tuple #[Value.string cs, Value.int IntKind.i64 0], Value.string s, Value.tuple #[Value.string cs, Value.int IntKind.i64 0], Value.string cs, Value.int IntKind.i64 0, Value.bool true, Value.bool false, Value.bool false, Value.string s, Value.int IntKind.i64 (s.size:Int), Value.bool (decide (256 < (s.size:Int))), Value.bool (decide (256 < (s.size:Int))), Value.bool (decide (256 < (s.size:Int))), Value.int IntKind.i64 0, Value.bool false, Value.bool (decide (256 < (s.size:Int))), Value.bool (decide (256 < (s.size:Int))), Value.int IntKind.i64 0, Value.bool false, Value.bool (decide (256 < (s.size:Int))), undef, Value.int IntKind.i64 (k:Int), Value.slice An k c, Value.int IntKind.i64 (k:Int), Value.bool false, u53, u54, u55, u56, u57, u58, u59, u60, u61, Value.string s, Value.func (Fn.func 27) #[] #[Value.pointer (some { block := wr.heap.size, off := 0 })], .string x, undef, undef, undef, undef, undef, undef, undef, undef, undef, undef, undef, undef, undef, undef, undef, undef, undef, undef, undef, undef, undef, undef, undef, undef, undef, undef, undef, undef, undef, undef, undef, undef, undef, undef, undef, undef, undef, undef, undef, undef, undef, undef, undef], defers := [] }) ?assign ?body ?done ?stop
      case assign =>
        intro l x W K hK
        gi_wp2
        exact hK
      case body =>
        rintro l pre x W ⟨hpre, hB⟩ hlt9
        have p4 := boxed_below v4 hB
        have p5 := boxed_below v5 hB
        have pc4 := p4.cell
        have pc4z := p4.frozen
        have pc5 := p5.cell
        have kW := bchain k4a k4a.size hB
        by_cases hx0 : x.data.toList = [46, 46]
        · have hx : x = ⟨#[46, 46]⟩ := by
            cases x with | mk d => cases d with | mk l => simp only at hx0; subst hx0; rfl
          subst hx
          clear hx0
          have hfin : PX w w.heap.size .ret (pre ++ [⟨#[46, 46]⟩]) (W.setCell ⟨w.heap.size, 0, none⟩ (.bool true)) := ⟨rfl, p4.set _, kW.setCell (p := ⟨w.heap.size, 0, none⟩) (Nat.le_refl _) _⟩
          have Hfin := Lib.hid hfin
          clear hfin
          gi_wp2
          exact ⟨(KeepsOthers.setCell _ _ _).from _, Hfin.out⟩
        · have hxE : (x.toList == [46, 46]) = false := by rw [ByteArray.toList_eq]; simpa using hx0
          have hpre2 : ∀ y ∈ pre ++ [x], y.data.toList ≠ [46, 46] := by
            intro y hy
            rcases List.mem_append.1 hy with h | h
            · exact hpre y h
            · obtain rfl : y = x := by simpa using h
              exact hx0
          have Hpre2 := Lib.hid hpre2
          clear hpre2 hpre hx0
          gi_wp2
          exact ⟨KeepsFrom.refl _ _, Below.refl _ _, Hpre2.out, hB⟩
      case done =>
        rintro D ys W hD rfl ⟨hpre, hB⟩ hK
        have p4 := boxed_below v4 hB
        have p5 := boxed_below v5 hB
        have kW := bchain k4a k4a.size hB
        have hd : ∀ m ∈ namesL s.data.toList, m ≠ [46, 46] := by
          intro m hm
          rw [← unS_names s] at hm
          unfold unS at hm
          obtain ⟨y, hy, rfl⟩ := List.mem_map.1 hm
          exact hpre y hy
        have hp := Hplain.out hd
        have HKD := Lib.hid hK
        have hDk := belowK_b (w := w) (Nat.le_refl _)
        have HW := HN.out.below kW
        rcases hp with ⟨x, hf, hr⟩ | ⟨hf, hr⟩
        · have R1 := HRv.out
          have F1 := HFd.out
          rw [hr] at R1
          rw [hf] at F1
          unfold resT at R1
          unfold findV nodV at F1
          simp only [Hcs.out] at R1 F1
          obtain ⟨xp, xk, xt⟩ := x
          simp only at R1 F1
          have hcc : (cs.toList == cs.toList) = true := by simp
          clear hK hpre hd hf hr HRv HFd
          go_wp2_with (first
            | (go_at_call 10; (with_reducible refine (R1 _ HW).mono ?_); rintro e w6 ⟨rfl, hb6⟩; have k6 := bchain kW kW.size hb6; have q4 := boxed_below p4 hb6; have q5 := boxed_below p5 hb6)
            | (go_at_call 13; (with_reducible refine (F1 _ (HN.out.below k6)).mono ?_); rintro e w7 ⟨rfl, hb7⟩; have k7 := bchain k6 k6.size hb7; have r4' := boxed_below q4 hb7; have r5' := boxed_below q5 hb7; have r4c := r4'.cell; have r4d := r4'.frozen; have r5c := r5'.cell; have r4l := r4'.lt; have r5l := r5'.lt))
          have hHD7 := heap_keep4 hb7 (heap_keep4 hb6 HKD.out)
          obtain ⟨f1, f2, f3⟩ := plain_end (.cells #[.string (strL xp), .int .i64 xk, .string (strL xt)] 32) (.bool false) (by omega) k7 hHD7 r4'
          refine ⟨by simp, .inl ⟨_, _, rfl, run_takeDeferred f1, ?_⟩⟩
          exact ⟨.bool true, by simp [results, Tryd.f5, go_sem, f2], rfl, f3⟩
        · have F1 := HFd.out
          rw [hf] at F1
          unfold findV zeroN at F1
          simp only [Hcs.out] at F1
          have R1 := HRv.out
          rcases hr with hr | hr
          all_goals
            rw [hr] at R1
            unfold resT badR at R1
            simp only [show strL [] = ⟨#[]⟩ from rfl] at R1
            clear hK hpre hd hf hr HRv HFd
            go_wp2_with (first
              | (go_at_call 10; (with_reducible refine (R1 _ HW).mono ?_); rintro e w6 ⟨rfl, hb6⟩; have k6 := bchain kW kW.size hb6; have q4 := boxed_below p4 hb6; have q5 := boxed_below p5 hb6)
              | (go_at_call 13; (with_reducible refine (F1 _ (HN.out.below k6)).mono ?_); rintro e w7 ⟨rfl, hb7⟩; have k7 := bchain k6 k6.size hb7; have r4' := boxed_below q4 hb7; have r5' := boxed_below q5 hb7; have r4c := r4'.cell; have r4d := r4'.frozen; have r5c := r5'.cell; have r4l := r4'.lt; have r5l := r5'.lt))
            have hHD7 := heap_keep4 hb7 (heap_keep4 hb6 HKD.out)
            obtain ⟨f1, f2, f3⟩ := plain_end (.cells #[.string ⟨#[]⟩, .int .i64 0, .string ⟨#[]⟩] 32) (.bool false) (by omega) k7 hHD7 r4'
            refine ⟨by simp, .inl ⟨_, _, rfl, run_takeDeferred f1, ?_⟩⟩
            exact ⟨.bool true, by simp [results, Tryd.f5, go_sem, f2], rfl, f3⟩
      case stop =>
        rintro D c pre W hD hpre ⟨rfl, hv, hB⟩ hHD
        have hvc := hv.cell
        have hK63' := belowK_b (w := w) (Nat.le_refl _) W D _ (.deferred none) (by have := k4a.size; omega) hHD rfl rfl
        have hc6 := cell_kept hvc (grownBy_putObj' W D (.deferred none)) (fun r e => by cases e; exact ⟨_, hHD, rfl⟩)
        gi_wp2
        refine ⟨by simp, .inl ⟨_, _, rfl, run_takeDeferred hHD, ?_⟩⟩
        exact ⟨.bool true, by simp [results, Tryd.f5, go_sem, hc6], rfl, hB.trans hK63'⟩
theorem law_plain (nv : Value) (L : List Nod) (s : ByteArray) (w : World) (hN : NodesAt w nv L) (hS : ∀ x ∈ L, SizedN x) : Calls Tryd.prog 5 #[nv, .string s] w (Ret (.bool true) w) := by
  by_cases h : lightB L = false ∨ (256 : Int) < (s.size : Int) ∨ (checkV L).1 ≠ 0 ∨ rightB s.data.toList = false
  · exact plain_early nv L s w hN hS h
  · simp only [not_or, Bool.not_eq_false, Decidable.not_not] at h
    obtain ⟨h1, h2, h3, h4⟩ := h
    by_cases hl : ∃ x ∈ L, x.k = 3
    · exact plain_linked nv L s w hN hS h1 (by omega) h3 h4 hl
    · exact callsIn_wide.1 (plain_late nv L s w hN hS h1 (by omega) h3 h4 (fun x hx hk => hl ⟨x, hx, hk⟩))
end Go.Proofs.YtnjpodbefcfdhaaDoor
