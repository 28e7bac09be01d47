/- glob.Match: it answers whether a path is like a glob. No conditions. -/
import Derived.Test.YtcmogmplfigikaaLikeD
import Derived.OwnWalk
import Derived.Laws.EntriesVeiled
namespace Go.Proofs.Ytcmogmplfigikaa
open Go.RowKit
attribute [local go_sem ↓] Go.wp_at_zero Go.wp_at_succ
set_option linter.unusedVariables false
set_option linter.unusedSimpArgs false

def globB (g p : List UInt8) : Bool := rightB p && (rightB g && matchM (namesL g) (leftL (namesL p)))
theorem keep_cell {W W' : World} {p : Addr} {v : Value} (hb : Below W.heap.size W W') (h : W.cell? p = some v) : W'.cell? p = some v := (hb.cell (World.block_lt_of_cell? W p h)).trans h

set_option maxRecDepth 100000 in
set_option maxHeartbeats 4000000 in
theorem match_bad (g p : ByteArray) (w : World) (h : rightB p.data.toList = false ∨ rightB g.data.toList = false) : Calls Try.prog 13 #[.string g, .string p] w (Ret (.bool false) w) := by
  have C := clean_any p
  have R := right_any g
  unfold cleanV at C
  cases hp : rightB p.data.toList with
  | false =>
    rw [hp, if_neg (by decide)] at C
    clear h
    go_enter Try.func13, Try.ntmps13
    go_wp2_with (first | (go_at_call 15; refine (C _).mono ?_; rintro e w1 ⟨rfl, hb1⟩))
    go_ret
    exact ⟨rfl, hb1⟩
  | true =>
    rw [hp, if_pos rfl] at C
    have hg : rightB g.data.toList = false := by rcases h with h | h; (rw [hp] at h; cases h); exact h
    rw [hg] at R
    clear h
    go_enter Try.func13, Try.ntmps13
    go_wp2_with (first | (go_at_call 15; refine (C _).mono ?_; rintro e w1 ⟨rfl, hb1⟩) | (go_at_call 16; refine (R _).mono ?_; rintro e w2 ⟨rfl, rfl⟩))
    go_ret
    exact ⟨rfl, hb1⟩

theorem elem_total : ∀ {ns : List (List UInt8)} {n : List UInt8}, n ∈ ns → n.length ≤ total ns
  | m :: ns, n, h => by
    have h3 := total_append [m] ns
    have h4 : total [m] = m.length + 1 := by simp [total, flatL]
    simp at h3
    rcases List.mem_cons.1 h with rfl | h
    · omega
    · have := elem_total h; omega
theorem names_elem (l : List UInt8) : ∀ n ∈ namesL l, n.length ≤ 1000 := fun n h => by
  have := elem_total h
  have := total_names l
  omega
theorem cell_new0 (w : World) (v : Value) (t : TypeId) : (w.alloc (.cells #[v] t)).cell? ⟨w.heap.size, 0, none⟩ = some v := (Boxed.new w t v).cell

set_option maxRecDepth 100000 in
set_option maxHeartbeats 4000000 in
theorem match_good (g p : ByteArray) (w : World) (hg : rightB g.data.toList = true) (hp : rightB p.data.toList = true) : Calls Try.prog 13 #[.string g, .string p] w (Ret (.bool (matchM (namesL g.data.toList) (leftL (namesL p.data.toList)))) w) := by
  obtain ⟨i4, hi4, hz4, hs4, hb4⟩ := info_parts info4
  have C := clean_any p
  have R := right_any g
  unfold cleanV at C
  rw [hp, if_pos rfl] at C
  rw [hg] at R
  have hNc : namesL (cleanL p.data.toList) = leftL (namesL p.data.toList) := names_clean _
  obtain ⟨c, hc⟩ : ∃ c, strL (cleanL p.data.toList) = c := ⟨_, rfl⟩
  have hcd : namesL c.data.toList = leftL (namesL p.data.toList) := by rw [← hc, strL_data]; exact hNc
  rw [hc] at C
  rw [← hcd]
  have N1 := pathNames_any g
  have N2 := pathNames_any c
  have Hae := Lib.hid (names_elem g.data.toList)
  have Hbe := Lib.hid (names_elem c.data.toList)
  have hal := names_small g.data.toList
  have hbl := names_small c.data.toList
  obtain ⟨a, ha⟩ : ∃ a, namesL g.data.toList = a := ⟨_, rfl⟩
  obtain ⟨b, hb⟩ : ∃ b, namesL c.data.toList = b := ⟨_, rfl⟩
  rw [ha] at hal Hae ⊢
  rw [hb] at hbl Hbe ⊢
  have Ha := Lib.hid ha
  have Hb := Lib.hid hb
  have hML : (a.length + 1) * (b.length + 1) ≤ 258 * 258 := Nat.mul_le_mul (by omega) (by omega)
  have hI : (((a.length : Int) + 1) * ((b.length : Int) + 1)) = (((a.length + 1) * (b.length + 1) : Nat) : Int) := by go_num
  obtain ⟨N, hN⟩ : ∃ N, (a.length + 1) * (b.length + 1) = N := ⟨_, rfl⟩
  rw [hN] at hML hI
  have HN := Lib.hid hN
  clear hc hNc hcd ha hb hg hp hN
  go_enter Try.func13, Try.ntmps13
  go_wp2_with (first
    | (go_at_call 15; refine (C _).mono ?_; rintro e w1 ⟨rfl, hb1⟩)
    | (go_at_call 16; refine (R _).mono ?_; rintro e w' ⟨rfl, rfl⟩)
    | (go_at_call 20; first | ((with_reducible refine (N1 _).mono ?_); rintro e w' ⟨rfl, rfl⟩) | ((with_reducible refine (N2 _).mono ?_); rintro e w' ⟨rfl, rfl⟩))
    | (go_at_call 19; refine (collect_any _ _ _ (cell_new0 _ _ _)).mono ?_; first | (have hx := hb2; rintro e w3 ⟨v2, rfl, ⟨A2, cb, rfl, hcb, hxb⟩, hb3⟩; have Hxb := Lib.hid hxb; clear hxb; rw [Hb.out] at hcb Hxb ⊢) | (rintro e w2 ⟨v1, rfl, ⟨A1, ca, rfl, hca, hxa⟩, hb2⟩; have Hxa := Lib.hid hxa; clear hxa; rw [Ha.out] at hca Hxa ⊢))
    | (at_make; refine wpList_make_full _ rfl _ _ 37 rfl _ 4 i4 (.bool false) 1 Try.underlying37 hi4 hz4 hs4 .i64 .i64 _ _ N rfl rfl (by first | rfl | go_num) (by first | rfl | go_num) (by rw [hb4]; omega) (by unfold maxLen; omega) (Nat.le_refl _) ?_; intro w5 hown5 hgrow5)
    | (go_at_call 21; fail))
  have hb23 : Below w2.heap.size w2 w3 := ((Below.refl _ w2).alloc (Nat.le_refl _) _).trans (hb3.mono (by simp))
  have hb12 : Below w1.heap.size w1 w2 := ((Below.refl _ w1).alloc (Nat.le_refl _) _).trans (hb2.mono (by simp))
  have hW4 : ((w3.alloc (Obj.cells #[Value.slice A1 a.length ca] 38)).alloc (Obj.cells #[Value.slice A2 b.length cb] 38)).heap.size = w3.heap.size + 1 + 1 := by simp
  have hb45 : Below ((w3.alloc (Obj.cells #[Value.slice A1 a.length ca] 38)).alloc (Obj.cells #[Value.slice A2 b.length cb] 38)).heap.size ((w3.alloc (Obj.cells #[Value.slice A1 a.length ca] 38)).alloc (Obj.cells #[Value.slice A2 b.length cb] 38)) w5 := (Below.refl _ _).grown hgrow5 (Nat.le_refl _) (fun k h => by cases h)
  have hb35 : Below w3.heap.size w3 w5 := (((Below.refl _ w3).alloc (Nat.le_refl _) _).alloc (by simp) _).trans (hb45.mono (by simp; omega))
  have bA := ((Boxed.new w3 38 (Value.slice A1 a.length ca)).alloc (Obj.cells #[Value.slice A2 b.length cb] 38)).kept hgrow5 (by simp)
  have bB := (Boxed.new (w3.alloc (Obj.cells #[Value.slice A1 a.length ca] 38)) 38 (Value.slice A2 b.length cb)).kept hgrow5 (by simp)
  have hrow := BoolRow.made hown5
  rw [hW4] at hrow
  rw [show (w3.alloc (Obj.cells #[Value.slice A1 a.length ca] 38)).heap.size = w3.heap.size + 1 from by simp] at bB
  have h35 := hb35.size
  have h45 := hb45.size
  rw [hW4] at h45
  have hlt5 := hrow.lt
  have h23 := hb23.size
  clear hown5 hgrow5
  obtain ⟨X, hX⟩ : ∃ X, (w5.alloc (Obj.cells #[Value.slice (some ⟨w3.heap.size + 1 + 1, 0, none⟩) N N] 37)).alloc (Obj.cells #[Value.func (Fn.func 21) #[] #[.pointer (some ⟨w3.heap.size, 0, none⟩), .pointer (some ⟨w3.heap.size + 1, 0, none⟩), .pointer (some ⟨w5.heap.size, 0, none⟩), .pointer (some ⟨w5.heap.size + 1, 0, none⟩)]] 43) = X := ⟨_, rfl⟩
  have hb5X : Below w5.heap.size w5 X := by rw [← hX]; exact ((Below.refl _ w5).alloc (Nat.le_refl _) _).alloc (by simp) _
  have bX := ((Boxed.new w5 37 (Value.slice (some ⟨w3.heap.size + 1 + 1, 0, none⟩) N N)).alloc (Obj.cells #[Value.func (Fn.func 21) #[] #[.pointer (some ⟨w3.heap.size, 0, none⟩), .pointer (some ⟨w3.heap.size + 1, 0, none⟩), .pointer (some ⟨w5.heap.size, 0, none⟩), .pointer (some ⟨w5.heap.size + 1, 0, none⟩)]] 43)).cell
  have bY := (Boxed.new (w5.alloc (Obj.cells #[Value.slice (some ⟨w3.heap.size + 1 + 1, 0, none⟩) N N] 37)) 43 (Value.func (Fn.func 21) #[] #[.pointer (some ⟨w3.heap.size, 0, none⟩), .pointer (some ⟨w3.heap.size + 1, 0, none⟩), .pointer (some ⟨w5.heap.size, 0, none⟩), .pointer (some ⟨w5.heap.size + 1, 0, none⟩)])).cell
  rw [hX] at bX bY
  rw [show (w5.alloc (Obj.cells #[Value.slice (some ⟨w3.heap.size + 1 + 1, 0, none⟩) N N] 37)).heap.size = w5.heap.size + 1 from by simp] at bY
  rw [hX]
  have LK : LikeAt X w3.heap.size (w3.heap.size + 1) w5.heap.size (w5.heap.size + 1) (w3.heap.size + 1 + 1) A1 A2 ca cb a b (fun _ => false) := by
    refine ⟨keep_cell hb5X bA.cell, keep_cell hb5X bB.cell, by rw [HN.out]; exact bX, bY, ?_, ?_, by rw [HN.out]; exact hrow.below hb5X, fun i k _ h => (by cases h), by omega, by omega, by omega, by omega⟩
    · intro j n hj
      obtain ⟨bl, o, rfl, hlt, hcell⟩ := Hxa.out (by have := (List.getElem?_eq_some_iff.1 hj).1; omega)
      exact ⟨bl, o, rfl, by omega, keep_cell hb5X ((hb35.cell (p := ⟨bl, o + j, none⟩) (show bl < w3.heap.size by omega)).trans ((hb23.cell (p := ⟨bl, o + j, none⟩) hlt).trans (hcell j n hj)))⟩
    · intro j n hj
      obtain ⟨bl, o, rfl, hlt, hcell⟩ := Hxb.out (by have := (List.getElem?_eq_some_iff.1 hj).1; omega)
      exact ⟨bl, o, rfl, by omega, keep_cell hb5X ((hb35.cell (p := ⟨bl, o + j, none⟩) hlt).trans (hcell j n hj))⟩
  have LA := like_any w3.heap.size (w3.heap.size + 1) w5.heap.size (w5.heap.size + 1) (w3.heap.size + 1 + 1) A1 A2 ca cb a b hal hbl Hae.out Hbe.out (a.length + b.length) 0 0 _ X (by omega) (Nat.zero_le _) (Nat.zero_le _) LK
  have L0 : Calls Try.prog 21 #[.int .i64 0, .int .i64 0, .pointer (some ⟨w3.heap.size, 0, none⟩), .pointer (some ⟨w3.heap.size + 1, 0, none⟩), .pointer (some ⟨w5.heap.size, 0, none⟩), .pointer (some ⟨w5.heap.size + 1, 0, none⟩)] X (LikePost w3.heap.size (w3.heap.size + 1) w5.heap.size (w5.heap.size + 1) (w3.heap.size + 1 + 1) A1 A2 ca cb a b (matchM a b) X) := LA
  have hwX : Below w.heap.size w X := by
    have k1 : Below w.heap.size w w2 := hb1.trans (hb12.mono hb1.size)
    have k2 : Below w.heap.size w w3 := k1.trans (hb23.mono k1.size)
    have k3 : Below w.heap.size w w5 := k2.trans (hb35.mono k2.size)
    exact k3.trans (hb5X.mono k3.size)
  have hws : w.heap.size ≤ w3.heap.size := by
    have k1 : Below w.heap.size w w2 := hb1.trans (hb12.mono hb1.size)
    have := k1.size; omega
  clear LA LK bX bY hX hrow bA bB
  refine L0.mono ?_
  rintro e W1 ⟨rfl, f', h1, U1⟩
  have HU := Lib.hid U1
  clear h1 U1 L0
  go_wp2
  go_ret
  exact ⟨rfl, hwX.trans (HU.out.toBelow hwX.size (fun k h => by omega))⟩

theorem match_any (g p : ByteArray) (w : World) : Calls Try.prog 13 #[.string g, .string p] w (Ret (.bool (globB g.data.toList p.data.toList)) w) := by
  unfold globB
  cases hp : rightB p.data.toList with
  | false => exact match_bad g p w (.inl hp)
  | true =>
    cases hg : rightB g.data.toList with
    | false => exact match_bad g p w (.inr hg)
    | true => exact match_good g p w hg hp
end Go.Proofs.Ytcmogmplfigikaa
