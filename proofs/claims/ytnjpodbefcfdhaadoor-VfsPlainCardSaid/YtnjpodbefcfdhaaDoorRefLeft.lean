/- The reference's names that are left, Clean, Up, Within. No conditions. -/
import Derived.Test.YtnjpodbefcfdhaaDoorRefNames
namespace Go.Proofs.YtnjpodbefcfdhaaDoor
open Go.RowKit Go.Shelf
set_option linter.unusedVariables false
set_option linter.unusedSimpArgs false

def LeftRel (ns : List (List UInt8)) (w2 : World) (v i : Value) (wr : World) : Prop :=
  ∃ (k : Nat) (O : List (List UInt8)), k ≤ ns.length ∧ i = .int .i64 k ∧ O = leftL (ns.take k) ∧ wr.ownsRow w2.heap.size 9 1 v O.length (rowP O) ∧ Below w2.heap.size w2 wr
theorem leftL_len (ns : List (List UInt8)) : (leftL ns).length ≤ ns.length := by
  have h : ∀ (l o : List (List UInt8)), (l.foldl stepL o).length ≤ o.length + l.length := by
    intro l
    induction l with
    | nil => intro o; simp
    | cons n l ih => intro o; have := ih (stepL o n); have := stepL_len o n; simp; omega
  have := h ns []
  unfold leftL; simpa using this
theorem leftL_next {ns : List (List UInt8)} {k : Nat} {x : List UInt8} (hx : ns[k]? = some x) : leftL (ns.take (k + 1)) = stepL (leftL (ns.take k)) x := by
  rw [List.take_add_one, hx]; exact leftL_snoc _ _
theorem rowP_one {O : List (List UInt8)} : ∀ u ∈ rowP O, u.oneCell' = true := by
  intro u hu
  unfold rowP at hu
  obtain ⟨n, _, rfl⟩ := List.mem_map.1 hu
  rfl
theorem names_small (l : List UInt8) : (namesL l).length ≤ 257 := by
  have h := total_names l
  have h2 : ∀ ns : List (List UInt8), ns.length ≤ total ns := by
    intro ns
    induction ns with
    | nil => simp
    | cons n ns ih =>
      have h3 := total_append [n] ns
      have h4 : total [n] = n.length + 1 := by simp [total, flatL]
      simp at h3 ⊢; omega
  exact Nat.le_trans (h2 _) h

set_option maxRecDepth 100000 in
set_option maxHeartbeats 4000000 in
theorem ref_left_any (s : ByteArray) (w : World) : Calls Tryd.prog 51 #[.string s] w (Gives (leftL (namesL s.data.toList)) w) := by
  have L := ref_names_any s
  obtain ⟨i0, hi, hz0, hz1, hz2⟩ := info_parts info9
  have hsm := names_small s.data.toList
  obtain ⟨ns, hns⟩ : ∃ ns, namesL s.data.toList = ns := ⟨_, rfl⟩
  rw [hns] at L hsm ⊢
  clear hns
  have hml : 1000 ≤ maxLen := by decide
  go_enter Tryd.func51, Tryd.ntmps51
  go_wp2_with (go_at_call 23; (with_reducible refine (L _).mono ?_); rintro e w2 ⟨v1, rfl, ⟨A1, c1, rfl, hc1, hx1⟩, hb1⟩; have Hx1 := Lib.hid hx1; clear hx1)
  go_loopw [3, 5] (fun v i wr => LeftRel ns w2 v i wr) (fun _ i _ => ns.length - (intOf i).toNat)
  case atStart => exact ⟨0, [], Nat.zero_le _, rfl, rfl, World.ownsRow_nil _ _ _ _, Below.refl _ _⟩
  case round =>
    obtain ⟨k, O, hk, rfl, hO, hown, hbw⟩ := hrel
    by_cases hlt : k < ns.length
    · obtain ⟨b1, o1, rfl, hlt1, hcell1⟩ := Hx1.out (by omega)
      obtain ⟨x, hx⟩ : ∃ x, ns[k]? = some x := ⟨_, List.getElem?_eq_getElem hlt⟩
      have cx := (hbw.cell (p := ⟨b1, o1 + k, none⟩) hlt1).trans (hcell1 k x hx)
      have tx : (strL x).toList = x := ByteArray.toList_eq _
      have hlt' : (k : Int) < (ns.length : Int) := by omega
      have hk1 : k ≤ 257 := by omega
      have hOl : O.length ≤ 257 := by have := leftL_len (ns.take k); rw [← hO] at this; simp at this; omega
      have hstep := leftL_next hx
      rw [← hO] at hstep
      have Hstep := Lib.hid hstep
      obtain ⟨t, ht⟩ : ∃ t, strL x = t := ⟨_, rfl⟩
      rw [ht] at cx tx
      have Ht := Lib.hid ht
      clear hcell1 hx hstep hO ht
      by_cases hdd : x = [46, 46]
      · have hd : (x == [46, 46]) = true := by simpa using hdd
        have hs1 : stepL O x = O.take (O.length - 1) := by unfold stepL; rw [if_pos hdd]
        clear hdd
        rcases Nat.eq_zero_or_pos O.length with h0 | h0
        · have hO0 : O = [] := List.length_eq_zero_iff.1 h0
          subst hO0
          obtain ⟨A, c, rfl⟩ : ∃ A c, u3 = .slice A 0 c := by
            rcases hown.2 with ⟨rfl, _⟩ | ⟨g, cap, cur, rfl, _⟩
            · exact ⟨_, _, rfl⟩
            · exact ⟨_, _, rfl⟩
          have Hs1 := Lib.hid hs1
          have Hown := Lib.hid hown
          clear hs1 h0 hown
          go_wp2
          go_round
          case rel => exact ⟨k + 1, [], by omega, by go_num, by rw [Hstep.out, Hs1.out]; rfl, Hown.out, hbw⟩
          case measure => simp [intOf]; omega
        · obtain ⟨m, hm⟩ : ∃ m, O.length = m + 1 := ⟨O.length - 1, by omega⟩
          have hsplit : rowP O = rowP (O.take m) ++ rowP (O.drop m) := by unfold rowP; rw [← List.map_append, List.take_append_drop]
          have hkl : (O.take m).length = m := by simp; omega
          rw [hm, hsplit] at hown
          obtain ⟨g, cap, rfl⟩ := ownsRow_succ hown
          have hpop := ownsRow_pop (by rw [rowP_len, hkl]; omega) hown
          have hcap : m + 1 ≤ cap ∧ cap ≤ maxLen := by
            rcases hown.2 with ⟨h, _⟩ | ⟨g', cap', cur, h, _, _, h1, h2, _⟩
            · cases h
            · cases h; exact ⟨h1, h2⟩
          obtain ⟨hcap1, hcap2⟩ := hcap
          have hm1 : m ≤ 257 := by omega
          rw [hm] at hs1
          have Hs1 : Hid (stepL O x = O.take m) := Lib.hid (by rw [hs1]; rfl)
          have Hkl := Lib.hid hkl
          clear hs1 h0 hsplit hown hm hOl hkl
          have own0 : (wr.alloc (Obj.cells #[] 9)).ownsRow w2.heap.size 9 1 (.slice (some ⟨wr.heap.size, 0, none⟩) 0 0) 0 [] :=
            ⟨rfl, .inr ⟨_, 0, #[], rfl, hbw.size, World.alloc_heap_new wr _, Nat.le_refl _, Nat.zero_le _, rfl, rfl⟩⟩
          go_wp2_with (at_builtin; refine wpList_append_own _ rfl _ _ 43 rfl w2.heap.size 9 i0 (.string ⟨#[]⟩) 1 16 Tryd.underlying43 hi hz0 hz1 hz2 rfl (by decide) _ 0 [] rfl own0 ⟨g, 0, none⟩ m cap (rowP (O.take m)) rfl (by rw [rowP_len, Hkl.out, Nat.mul_one]) ((hpop.alloc _).cells (g := g) rfl) rowP_one (by omega) (by omega) (by have := hbw.size; simp; omega) ?_; intro v' w4 hown4 hgrow4 _; have hb4 : Below w2.heap.size w2 w4 := (hbw.alloc hbw.size _).grown hgrow4 (by simp; have := hbw.size; omega) (own_ge own0))
          go_round
          case rel => exact ⟨k + 1, O.take m, by omega, by go_num, by rw [Hstep.out, Hs1.out], by rw [Hkl.out]; rw [Nat.zero_add, List.nil_append] at hown4; exact hown4, hb4⟩
          case measure => simp [intOf]; omega
      · have hd : (x == [46, 46]) = false := by simpa using hdd
        have hs1 : stepL O x = O ++ [x] := by unfold stepL; rw [if_neg hdd]
        have Hs1 := Lib.hid hs1
        clear hdd hs1
        go_wp2_with (at_builtin; refine wpList_append_own _ rfl _ _ 43 rfl w2.heap.size 9 i0 (.string ⟨#[]⟩) 1 16 Tryd.underlying43 hi hz0 hz1 hz2 rfl (by decide) _ _ _ rfl (hown.alloc _) ⟨wr.heap.size, 0, none⟩ 1 1 [.string t] rfl rfl (cell_one_new _ _ _) (by simp [Value.oneCell']) (by omega) (by omega) (by have := hbw.size; simp; omega) ?_; intro v' w4 hown4 hgrow4 _; have hb4 : Below w2.heap.size w2 w4 := (hbw.alloc hbw.size _).grown hgrow4 (by simp; have := hbw.size; omega) (own_ge hown))
        go_round
        case rel => exact ⟨k + 1, O ++ [x], by omega, by go_num, by rw [Hstep.out, Hs1.out], by rw [show rowP (O ++ [x]) = rowP O ++ [.string t] from by unfold rowP; rw [List.map_append]; simp [Ht.out], List.length_append]; exact hown4, hb4⟩
        case measure => simp [intOf]; omega
    · obtain rfl : k = ns.length := by omega
      rw [List.take_length] at hO
      subst hO
      go_wp2
      go_ret
      exact ⟨_, rfl, strsAt_of_row hown, hb1.trans (hbw.mono hb1.size)⟩

set_option maxRecDepth 100000 in
set_option maxHeartbeats 1000000 in
theorem ref_clean_any (s : ByteArray) (w : World) : Calls Tryd.prog 42 #[.string s] w (Ret2 (cleanV s.data.toList) w) := by
  go_enter Tryd.func42, Tryd.ntmps42
  have R := ref_right_any s
  unfold cleanV
  cases hr : rightB s.data.toList with
  | false =>
    rw [hr] at R
    go_wp2_with (go_at_call 21; refine (R _).mono ?_; rintro e w' ⟨rfl, rfl⟩)
    go_ret2; exact ⟨rfl, Below.refl _ _⟩
  | true =>
    rw [hr] at R
    have L := ref_left_any s
    have J := fun v W h => ref_join_any v (leftL (namesL s.data.toList)) W h (by have := total_leftL s.data.toList; omega)
    go_wp2_with (first
      | (go_at_call 21; refine (R _).mono ?_; rintro e w' ⟨rfl, rfl⟩)
      | (go_at_call 51; refine (L _).mono ?_; rintro e w' ⟨v, rfl, hs, hb⟩)
      | (go_at_call 34; refine (J _ _ hs).mono ?_; rintro e w1 ⟨rfl, hb1⟩))
    go_ret2; exact ⟨rfl, hb.trans (hb1.mono hb.size)⟩

set_option maxRecDepth 100000 in
set_option maxHeartbeats 1000000 in
theorem ref_up_any (s : ByteArray) (w : World) : Calls Tryd.prog 44 #[.string s] w (Ret2 (upV s.data.toList) w) := by
  go_enter Tryd.func44, Tryd.ntmps44
  have R := ref_right_any s
  unfold upV
  cases hr : rightB s.data.toList with
  | false =>
    rw [hr] at R
    go_wp2_with (go_at_call 21; refine (R _).mono ?_; rintro e w' ⟨rfl, rfl⟩)
    go_ret2; exact ⟨rfl, Below.refl _ _⟩
  | true =>
    rw [hr] at R
    have L := ref_left_any s
    have J := fun v W h => ref_join_any v ((leftL (namesL s.data.toList)).take ((leftL (namesL s.data.toList)).length - 1)) W h (by have := total_leftL s.data.toList; have := total_take ((leftL (namesL s.data.toList)).length - 1) (leftL (namesL s.data.toList)); omega)
    have hsm := left_small s.data.toList
    rcases Nat.eq_zero_or_pos (leftL (namesL s.data.toList)).length with h0 | h0
    · have HU : strL (upL s.data.toList) = ⟨#[47]⟩ := by unfold upL; rw [List.length_eq_zero_iff.1 h0]; rfl
      rw [HU]
      go_wp2_with (first
        | (go_at_call 21; refine (R _).mono ?_; rintro e w' ⟨rfl, rfl⟩)
        | (go_at_call 51; refine (L _).mono ?_; rintro e w' ⟨v, rfl, ⟨A, c, rfl, hc, hx⟩, hb⟩; rw [h0] at hc ⊢; clear hx))
      go_ret2; exact ⟨rfl, hb⟩
    · obtain ⟨k, hk⟩ : ∃ k, (leftL (namesL s.data.toList)).length = k + 1 := ⟨(leftL (namesL s.data.toList)).length - 1, by omega⟩
      have hk1 : k ≤ 257 := by omega
      have hk0 : (((k : Int) + 1) == 0) = false := by simp; omega
      have hk02 : (((k + 1 : Nat) : Int) == 0) = false := by simp; omega
      have HU : upL s.data.toList = joinL ((leftL (namesL s.data.toList)).take k) := by unfold upL; rw [hk]; rfl
      go_wp2_with (first
        | (go_at_call 21; refine (R _).mono ?_; rintro e w' ⟨rfl, rfl⟩)
        | (go_at_call 51; refine (L _).mono ?_; rintro e w' ⟨v, rfl, ⟨A, c, rfl, hc, hx⟩, hb⟩; have hs2 : StrsAt w' (.slice A k c) ((leftL (namesL s.data.toList)).take ((leftL (namesL s.data.toList)).length - 1)) := (by have := strsAt_take ⟨A, c, rfl, hc, hx⟩ ((leftL (namesL s.data.toList)).length - 1) (by omega); rw [hk] at this ⊢; exact this); rw [hk] at hc ⊢; clear hx)
        | (go_at_call 34; refine (J _ _ hs2).mono ?_; rintro e w1 ⟨rfl, hb1⟩))
      go_ret2; exact ⟨rfl, hb.trans (hb1.mono hb.size)⟩


end Go.Proofs.YtnjpodbefcfdhaaDoor
