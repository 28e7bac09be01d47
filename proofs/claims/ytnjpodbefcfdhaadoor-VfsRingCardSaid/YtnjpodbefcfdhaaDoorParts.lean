/- Parts, twice: what a target goes through, in a row of one's own. Condition: the target is short. -/
import Derived.Test.YtnjpodbefcfdhaaDoorSplit
import Derived.Test.YtnjpodbefcfdhaaDoorRefNames
namespace Go.Proofs.YtnjpodbefcfdhaaDoor
open Go.RowKit Go.Shelf
attribute [local go_sem ↓] Go.wp_at_zero Go.wp_at_succ
set_option linter.unusedVariables false
set_option linter.unusedSimpArgs false

/-- A list of names comes back, in a row of the call's own. -/
def GivesOwn (ns : List (List UInt8)) (w : World) (e : Ending) (W' : World) : Prop := ∃ v, e = .returned v ∧ W'.ownsRow w.heap.size 9 1 v ns.length (rowP ns) ∧ Below w.heap.size w W'
/-- Where the reference's loop over parts stands. -/
def PartRel (l : List UInt8) (w : World) (v f i : Value) (wr : World) : Prop :=
  ∃ D, wr.ownsRow w.heap.size 9 1 v D.length (rowP D) ∧ Below w.heap.size w wr ∧
    ((∃ pre p rest, ∃ fn k : Nat, l = pre ++ (p ++ rest) ∧ (∀ b ∈ p, b ≠ 47) ∧ f = .int .i64 fn ∧ i = .int .i64 k ∧ pre.length = fn ∧ pre.length + p.length = k ∧ D ++ (pieces (p ++ rest)).filter nameB = partsL l ∧ D.length ≤ pre.length)
     ∨ (∃ k : Nat, i = .int .i64 k ∧ k = l.length + 1 ∧ D = partsL l))
set_option maxRecDepth 100000 in
set_option maxHeartbeats 4000000 in
theorem ref_parts_any (s : ByteArray) (hs : s.size ≤ 256) (w : World) : Calls Tryd.prog 35 #[.string s] w (GivesOwn (partsL s.data.toList) w) := by
  obtain ⟨i0, hi, hz0, hz1, hz2⟩ := info_parts info9
  have hml : 1000 ≤ maxLen := by decide
  have HL : Hid (s.data.toList.length ≤ 256) := Lib.hid (by rw [len_data]; exact hs)
  go_enter Tryd.func35, Tryd.ntmps35
  go_wp2
  go_loopw [3, 4, 5] (fun v f i wr => PartRel s.data.toList w v f i wr) (fun _ _ i _ => s.size + 1 - (intOf i).toNat)
  case atStart =>
    exact ⟨[], World.ownsRow_nil _ _ _ _, Below.refl _ _, .inl ⟨[], [], s.data.toList, 0, 0, rfl, by simp, rfl, rfl, rfl, rfl, rfl, by simp⟩⟩
  case round =>
    obtain ⟨D, hown, hbw, ⟨pre, p, rest, f, k, hl, hp, rfl, rfl, hf, hk, hD, hDl⟩ | ⟨k, rfl, hk, rfl⟩⟩ := hrel
    · have hsz : s.size = pre.length + (p.length + rest.length) := by rw [size_data, hl]; simp
      have hs256 : s.size ≤ 256 := by rw [size_data]; exact HL.out
      have hfk : f ≤ k := by omega
      have hks : k ≤ s.size := by omega
      have hks' : (k : Int) ≤ (s.size : Int) := by omega
      have ex : s.extract f k = strL p := by
        rw [← strL_of s, strL_extract, hl, ← hf, ← hk, ← List.append_assoc, List.take_left' (by simp), List.drop_left]
      have hDl2 : D.length ≤ 256 := by omega
      have Hf := Lib.hid hf
      have Hk := Lib.hid hk
      have Hl := Lib.hid hl
      have Hp := Lib.hid hp
      have HD := Lib.hid hD
      have HDl := Lib.hid hDl
      have Hsz := Lib.hid hsz
      clear hf hl hp hD hDl hsz
      have tp : (strL p).toList = p := ByteArray.toList_eq _
      obtain ⟨t, ht⟩ : ∃ t, strL p = t := ⟨_, rfl⟩
      rw [ht] at ex tp
      have Ht := Lib.hid ht
      clear ht
      cases rest with
      | nil =>
        have hke : ((k : Int) == (s.size : Int)) = true := by have := Hsz.out; simp at this ⊢; omega
        by_cases hp0 : p = []
        · have Hp0 := Lib.hid hp0
          clear hp0
          have hlt2 : ¬ f < k := by have := Hk.out; rw [Hp0.out] at this; simp at this; have := Hf.out; omega
          have hlt2' : ¬ (f : Int) < (k : Int) := by omega
          have hle2' : (k : Int) ≤ (f : Int) := by omega
          clear hk
          go_wp2
          go_round
          case rel =>
            have hnb : nameB p = false := by simp [nameB, Hp0.out]
            refine ⟨D, hown, hbw, .inr ⟨k + 1, by go_num, by rw [← size_data]; have := Hsz.out; have := Hk.out; have := Hf.out; simp at *; omega, ?_⟩⟩
            have h := HD.out
            rw [List.append_nil, pieces_one p Hp.out, List.filter_cons, hnb] at h
            simpa using h
          case measure => simp [intOf]; omega
        · have Hp0 := Lib.hid hp0
          clear hp0
          by_cases hp1 : p = [46]
          · have Hp1 := Lib.hid hp1
            clear hp1
            have hlt2' : (f : Int) < (k : Int) := by have := Hk.out; have := List.length_pos_iff.2 Hp0.out; have := Hf.out; omega
            have hE : (p == [46]) = true := by simpa using Hp1.out
            clear hk
            go_wp2
            go_round
            case rel =>
              have hnb : nameB p = false := by simp [nameB, Hp1.out]
              refine ⟨D, hown, hbw, .inr ⟨k + 1, by go_num, by rw [← size_data]; have := Hsz.out; have := Hk.out; have := Hf.out; simp at *; omega, ?_⟩⟩
              have h := HD.out
              rw [List.append_nil, pieces_one p Hp.out, List.filter_cons, hnb] at h
              simpa using h
            case measure => simp [intOf]; omega
          · have Hp1 := Lib.hid hp1
            clear hp1
            have hlt2' : (f : Int) < (k : Int) := by have := Hk.out; have := List.length_pos_iff.2 Hp0.out; have := Hf.out; omega
            have hE : (p == [46]) = false := by simpa using Hp1.out
            clear hk
            go_wp2_with (at_builtin; refine wpList_append_own _ rfl _ _ 43 rfl w.heap.size 9 i0 (.string ⟨#[]⟩) 1 16 Tryd.underlying43 hi hz0 hz1 hz2 rfl (by decide) _ _ _ rfl (hown.alloc _) ⟨wr.heap.size, 0, none⟩ 1 1 [.string t] rfl rfl (cell_one_new _ _ _) (by simp [Value.oneCell']) (by omega) (by omega) (by have := hbw.size; simp; omega) ?_; intro v' w4 hown4 hgrow4 _; have hb4 : Below w.heap.size w w4 := (hbw.alloc hbw.size _).grown hgrow4 (by simp; have := hbw.size; omega) (own_ge hown))
            go_round
            case rel =>
              have hnb : nameB p = true := by simp [nameB, Hp0.out, Hp1.out]
              refine ⟨D ++ [p], by rw [show rowP (D ++ [p]) = rowP D ++ [.string t] from by unfold rowP; rw [List.map_append]; simp [Ht.out], List.length_append]; exact hown4, hb4, .inr ⟨k + 1, by go_num, by rw [← size_data]; have := Hsz.out; have := Hk.out; have := Hf.out; simp at *; omega, ?_⟩⟩
              have h := HD.out
              rw [List.append_nil, pieces_one p Hp.out, List.filter_cons, hnb] at h
              simpa using h
            case measure => simp [intOf]; omega
      | cons c r =>
        have hlt : k < s.size := by have := Hsz.out; simp at this; omega
        have hke : ((k : Int) == (s.size : Int)) = false := by simp; omega
        have hkc : s[k] = c := by
          have h1 := get_data s k hlt
          have h2 : (pre ++ (p ++ c :: r))[k]? = some c := by rw [← hk, ← List.append_assoc, List.getElem?_append_right (by simp)]; simp
          rw [← Hl.out, h1] at h2
          exact Option.some.inj h2
        by_cases hc : c = 47
        · subst hc
          have hcc : (((s[k]).toNat : Int) == 47) = true := by rw [hkc]; rfl
          clear hkc
          by_cases hp0 : p = []
          · have Hp0 := Lib.hid hp0
            clear hp0
            have hlt2 : ¬ f < k := by have := Hk.out; rw [Hp0.out] at this; simp at this; have := Hf.out; omega
            have hlt2' : ¬ (f : Int) < (k : Int) := by omega
            have hle2' : (k : Int) ≤ (f : Int) := by omega
            clear hk
            go_wp2
            go_round
            case rel =>
              have hnb : nameB p = false := by simp [nameB, Hp0.out]
              refine ⟨D, hown, hbw, .inl ⟨pre ++ (p ++ [47]), [], r, k + 1, k + 1, by rw [Hl.out]; simp, by simp, by go_num, by go_num, by have := Hk.out; simp; omega, by have := Hk.out; simp; omega, ?_, by have := HDl.out; simp; omega⟩⟩
              have h := HD.out
              rw [pieces_cut p r Hp.out, List.filter_cons, hnb] at h
              simpa using h
            case measure => simp [intOf]; omega
          · have Hp0 := Lib.hid hp0
            clear hp0
            by_cases hp1 : p = [46]
            · have Hp1 := Lib.hid hp1
              clear hp1
              have hlt2' : (f : Int) < (k : Int) := by have := Hk.out; have := List.length_pos_iff.2 Hp0.out; have := Hf.out; omega
              have hE : (p == [46]) = true := by simpa using Hp1.out
              clear hk
              go_wp2
              go_round
              case rel =>
                have hnb : nameB p = false := by simp [nameB, Hp1.out]
                refine ⟨D, hown, hbw, .inl ⟨pre ++ (p ++ [47]), [], r, k + 1, k + 1, by rw [Hl.out]; simp, by simp, by go_num, by go_num, by have := Hk.out; simp; omega, by have := Hk.out; simp; omega, ?_, by have := HDl.out; simp; omega⟩⟩
                have h := HD.out
                rw [pieces_cut p r Hp.out, List.filter_cons, hnb] at h
                simpa using h
              case measure => simp [intOf]; omega
            · have Hp1 := Lib.hid hp1
              clear hp1
              have hlt2' : (f : Int) < (k : Int) := by have := Hk.out; have := List.length_pos_iff.2 Hp0.out; have := Hf.out; omega
              have hE : (p == [46]) = false := by simpa using Hp1.out
              clear hk
              go_wp2_with (at_builtin; refine wpList_append_own _ rfl _ _ 43 rfl w.heap.size 9 i0 (.string ⟨#[]⟩) 1 16 Tryd.underlying43 hi hz0 hz1 hz2 rfl (by decide) _ _ _ rfl (hown.alloc _) ⟨wr.heap.size, 0, none⟩ 1 1 [.string t] rfl rfl (cell_one_new _ _ _) (by simp [Value.oneCell']) (by omega) (by omega) (by have := hbw.size; simp; omega) ?_; intro v' w4 hown4 hgrow4 _; have hb4 : Below w.heap.size w w4 := (hbw.alloc hbw.size _).grown hgrow4 (by simp; have := hbw.size; omega) (own_ge hown))
              go_round
              case rel =>
                have hnb : nameB p = true := by simp [nameB, Hp0.out, Hp1.out]
                refine ⟨D ++ [p], by rw [show rowP (D ++ [p]) = rowP D ++ [.string t] from by unfold rowP; rw [List.map_append]; simp [Ht.out], List.length_append]; exact hown4, hb4, .inl ⟨pre ++ (p ++ [47]), [], r, k + 1, k + 1, by rw [Hl.out]; simp, by simp, by go_num, by go_num, by have := Hk.out; simp; omega, by have := Hk.out; simp; omega, ?_, by have := HDl.out; simp; omega⟩⟩
                have h := HD.out
                rw [pieces_cut p r Hp.out, List.filter_cons, hnb] at h
                simpa using h
              case measure => simp [intOf]; omega
        · have hcc : (((s[k]).toNat : Int) == 47) = false := by
            simp only [beq_eq_false_iff_ne]
            intro h
            exact hc (hkc.symm.trans ((byte_eq (n := 47) (by omega)).1 h))
          have Hc := Lib.hid hc
          clear hkc hk hc
          go_wp2
          go_round
          case rel =>
            exact ⟨D, hown, hbw, .inl ⟨pre, p ++ [c], r, f, k + 1, by rw [Hl.out]; simp, by
              intro b hb
              rcases List.mem_append.1 hb with h | h
              · exact Hp.out b h
              · simp at h; rw [h]; exact Hc.out, rfl, by go_num, Hf.out, by have := Hk.out; simp; omega, by have := HD.out; simpa using this, HDl.out⟩⟩
          case measure => simp [intOf]; omega
    · have hs256 : s.size ≤ 256 := by rw [size_data]; exact HL.out
      have hlen : s.data.toList.length = s.size := (size_data s).symm
      rw [hlen] at hk
      have hout2 : ((s.size : Int) < (k : Int)) := by omega
      have hk2 : k ≤ 300 := by omega
      clear hk
      go_wp2
      go_ret
      exact ⟨_, rfl, hown, hbw⟩

theorem own_mono {w : World} {b c : Nat} {e : TypeId} {size k : Nat} {v : Value} {xs : List Value} (h : w.ownsRow b e size v k xs) (hb : c ≤ b) : w.ownsRow c e size v k xs := by
  obtain ⟨h1, h2⟩ := h
  refine ⟨h1, ?_⟩
  rcases h2 with h2 | ⟨g, cap, cur, h3, h4, h5⟩
  · exact .inl h2
  · exact .inr ⟨g, cap, cur, h3, Nat.le_trans hb h4, h5⟩
def PtRel (ps : List (List UInt8)) (w1 : World) (v i : Value) (wr : World) : Prop :=
  ∃ (k : Nat) (D : List (List UInt8)), k ≤ ps.length ∧ i = .int .i64 k ∧ D = (ps.take k).filter nameB ∧ wr.ownsRow w1.heap.size 9 1 v D.length (rowP D) ∧ Below w1.heap.size w1 wr
theorem filter_next {ps : List (List UInt8)} {k : Nat} {x : List UInt8} (h : ps[k]? = some x) : (ps.take (k + 1)).filter nameB = (ps.take k).filter nameB ++ (if nameB x then [x] else []) := by
  rw [List.take_add_one, h, List.filter_append]
  cases hx : nameB x <;> simp [hx]
set_option maxRecDepth 100000 in
set_option maxHeartbeats 4000000 in
theorem parts_any (s : ByteArray) (hs : s.size ≤ 256) (w : World) : Calls Tryd.prog 19 #[.string s] w (GivesOwn (partsL s.data.toList) w) := by
  obtain ⟨i0, hi, hz0, hz1, hz2⟩ := info_parts info9
  have hml : 1000 ≤ maxLen := by decide
  have S := split_any s w (by omega)
  unfold partsL
  have hplen : (pieces s.data.toList).length ≤ 257 := by
    have h1 := total_pieces _ s.data.toList (Nat.le_refl _)
    have h2 := flatL_len (pieces s.data.toList)
    unfold total at h1
    rw [len_data] at h1
    omega
  obtain ⟨ps, hps⟩ : ∃ ps, pieces s.data.toList = ps := ⟨_, rfl⟩
  rw [hps] at S hplen ⊢
  have hal := below_alloc w (.cells ((ps.map strL).map Value.string).toArray 9)
  have hnc := fun j v h => new_cell w ((ps.map strL).map Value.string).toArray 9 j (v := v) h
  obtain ⟨w1, hw1⟩ : ∃ w1, w.alloc (.cells ((ps.map strL).map Value.string).toArray 9) = w1 := ⟨_, rfl⟩
  rw [hw1] at S hal
  simp only [hw1] at hnc
  have Hnc := Lib.hid hnc
  clear hps hnc
  go_enter Tryd.func19, Tryd.ntmps19
  go_wp2_with (go_at_call 31; refine S.mono ?_; rintro e w2 ⟨rfl, rfl⟩)
  go_loopw [3, 9] (fun v i wr => PtRel ps w2 v i wr) (fun _ i _ => ps.length - (intOf i).toNat)
  case atStart => exact ⟨0, [], Nat.zero_le _, rfl, rfl, World.ownsRow_nil _ _ _ _, Below.refl _ _⟩
  case round =>
    obtain ⟨k, D, hk, rfl, hD, hown, hb⟩ := hrel
    by_cases hlt : k < ps.length
    · obtain ⟨x, hx⟩ : ∃ x, ps[k]? = some x := ⟨_, List.getElem?_eq_getElem hlt⟩
      have c0 : wr.cell? ⟨w.heap.size, k, none⟩ = some (.string (strL x)) := keep_cell hb (Hnc.out k _ (by rw [List.getElem?_toArray, List.getElem?_map, List.getElem?_map, hx]; rfl))
      have hlt' : (k : Int) < (ps.length : Int) := by omega
      have hk1 : k ≤ 257 := by omega
      have hDl : D.length ≤ 257 := by
        rw [hD]
        have h1 := List.length_filter_le nameB (ps.take k)
        simp at h1
        omega
      have tx : (strL x).toList = x := ByteArray.toList_eq _
      have hnext := filter_next hx
      rw [← hD] at hnext
      have Hnext := Lib.hid hnext
      obtain ⟨t, ht⟩ : ∃ t, strL x = t := ⟨_, rfl⟩
      rw [ht] at c0 tx
      have Ht := Lib.hid ht
      clear hx hD hnext ht
      by_cases hn0 : x = []
      · have he0 : x.isEmpty = true := by rw [hn0]; rfl
        have hnb : nameB x = false := by rw [hn0]; rfl
        have Hnb := Lib.hid hnb
        clear hn0 hnb
        go_wp2
        go_round
        case rel => exact ⟨k + 1, D, by omega, by go_num, by rw [Hnext.out, Hnb.out]; simp, hown, hb⟩
        case measure => (simp [intOf] <;> omega)
      · have he0 : x.isEmpty = false := by simpa using hn0
        by_cases hdot : x = [46]
        · have hd : (x == [46]) = true := by simpa using hdot
          have hnb : nameB x = false := by rw [hdot]; rfl
          have Hnb := Lib.hid hnb
          clear hn0 hdot hnb
          go_wp2
          go_round
          case rel => exact ⟨k + 1, D, by omega, by go_num, by rw [Hnext.out, Hnb.out]; simp, hown, hb⟩
          case measure => (simp [intOf] <;> omega)
        · have hd : (x == [46]) = false := by simpa using hdot
          have hnb : nameB x = true := by simp [nameB, hn0, hdot]
          have Hnb := Lib.hid hnb
          clear hn0 hdot hnb
          go_wp2_with (at_builtin; refine wpList_append_own _ rfl _ _ 43 rfl w2.heap.size 9 i0 (.string ⟨#[]⟩) 1 16 Tryd.underlying43 hi hz0 hz1 hz2 rfl (by decide) _ _ _ rfl (hown.alloc _) ⟨wr.heap.size, 0, none⟩ 1 1 [.string t] rfl rfl (cell_one_new _ _ _) (by simp [Value.oneCell']) (by omega) (by omega) (by have := hb.size; simp; omega) ?_; intro v' w4 hown4 hgrow4 _; have hb4 : Below w2.heap.size w2 w4 := (hb.alloc hb.size _).grown hgrow4 (by simp; have := hb.size; omega) (own_ge hown))
          go_round
          case rel => exact ⟨k + 1, D ++ [x], by omega, by go_num, by rw [Hnext.out, Hnb.out]; rfl, by rw [show rowP (D ++ [x]) = rowP D ++ [.string t] from by unfold rowP; rw [List.map_append]; simp [Ht.out], List.length_append]; exact hown4, hb4⟩
          case measure => (simp [intOf] <;> omega)
    · obtain rfl : k = ps.length := by omega
      rw [List.take_length] at hD
      subst hD
      go_wp2
      go_ret
      exact ⟨_, rfl, own_mono hown hal.size, bchain hal hal.size hb⟩
end Go.Proofs.YtnjpodbefcfdhaaDoor
