/- The reference's names: the same list. No conditions. -/
import Derived.Test.YtnjpodbefcfdhaaDoorClean
import Derived.OwnWalk
namespace Go.Proofs.YtnjpodbefcfdhaaDoor
open Go.RowKit Go.Shelf
set_option linter.unusedVariables false
set_option linter.unusedSimpArgs false

theorem cutAt_free : ∀ (p r : List UInt8), (∀ b ∈ p, b ≠ 47) → cutAt (p ++ 47 :: r) = (p, some r)
  | [], r, h => by simp [cutAt]
  | b :: p, r, h => by
    have hb := h b (by simp)
    have ih := cutAt_free p r (fun c hc => h c (by simp [hc]))
    simp only [List.cons_append, cutAt, if_neg hb, ih]
theorem cutAt_all : ∀ (p : List UInt8), (∀ b ∈ p, b ≠ 47) → cutAt p = (p, none)
  | [], h => rfl
  | b :: p, h => by
    have hb := h b (by simp)
    have ih := cutAt_all p (fun c hc => h c (by simp [hc]))
    simp only [cutAt, if_neg hb, ih]
theorem pieces_cut (p r : List UInt8) (h : ∀ b ∈ p, b ≠ 47) : pieces (p ++ 47 :: r) = p :: pieces r := by
  have hc := cutAt_free p r h
  rw [pieces]
  split
  · rename_i h2; rw [hc] at h2; cases h2
  · rename_i q h2; rw [hc] at h2 ⊢; cases h2; rfl
theorem pieces_one (p : List UInt8) (h : ∀ b ∈ p, b ≠ 47) : pieces p = [p] := by
  have hc := cutAt_all p h
  rw [pieces]
  split
  · rw [hc]
  · rename_i q h2; rw [hc] at h2; cases h2
theorem right_head {l : List UInt8} (h : rightB l = true) : ∃ l', l = 47 :: l' := by
  unfold rightB at h
  simp only [Bool.and_eq_true] at h
  have := (pre47 l).1 h.1
  cases l with
  | nil => simp at this
  | cons b l => simp at this; subst this; exact ⟨l, rfl⟩
theorem names_cons {l' : List UInt8} (h : rightB (47 :: l') = true) : namesL (47 :: l') = (pieces l').filter nameB := by
  unfold namesL
  rw [if_pos h, show (47 :: l' : List UInt8) = [] ++ 47 :: l' from rfl, pieces_cut [] l' (by simp)]
  rfl

/-- Where the reference's loop stands. -/
def NameRel (l : List UInt8) (w : World) (v f i : Value) (wr : World) : Prop :=
  ∃ D, wr.ownsRow w.heap.size 9 1 v D.length (rowP D) ∧ Below w.heap.size w wr ∧
    ((∃ pre p rest, ∃ fn k : Nat, l = pre ++ (p ++ rest) ∧ (∀ b ∈ p, b ≠ 47) ∧ f = .int .i64 fn ∧ i = .int .i64 k ∧ pre.length = fn ∧ pre.length + p.length = k ∧ D ++ (pieces (p ++ rest)).filter nameB = namesL l ∧ D.length ≤ pre.length)
     ∨ (∃ k : Nat, i = .int .i64 k ∧ k = l.length + 1 ∧ D = namesL l))
theorem own_ge {w w1 : World} {e : TypeId} {size k : Nat} {v : Value} {xs : List Value} (h : w1.ownsRow w.heap.size e size v k xs) : ∀ j, v.ownBlock = some j → w.heap.size ≤ j := by
  intro j hj
  rcases h.2 with ⟨rfl, _⟩ | ⟨g, cap, cur, rfl, hg, _, _⟩
  · simp [Value.ownBlock] at hj
  · obtain rfl : g = j := by simpa [Value.ownBlock] using hj
    exact hg
theorem size_data (s : ByteArray) : s.size = s.data.toList.length := rfl

set_option maxRecDepth 100000 in
set_option maxHeartbeats 4000000 in
theorem ref_names_any (s : ByteArray) (w : World) : Calls Tryd.prog 23 #[.string s] w (Gives (namesL s.data.toList) w) := by
  have R := ref_right_any s
  cases hr : rightB s.data.toList with
  | false =>
    rw [hr] at R
    go_enter Tryd.func23, Tryd.ntmps23
    go_wp2_with (go_at_call 21; refine (R _).mono ?_; rintro e w' ⟨rfl, rfl⟩)
    go_ret
    refine ⟨_, rfl, ?_, Below.refl _ _⟩
    unfold namesL
    rw [hr, if_neg (by decide)]
    exact ⟨none, 0, rfl, Nat.le_refl _, fun h => absurd h (by decide)⟩
  | true =>
    rw [hr] at R
    obtain ⟨i0, hi, hz0, hz1, hz2⟩ := info_parts info9
    have hL := right_len hr
    obtain ⟨l', hl'⟩ := right_head hr
    have h1 : 1 ≤ s.size := by rw [size_data, hl']; simp
    have hN := names_cons (l' := l') (by rw [← hl']; exact hr)
    rw [← hl'] at hN
    have hml : 1000 ≤ maxLen := by decide
    have HL := Lib.hid hL
    have Hl' := Lib.hid hl'
    have HN := Lib.hid hN
    clear hr hL hl' hN
    go_enter Tryd.func23, Tryd.ntmps23
    go_wp2_with (go_at_call 21; refine (R _).mono ?_; rintro e w' ⟨rfl, rfl⟩)
    go_loopw [3, 4, 5] (fun v f i wr => NameRel s.data.toList w v f i wr) (fun _ _ i _ => s.size + 1 - (intOf i).toNat)
    case atStart =>
      exact ⟨[], World.ownsRow_nil _ _ _ _, Below.refl _ _, .inl ⟨[47], [], l', 1, 1, by rw [Hl'.out]; rfl, by simp, rfl, rfl, rfl, rfl, by rw [HN.out]; rfl, by simp⟩⟩
    case round =>
      obtain ⟨D, hown, hbw, ⟨pre, p, rest, f, k, hl, hp, rfl, rfl, hf, hk, hD, hDl⟩ | ⟨k, rfl, hk, rfl⟩⟩ := hrel
      · have hsz : s.size = pre.length + (p.length + rest.length) := by rw [size_data, hl]; simp
        have hs256 : s.size ≤ 256 := by rw [size_data]; exact HL.out
        have hfk : f ≤ k := by omega
        have hks : k ≤ s.size := by omega
        have hks' : (k : Int) ≤ (s.size : Int) := by omega
        have ex : s.extract f k = strL p := by
          rw [← strL_of s, strL_extract, hl, ← hf, ← hk, ← List.append_assoc, List.take_left' (by simp), List.drop_left]
        have hDl2 : D.length ≤ 256 := by omega
        have Hf := Lib.hid hf
        have Hk := Lib.hid hk
        have Hl := Lib.hid hl
        have Hp := Lib.hid hp
        have HD := Lib.hid hD
        have HDl := Lib.hid hDl
        have Hsz := Lib.hid hsz
        clear hf hl hp hD hDl hsz
        have tp : (strL p).toList = p := ByteArray.toList_eq _
        obtain ⟨t, ht⟩ : ∃ t, strL p = t := ⟨_, rfl⟩
        rw [ht] at ex tp
        have Ht := Lib.hid ht
        clear ht
        cases rest with
        | nil =>
          have hke : ((k : Int) == (s.size : Int)) = true := by have := Hsz.out; simp at this ⊢; omega
          by_cases hp0 : p = []
          · have Hp0 := Lib.hid hp0
            clear hp0
            have hlt2 : ¬ f < k := by have := Hk.out; rw [Hp0.out] at this; simp at this; have := Hf.out; omega
            have hlt2' : ¬ (f : Int) < (k : Int) := by omega
            have hle2' : (k : Int) ≤ (f : Int) := by omega
            clear hk
            go_wp2
            go_round
            case rel =>
              have hnb : nameB p = false := by simp [nameB, Hp0.out]
              refine ⟨D, hown, hbw, .inr ⟨k + 1, by go_num, by rw [← size_data]; have := Hsz.out; have := Hk.out; have := Hf.out; simp at *; omega, ?_⟩⟩
              have h := HD.out
              rw [List.append_nil, pieces_one p Hp.out, List.filter_cons, hnb] at h
              simpa using h
            case measure => simp [intOf]; omega
          · have Hp0 := Lib.hid hp0
            clear hp0
            by_cases hp1 : p = [46]
            · have Hp1 := Lib.hid hp1
              clear hp1
              have hlt2' : (f : Int) < (k : Int) := by have := Hk.out; have := List.length_pos_iff.2 Hp0.out; have := Hf.out; omega
              have hE : (p == [46]) = true := by simpa using Hp1.out
              clear hk
              go_wp2
              go_round
              case rel =>
                have hnb : nameB p = false := by simp [nameB, Hp1.out]
                refine ⟨D, hown, hbw, .inr ⟨k + 1, by go_num, by rw [← size_data]; have := Hsz.out; have := Hk.out; have := Hf.out; simp at *; omega, ?_⟩⟩
                have h := HD.out
                rw [List.append_nil, pieces_one p Hp.out, List.filter_cons, hnb] at h
                simpa using h
              case measure => simp [intOf]; omega
            · have Hp1 := Lib.hid hp1
              clear hp1
              have hlt2' : (f : Int) < (k : Int) := by have := Hk.out; have := List.length_pos_iff.2 Hp0.out; have := Hf.out; omega
              have hE : (p == [46]) = false := by simpa using Hp1.out
              clear hk
              go_wp2_with (at_builtin; refine wpList_append_own _ rfl _ _ 43 rfl w.heap.size 9 i0 (.string ⟨#[]⟩) 1 16 Tryd.underlying43 hi hz0 hz1 hz2 rfl (by decide) _ _ _ rfl (hown.alloc _) ⟨wr.heap.size, 0, none⟩ 1 1 [.string t] rfl rfl (cell_one_new _ _ _) (by simp [Value.oneCell']) (by omega) (by omega) (by have := hbw.size; simp; omega) ?_; intro v' w4 hown4 hgrow4 _; have hb4 : Below w.heap.size w w4 := (hbw.alloc hbw.size _).grown hgrow4 (by simp; have := hbw.size; omega) (own_ge hown))
              go_round
              case rel =>
                have hnb : nameB p = true := by simp [nameB, Hp0.out, Hp1.out]
                refine ⟨D ++ [p], by rw [show rowP (D ++ [p]) = rowP D ++ [.string t] from by unfold rowP; rw [List.map_append]; simp [Ht.out], List.length_append]; exact hown4, hb4, .inr ⟨k + 1, by go_num, by rw [← size_data]; have := Hsz.out; have := Hk.out; have := Hf.out; simp at *; omega, ?_⟩⟩
                have h := HD.out
                rw [List.append_nil, pieces_one p Hp.out, List.filter_cons, hnb] at h
                simpa using h
              case measure => simp [intOf]; omega
        | cons c r =>
          have hlt : k < s.size := by have := Hsz.out; simp at this; omega
          have hke : ((k : Int) == (s.size : Int)) = false := by simp; omega
          have hkc : s[k] = c := by
            have h1 := get_data s k hlt
            have h2 : (pre ++ (p ++ c :: r))[k]? = some c := by rw [← hk, ← List.append_assoc, List.getElem?_append_right (by simp)]; simp
            rw [← Hl.out, h1] at h2
            exact Option.some.inj h2
          by_cases hc : c = 47
          · subst hc
            have hcc : (((s[k]).toNat : Int) == 47) = true := by rw [hkc]; rfl
            clear hkc
            by_cases hp0 : p = []
            · have Hp0 := Lib.hid hp0
              clear hp0
              have hlt2 : ¬ f < k := by have := Hk.out; rw [Hp0.out] at this; simp at this; have := Hf.out; omega
              have hlt2' : ¬ (f : Int) < (k : Int) := by omega
              have hle2' : (k : Int) ≤ (f : Int) := by omega
              clear hk
              go_wp2
              go_round
              case rel =>
                have hnb : nameB p = false := by simp [nameB, Hp0.out]
                refine ⟨D, hown, hbw, .inl ⟨pre ++ (p ++ [47]), [], r, k + 1, k + 1, by rw [Hl.out]; simp, by simp, by go_num, by go_num, by have := Hk.out; simp; omega, by have := Hk.out; simp; omega, ?_, by have := HDl.out; simp; omega⟩⟩
                have h := HD.out
                rw [pieces_cut p r Hp.out, List.filter_cons, hnb] at h
                simpa using h
              case measure => simp [intOf]; omega
            · have Hp0 := Lib.hid hp0
              clear hp0
              by_cases hp1 : p = [46]
              · have Hp1 := Lib.hid hp1
                clear hp1
                have hlt2' : (f : Int) < (k : Int) := by have := Hk.out; have := List.length_pos_iff.2 Hp0.out; have := Hf.out; omega
                have hE : (p == [46]) = true := by simpa using Hp1.out
                clear hk
                go_wp2
                go_round
                case rel =>
                  have hnb : nameB p = false := by simp [nameB, Hp1.out]
                  refine ⟨D, hown, hbw, .inl ⟨pre ++ (p ++ [47]), [], r, k + 1, k + 1, by rw [Hl.out]; simp, by simp, by go_num, by go_num, by have := Hk.out; simp; omega, by have := Hk.out; simp; omega, ?_, by have := HDl.out; simp; omega⟩⟩
                  have h := HD.out
                  rw [pieces_cut p r Hp.out, List.filter_cons, hnb] at h
                  simpa using h
                case measure => simp [intOf]; omega
              · have Hp1 := Lib.hid hp1
                clear hp1
                have hlt2' : (f : Int) < (k : Int) := by have := Hk.out; have := List.length_pos_iff.2 Hp0.out; have := Hf.out; omega
                have hE : (p == [46]) = false := by simpa using Hp1.out
                clear hk
                go_wp2_with (at_builtin; refine wpList_append_own _ rfl _ _ 43 rfl w.heap.size 9 i0 (.string ⟨#[]⟩) 1 16 Tryd.underlying43 hi hz0 hz1 hz2 rfl (by decide) _ _ _ rfl (hown.alloc _) ⟨wr.heap.size, 0, none⟩ 1 1 [.string t] rfl rfl (cell_one_new _ _ _) (by simp [Value.oneCell']) (by omega) (by omega) (by have := hbw.size; simp; omega) ?_; intro v' w4 hown4 hgrow4 _; have hb4 : Below w.heap.size w w4 := (hbw.alloc hbw.size _).grown hgrow4 (by simp; have := hbw.size; omega) (own_ge hown))
                go_round
                case rel =>
                  have hnb : nameB p = true := by simp [nameB, Hp0.out, Hp1.out]
                  refine ⟨D ++ [p], by rw [show rowP (D ++ [p]) = rowP D ++ [.string t] from by unfold rowP; rw [List.map_append]; simp [Ht.out], List.length_append]; exact hown4, hb4, .inl ⟨pre ++ (p ++ [47]), [], r, k + 1, k + 1, by rw [Hl.out]; simp, by simp, by go_num, by go_num, by have := Hk.out; simp; omega, by have := Hk.out; simp; omega, ?_, by have := HDl.out; simp; omega⟩⟩
                  have h := HD.out
                  rw [pieces_cut p r Hp.out, List.filter_cons, hnb] at h
                  simpa using h
                case measure => simp [intOf]; omega
          · have hcc : (((s[k]).toNat : Int) == 47) = false := by
              simp only [beq_eq_false_iff_ne]
              intro h
              exact hc (hkc.symm.trans ((byte_eq (n := 47) (by omega)).1 h))
            have Hc := Lib.hid hc
            clear hkc hk hc
            go_wp2
            go_round
            case rel =>
              exact ⟨D, hown, hbw, .inl ⟨pre, p ++ [c], r, f, k + 1, by rw [Hl.out]; simp, by
                intro b hb
                rcases List.mem_append.1 hb with h | h
                · exact Hp.out b h
                · simp at h; rw [h]; exact Hc.out, rfl, by go_num, Hf.out, by have := Hk.out; simp; omega, by have := HD.out; simpa using this, HDl.out⟩⟩
            case measure => simp [intOf]; omega
      · have hs256 : s.size ≤ 256 := by rw [size_data]; exact HL.out
        have hlen : s.data.toList.length = s.size := (size_data s).symm
        rw [hlen] at hk
        have hout2 : ((s.size : Int) < (k : Int)) := by omega
        have hk2 : k ≤ 300 := by omega
        clear hk
        go_wp2
        go_ret
        exact ⟨_, rfl, strsAt_of_row hown, hbw⟩
end Go.Proofs.YtnjpodbefcfdhaaDoor
