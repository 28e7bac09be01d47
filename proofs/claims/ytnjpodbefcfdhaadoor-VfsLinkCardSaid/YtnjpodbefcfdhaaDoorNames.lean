/- Names: what the iterator hands out, for every loop body that keeps what it needs. No conditions. -/
import Derived.RangeFuncBox
import Derived.RangeFuncLeaves
import Derived.RangeFuncCalls
import Derived.Shelf.Abstract
import Derived.Shelf.RegionOpen
import Derived.OwnWalkIn
import Derived.TacticsInMore
import Derived.LoopNIn
import Derived.LoopIn
import Derived.Maps.AppendAt
import Derived.WalkKit
import Derived.Test.YtnjpodbefcfdhaaDoorPlain
namespace Go.Proofs.YtnjpodbefcfdhaaDoor
open Go.RowKit Go.Shelf
attribute [local go_sem] Oper.semAt_some
set_option linter.unusedVariables false
set_option linter.unusedSimpArgs false

theorem cutAt_yes : ∀ {l : List UInt8} {i : Nat}, Lib.indexByte l 47 = i → cutAt l = (l.take i, some (l.drop (i + 1)))
  | [], i, h => by simp [Lib.indexByte] at h
  | b :: l, i, h => by
    unfold Lib.indexByte at h
    unfold cutAt
    by_cases hb : b = 47
    · subst hb
      simp at h
      obtain rfl : i = 0 := by omega
      simp
    · rw [if_neg (by simpa using hb)] at h
      by_cases h1 : Lib.indexByte l 47 = -1
      · rw [if_pos (by simpa using h1)] at h; omega
      · rw [if_neg (by simpa using h1)] at h
        obtain ⟨j, rfl⟩ : ∃ j, i = j + 1 := ⟨i - 1, by have := Lib.indexByte_ge l 47; omega⟩
        rw [if_neg hb, cutAt_yes (l := l) (i := j) (by omega)]
        simp
theorem cutAt_no : ∀ {l : List UInt8}, Lib.indexByte l 47 < 0 → cutAt l = (l, none)
  | [], h => rfl
  | b :: l, h => by
    unfold Lib.indexByte at h
    unfold cutAt
    by_cases hb : b = 47
    · subst hb; simp at h
    · rw [if_neg (by simpa using hb)] at h
      by_cases h1 : Lib.indexByte l 47 = -1
      · rw [if_neg hb, cutAt_no (l := l) (by omega)]
      · rw [if_neg (by simpa using h1)] at h
        have := Lib.indexByte_ge l 47; omega
theorem pieces_yes {l : List UInt8} {i : Nat} (h : Lib.indexByte l 47 = i) : pieces l = l.take i :: pieces (l.drop (i + 1)) := by
  have hc := cutAt_yes h
  rw [pieces]
  split
  · rename_i h2; rw [hc] at h2; cases h2
  · rename_i r h2; rw [hc] at h2 ⊢; cases h2; rfl
theorem pieces_no {l : List UInt8} (h : Lib.indexByte l 47 < 0) : pieces l = [l] := by
  have hc := cutAt_no h
  rw [pieces]
  split
  · rw [hc]
  · rename_i r h2; rw [hc] at h2; cases h2
theorem pieces_nil : (pieces []).filter nameB = [] := by
  rw [pieces_no (by decide)]; rfl

theorem strL_extract (l : List UInt8) (a b : Nat) : (strL l).extract a b = strL ((l.take b).drop a) := by
  unfold strL
  apply ByteArray.ext
  rw [ByteArray.data_extract]
  apply Array.toList_inj.1
  rw [Array.toList_extract]
  simp only [List.extract_eq_take_drop, List.drop_take]
def strLen : Value → Nat
  | .string s => s.size
  | _ => 0
/-- The names of a path, as strings. -/
def namesS (s : ByteArray) : List ByteArray := (namesL s.data.toList).map strL
def restS (r : List UInt8) : List ByteArray := ((pieces r).filter nameB).map strL

set_option maxRecDepth 100000 in
set_option maxHeartbeats 1000000 in
theorem names1_in (n : Nat) (hn : 1 ≤ n) (l Bn n₀ : Nat) (s : ByteArray) (J Jx : List ByteArray → World → Prop)
    (hY : ∀ pre x W, J pre W → pre.length < (namesS s).length → YieldAt Fence.wide (n - 1) Tryd.prog l #[.string x] W fun e W' =>
      (e = .returned (.bool true) ∧ J (pre ++ [x]) W' ∧ Below n₀ W W') ∨ (e = .returned (.bool false) ∧ Jx (pre ++ [x]) W'))
    (hD : ∀ pre W, J pre W → J pre W.drew)
    (W : World) (hBn : W.cell? ⟨Bn, 0, none⟩ = some (.string s)) (h0 : J [] W) :
    CallsIn Fence.wide n Tryd.prog 27 #[.func (.yield l) #[] #[], .pointer (some ⟨Bn, 0, none⟩)] W fun e W' => (∃ v, e = .returned v) ∧
      ((∃ ys, ys = namesS s ∧ J ys W') ∨ (∃ pre, pre <+: namesS s ∧ Jx pre W')) := by
  refine callsIn_of_wp Tryd.func27 rfl trivial ?_ rfl
  simp only [Tryd.ntmps27, List.size_toArray, List.length_cons, List.length_nil, Nat.reduceAdd, Nat.reduceSub, Array.replicate_succ, Array.replicate_zero, List.push_toArray, List.append_toArray, List.nil_append, List.cons_append]
  cases hr : rightB s.data.toList with
  | false =>
    have R := right_any s
    rw [hr] at R
    gi_wp2_with (refine ⟨trivial, ?_⟩; gi_at_call 17; refine (callsIn_wide.2 (R _)).mono ?_; rintro e w' ⟨rfl, rfl⟩)
    refine bodyPost_ret (results_none rfl _ _ _) rfl ?_
    refine ⟨⟨_, rfl⟩, .inl ⟨[], ?_, h0⟩⟩
    unfold namesS namesL
    rw [hr]; rfl
  | true =>
    have R := right_any s
    rw [hr] at R
    have hL : s.data.toList.length ≤ 256 := by
      have h := hr
      unfold rightB at h
      simp only [Bool.and_eq_true, decide_eq_true_eq] at h
      omega
    have hN : namesS s = restS s.data.toList := by unfold namesS namesL restS; rw [hr]; rfl
    have HN := Lib.hid hN
    have HY := Lib.hid hY
    clear hN hr hY
    gi_wp2_with (refine ⟨trivial, ?_⟩; gi_at_call 17; refine (callsIn_wide.2 (R _)).mono ?_; rintro e w' ⟨rfl, rfl⟩)
    gi_loopw [3] (fun p wr => ∃ (pre : List ByteArray) (r : List UInt8), p = .string (strL r) ∧ r.length ≤ 256 ∧ namesS s = pre ++ restS r ∧ J pre wr) (fun p wr => strLen p)
    case atStart => exact ⟨[], s.data.toList, by rw [strL_of], hL, HN.out, h0⟩
    case round =>
      obtain ⟨pre, r, rfl, hl, hx, hJs⟩ := hrel
      by_cases hr0 : r = []
      · subst hr0
        have e0 : strL [] = ⟨#[]⟩ := rfl
        rw [e0]
        gi_wp2
        go_end0
        refine ⟨⟨_, rfl⟩, .inl ⟨pre, ?_, hJs⟩⟩
        rw [hx]; unfold restS; rw [pieces_nil]; simp
      · have tl : (strL r).toList = r := ByteArray.toList_eq _
        have he : r.isEmpty = false := by simpa using hr0
        have I := Tryd.strings_IndexByte (strL r) 47
        rw [strL_data, show (Int.toNat 47).toUInt8 = 47 from rfl] at I
        have hrest : ∀ nm r2, pieces r = nm :: pieces r2 → restS r = (if nameB nm then [strL nm] else []) ++ restS r2 := fun nm r2 h => by
          unfold restS; rw [h, List.filter_cons]
          cases nameB nm <;> simp
        obtain ⟨t, ht⟩ : ∃ t, strL r = t := ⟨_, rfl⟩
        have Ht := Lib.hid ht
        have Hx := Lib.hid hx
        have Hr0 := Lib.hid hr0
        rw [ht] at tl I ⊢
        clear ht hx hr0
        by_cases hix : Lib.indexByte r 47 < 0
        · have hp : restS r = if nameB r then [strL r] else [] := by
            unfold restS; rw [pieces_no hix, List.filter_cons]
            cases nameB r <;> simp
          by_cases hdot : r = [46]
          · have hd : (r == [46]) = true := by simpa using hdot
            have hnb : nameB r = false := by rw [hdot]; rfl
            rw [if_neg (by rw [hnb]; decide)] at hp
            have Hp := Lib.hid hp
            clear hp hdot hnb hrest
            gi_wp2_with (refine ⟨trivial, ?_⟩; gi_at_call 28; refine (callsIn_wide.2 (I _)).mono ?_; rintro e w' ⟨rfl, rfl⟩)
            refine ⟨fun _ h => (by cases h), ?_⟩
            gi_wp2
            go_roundw
            case rel => exact ⟨pre, [], rfl, by simp, by rw [Hx.out, Hp.out]; unfold restS; rw [pieces_nil]; rfl, hJs⟩
            case measure => show 0 < t.size; rw [← Ht.out, strL_size]; exact List.length_pos_iff.2 Hr0.out
          · have hnb : nameB r = true := by simp [nameB, Hr0.out, hdot]
            have hd : (r == [46]) = false := by simpa using hdot
            rw [if_pos hnb] at hp
            obtain ⟨fn, tmps, assign, body, hy, hR⟩ := HY.out pre t wr hJs (by rw [Hx.out, hp]; simp)
            have Hp := Lib.hid hp
            have HR := Lib.hid hR
            clear hp hdot hnb hrest hR
            gi_wp2_with (refine ⟨trivial, ?_⟩; gi_at_call 28; refine (callsIn_wide.2 (I _)).mono ?_; rintro e w' ⟨rfl, rfl⟩)
            refine HR.out.mono ?_
            rintro e W3 (⟨rfl, hJ3, hk3⟩ | ⟨rfl, hJx3⟩)
            · gi_wp2
              go_roundw
              case rel => exact ⟨pre ++ [t], [], rfl, by simp, by rw [Hx.out, Hp.out, Ht.out]; unfold restS; rw [pieces_nil]; simp, hJ3⟩
              case measure => show 0 < t.size; rw [← Ht.out, strL_size]; exact List.length_pos_iff.2 Hr0.out
            · gi_wp2
              refine bodyPost_ret (results_none rfl _ _ _) rfl ?_
              exact ⟨⟨_, rfl⟩, .inr ⟨pre ++ [t], by rw [Hx.out, Hp.out, Ht.out]; exact List.prefix_refl _, hJx3⟩⟩
        · obtain ⟨i, hi⟩ : ∃ i : Nat, Lib.indexByte r 47 = i := ⟨(Lib.indexByte r 47).toNat, by omega⟩
          have hil : i < r.length := (List.getElem?_eq_some_iff.1 (Lib.indexByte_some hi).1).1
          have hp := hrest _ _ (pieces_yes hi)
          rw [hi] at I
          have his : i < t.size := by rw [← Ht.out, strL_size]; exact hil
          have hib : (i : Int) < 256 := by omega
          have Hi := Lib.hid hi
          have Hp := Lib.hid hp
          clear hix hi hp hrest
          gi_wp2_with (refine ⟨trivial, ?_⟩; gi_at_call 28; refine (callsIn_wide.2 (I _)).mono ?_; rintro e w' ⟨rfl, rfl⟩)
          have his2 : i + 1 ≤ t.size := his
          have hmx : Tryd.prog.follows .mixedOrders = true := by kernel_rfl
          gi_region
          rename_i hK
          refine hK _ _ ?_
          clear hK
          have em : t.extract 0 i = strL (r.take i) := by rw [← Ht.out, strL_extract]; simp
          have er : t.extract (i + 1) t.size = strL (r.drop (i + 1)) := by
            rw [← Ht.out, strL_extract, strL_size, List.take_of_length_le (Nat.le_refl _)]
          rw [em, er]
          clear em er
          have hjd := hD _ _ hJs
          obtain ⟨wd, hwd⟩ : ∃ wd, w'.drew = wd := ⟨_, rfl⟩
          rw [hwd] at hjd ⊢
          obtain ⟨nm, hnm⟩ : ∃ nm, r.take i = nm := ⟨_, rfl⟩
          obtain ⟨r2, hr2⟩ : ∃ r2, r.drop (i + 1) = r2 := ⟨_, rfl⟩
          have hl2 : r2.length ≤ 256 := by rw [← hr2, List.length_drop]; omega
          have hlt : r2.length < r.length := by rw [← hr2, List.length_drop]; omega
          have Hp2 : Hid (restS r = (if nameB nm then [strL nm] else []) ++ restS r2) := Lib.hid (by rw [Hp.out, hnm, hr2])
          have Hlt : Hid (strLen (.string (strL r2)) < strLen (.string t)) := Lib.hid (by show (strL r2).size < t.size; rw [← Ht.out, strL_size, strL_size]; exact hlt)
          rw [hnm, hr2]
          clear hwd hnm hr2 Hp hlt
          have tm : (strL nm).toList = nm := ByteArray.toList_eq _
          obtain ⟨m, hm⟩ : ∃ m, strL nm = m := ⟨_, rfl⟩
          have Hm := Lib.hid hm
          obtain ⟨q, hq⟩ : ∃ q, strL r2 = q := ⟨_, rfl⟩
          have Hq := Lib.hid hq
          rw [hm] at tm ⊢
          rw [hq]
          clear hm hq
          by_cases hn0 : nm = []
          · have he0 : nm.isEmpty = true := by rw [hn0]; rfl
            have hnb : nameB nm = false := by rw [hn0]; rfl
            rw [hnb, if_neg (by decide)] at Hp2
            clear hn0 hnb
            gi_wp2
            refine ⟨fun _ h => (by cases h), ?_⟩
            gi_wp2
            go_roundw
            case rel => exact ⟨pre, r2, by rw [Hq.out], hl2, by rw [Hx.out, Hp2.out]; rfl, hjd⟩
            case measure => rw [← Hq.out]; exact Hlt.out
          · have he0 : nm.isEmpty = false := by simpa using hn0
            by_cases hdot : nm = [46]
            · have hd : (nm == [46]) = true := by simpa using hdot
              have hnb : nameB nm = false := by rw [hdot]; rfl
              rw [hnb, if_neg (by decide)] at Hp2
              clear hn0 hnb hdot
              gi_wp2
              refine ⟨fun _ h => (by cases h), ?_⟩
              gi_wp2
              go_roundw
              case rel => exact ⟨pre, r2, by rw [Hq.out], hl2, by rw [Hx.out, Hp2.out]; rfl, hjd⟩
              case measure => rw [← Hq.out]; exact Hlt.out
            · have hnb : nameB nm = true := by simp [nameB, hn0, hdot]
              have hd : (nm == [46]) = false := by simpa using hdot
              rw [hnb, if_pos rfl] at Hp2
              obtain ⟨fn, tmps, assign, body, hy, hR⟩ := HY.out pre m wd hjd (by rw [Hx.out, Hp2.out]; simp)
              have HR := Lib.hid hR
              clear hn0 hdot hnb hR
              gi_wp2
              refine HR.out.mono ?_
              rintro e W3 (⟨rfl, hJ3, hk3⟩ | ⟨rfl, hJx3⟩)
              · gi_wp2
                go_roundw
                case rel => exact ⟨pre ++ [m], r2, by rw [Hq.out], hl2, by rw [Hx.out, Hp2.out, Hm.out]; simp, hJ3⟩
                case measure => rw [← Hq.out]; exact Hlt.out
              · gi_wp2
                refine bodyPost_ret (results_none rfl _ _ _) rfl ?_
                exact ⟨⟨_, rfl⟩, .inr ⟨pre ++ [m], by rw [Hx.out, Hp2.out, Hm.out]; exact ⟨restS r2, by simp⟩, hJx3⟩⟩
end Go.Proofs.YtnjpodbefcfdhaaDoor
