/- PathAgain: it answers true. No conditions. -/
import Derived.Test.YtpejghinphnllaaLaw5
import Derived.Test.YtpejghinphnllaaLaw2
namespace Go.Proofs.Ytpejghinphnllaa
open Go.RowKit Go.Shelf
attribute [local go_sem] Oper.semAt_some
set_option linter.unusedVariables false
set_option linter.unusedSimpArgs false

/-- Behind a slash comes a name's byte. -/
theorem flat_slash : ∀ {ns : List (List UInt8)}, Good ns → ∀ k : Nat, (flatL ns)[k]? = some 47 → ∃ c, (flatL ns)[k + 1]? = some c ∧ c ≠ 47
  | [], h, k, hk => by simp [flatL] at hk
  | n :: t, h, k, hk => by
    have hn := h n (by simp)
    rw [flat_cons] at hk ⊢
    have hln : 0 < n.length := List.length_pos_iff.2 hn.1
    match k with
    | 0 =>
      refine ⟨n[0], ?_, hn.2.2.2.1 _ (List.getElem_mem hln)⟩
      rw [List.getElem?_cons_succ, List.getElem?_append_left hln, List.getElem?_eq_getElem hln]
    | k + 1 =>
      rw [List.getElem?_cons_succ] at hk ⊢
      by_cases hkn : k < n.length
      · rw [List.getElem?_append_left hkn, List.getElem?_eq_getElem hkn] at hk
        exact absurd (Option.some.inj hk) (hn.2.2.2.1 _ (List.getElem_mem hkn))
      · rw [List.getElem?_append_right (by omega)] at hk
        obtain ⟨c, hc, hne⟩ := flat_slash (ns := t) (fun x hx => h x (by simp [hx])) _ hk
        exact ⟨c, by rw [List.getElem?_append_right (by omega), show k + 1 - n.length = k - n.length + 1 from by omega]; exact hc, hne⟩
theorem join_slash {ns : List (List UInt8)} (h : Good ns) (k : Nat) (hk : (joinL ns)[k]? = some 47) : (joinL ns).length = 1 ∨ ∃ c, (joinL ns)[k + 1]? = some c ∧ c ≠ 47 := by
  unfold joinL at *
  by_cases h0 : ns = []
  · rw [if_pos h0]; exact .inl rfl
  · rw [if_neg h0] at *; exact .inr (flat_slash h k hk)
theorem join_head (ns : List (List UInt8)) : (joinL ns)[0]? = some 47 := by
  cases ns with
  | nil => rfl
  | cons n t => rw [join_cons]; rfl
theorem clean_len {l : List UInt8} (hr : rightB l = true) : (cleanL l).length ≤ l.length := by
  unfold cleanL
  rw [join_len]
  obtain ⟨⟨l', rfl⟩, _⟩ := (right_iff l).1 hr
  split
  · simp
  · exact total_left_right hr

set_option maxRecDepth 100000 in
set_option maxHeartbeats 1000000 in
theorem law_again_long (s : ByteArray) (hs : (2000 : Int) < (s.size : Int)) (w : World) : Calls Try.prog 5 #[.string s] w (Ret (.bool true) w) := by
  have A := awake_any
  go_enter Try.func5, Try.ntmps5
  go_wp2_with (go_at_call 9; refine (A _).mono ?_; rintro e w1 ⟨rfl, hb1⟩; have hbx := (Boxed.new w 4 (.bool false)).kept (row := none) ⟨hb1.os, hb1.tape, hb1.output, hb1.size, fun k hk _ => hb1.block k hk⟩ (by simp); have c0 := hbx.cell; have f0 := hbx.frozen)
  have hc5 := (hbx.set (.bool true)).cell
  exact ⟨rfl, .bool true, by simp [results, Try.f5, go_sem, hc5], rfl, (((Below.refl _ w).alloc (Nat.le_refl _) _).trans (hb1.mono (by simp))).setCell (p := ⟨w.heap.size, 0, none⟩) (Nat.le_refl _) _⟩

set_option maxRecDepth 100000 in
set_option maxHeartbeats 1000000 in
theorem law_again_bad (s : ByteArray) (hs : (s.size : Int) ≤ 2000) (hr : rightB s.data.toList = false) (w : World) : Calls Try.prog 5 #[.string s] w (Ret (.bool true) w) := by
  have A := awake_any
  have C := clean_any s
  have R := right_any s
  unfold cleanV at C
  rw [hr, if_neg (by decide)] at C
  rw [hr] at R
  go_enter Try.func5, Try.ntmps5
  go_wp2_with (first
    | (go_at_call 9; refine (A _).mono ?_; rintro e w1 ⟨rfl, hb1⟩; have hbx := (Boxed.new w 4 (.bool false)).kept (row := none) ⟨hb1.os, hb1.tape, hb1.output, hb1.size, fun k hk _ => hb1.block k hk⟩ (by simp); have c0 := hbx.cell; have f0 := hbx.frozen)
    | (go_at_call 16; refine (C _).mono ?_; rintro e w2 ⟨rfl, hb2⟩; have hbx2 := hbx.kept (row := none) ⟨hb2.os, hb2.tape, hb2.output, hb2.size, fun k hk _ => hb2.block k hk⟩ (by simp); have c2 := hbx2.cell; have f2 := hbx2.frozen)
    | (go_at_call 17; refine (R _).mono ?_; rintro e w3 ⟨rfl, rfl⟩))
  have hc5 := (hbx2.set (.bool true)).cell
  exact ⟨rfl, .bool true, by simp [results, Try.f5, go_sem, hc5], rfl, ((((Below.refl _ w).alloc (Nat.le_refl _) _).trans (hb1.mono (by simp))).trans (hb2.mono (by have := hb1.size; simp at this; omega))).setCell (p := ⟨w.heap.size, 0, none⟩) (Nat.le_refl _) _⟩

theorem cell_alloc_l {W : World} {a : Addr} {v : Value} (o : Obj) (h : W.cell? a = some v) : (W.alloc o).cell? a = some v := cell_kept h (World.grownBy_alloc W o none) (fun r e => by cases e)
theorem frozen_alloc_l {W : World} {a : Addr} {v : Value} (o : Obj) (h : W.cell? a = some v) (hf : W.frozen? a = false) : (W.alloc o).frozen? a = false := (frozen_kept h (World.grownBy_alloc W o none) (fun r e => by cases e)).trans hf
def AgI (g : Nat) (w : World) (pre : List ByteArray) (W : World) : Prop := (W.cell? ⟨g, 0, none⟩ = some (.bool false) ∧ W.frozen? ⟨g, 0, none⟩ = false) ∧ Below w.heap.size w W
def AgX (w : World) (c : Code) (pre : List ByteArray) (W : World) : Prop := (∃ x ∈ pre, x.data.toList = [] ∨ x.data.toList = [46] ∨ x.data.toList = [46, 46])
theorem agI_own (g : Nat) (w : World) (B : Nat) (hB : w.heap.size ≤ B) : OwnFrom B (AgI g w) :=
  OwnFrom.and (Own.from (fun s A B row hs hg hr => ⟨cell_kept hs.1 hg hr, (frozen_kept hs.1 hg hr).trans hs.2⟩) _) (ownFrom_below (Nat.le_refl _) hB)
def SlashRel (n : Nat) (w3 : World) (i : Value) (wr : World) : Prop := ∃ k : Nat, 1 ≤ k ∧ k ≤ n ∧ i = .int .i64 k ∧ wr = w3

set_option maxRecDepth 100000 in
set_option maxHeartbeats 4000000 in
theorem law_again_in (s : ByteArray) (hs : (s.size : Int) ≤ 2000) (hr : rightB s.data.toList = true) (w : World) : CallsIn Fence.wide 3 Try.prog 5 #[.string s] w (Ret (.bool true) w) := by
  have A := awake_any
  have R := right_any s
  rw [hr] at R
  have C := clean_any s
  unfold cleanV at C
  rw [hr, if_pos rfl] at C
  have C2 := clean_any (strL (cleanL s.data.toList))
  unfold cleanV at C2
  rw [strL_data, right_clean, if_pos rfl, clean_clean] at C2
  have hNs : namesL (cleanL s.data.toList) = leftL (namesL s.data.toList) := names_clean _
  have hG := left_good s.data.toList
  have hlen := clean_len hr
  have hhd := join_head (leftL (namesL s.data.toList))
  have hsl := join_slash hG
  rw [show joinL (leftL (namesL s.data.toList)) = cleanL s.data.toList from rfl] at hhd hsl
  obtain ⟨cl, hcl⟩ : ∃ cl, cleanL s.data.toList = cl := ⟨_, rfl⟩
  rw [hcl] at C C2 hNs hlen hhd hsl
  have hpos : 0 < cl.length := (List.getElem?_eq_some_iff.1 hhd).1
  obtain ⟨a, ha⟩ : ∃ a, strL cl = a := ⟨_, rfl⟩
  have had : a.data.toList = cl := by rw [← ha, strL_data]
  rw [ha] at C C2
  rw [← had] at hNs hlen hhd hsl hpos
  rw [← size_data] at hlen hpos
  rw [← size_data] at hlen
  have hG2 : Good (namesL a.data.toList) := by rw [hNs]; exact hG
  have HG := Lib.hid hG2
  have Hsl := Lib.hid hsl
  clear hNs hG hsl hcl ha had hG2 hr
  obtain ⟨m, hm⟩ : ∃ m, a.size = m + 1 := ⟨a.size - 1, by omega⟩
  have h00 : 0 < a.size := hpos
  have ha0 : a[0] = 47 := by
    rw [get_data a 0 h00] at hhd
    exact Option.some.inj hhd
  have hc0 : (((a[0]).toNat : Int) != 47) = false := by rw [ha0]; rfl
  have hle : (a.size : Int) ≤ (s.size : Int) := by omega
  have hd1 : decide (s.size < a.size) = false := by simp; omega
  have hd2 : decide ((s.size : Int) < (a.size : Int)) = false := by simp; omega
  have hz : ((a.size : Int) == 0) = false := beq_eq_false_iff_ne.2 (by omega)
  have hmm : m < a.size := by omega
  have hlast : (1 : Int) < (a.size : Int) → ((((a[m]).toNat : Int)) == 47) = false := by
    intro h1
    simp only [beq_eq_false_iff_ne]
    intro h
    have h2 := (byte_eq (n := 47) (by omega)).1 h
    rcases Hsl.out m (by rw [get_data a m hmm]; exact congrArg some h2) with h3 | ⟨c, hc, _⟩
    · rw [← size_data] at h3; omega
    · have := (List.getElem?_eq_some_iff.1 hc).1
      rw [← size_data] at this; omega
  have Hhd := Lib.hid hhd
  have Hm := Lib.hid hm
  have hidx : ((a.size : Int) - 1) = (m : Int) := by omega
  have haa : (a.toList == a.toList) = true := by simp
  clear hhd ha0 hm
  refine callsIn_of_wp_marks Try.func5 rfl trivial ?_ rfl
  simp only [Try.ntmps5, List.size_toArray, List.length_cons, List.length_nil, Nat.reduceAdd, Nat.reduceSub, Array.replicate_succ, Array.replicate_zero, List.push_toArray, List.append_toArray, List.nil_append, List.cons_append]
  refine wpIn_wide.2 ?_
  by_cases h1 : (1 : Int) < (a.size : Int)
  · have hl := hlast h1
    clear hlast
    go_wp2_with (first
      | (go_at_call 9; refine (A _).mono ?_; rintro e w1 ⟨rfl, hb1⟩; have hbx := (Boxed.new w 4 (.bool false)).kept (row := none) ⟨hb1.os, hb1.tape, hb1.output, hb1.size, fun k hk _ => hb1.block k hk⟩ (by simp); have c0 := hbx.cell; have f0 := hbx.frozen)
      | (go_at_call 16; first | ((with_reducible refine (C _).mono ?_); rintro e w2 ⟨rfl, hb2⟩; have hbx2 := hbx.kept (row := none) ⟨hb2.os, hb2.tape, hb2.output, hb2.size, fun k hk _ => hb2.block k hk⟩ (by simp); have c2 := hbx2.cell; have f2 := hbx2.frozen) | ((with_reducible refine (C2 _).mono ?_); rintro e w3 ⟨rfl, hb3⟩; have hbx3 := hbx2.kept (row := none) ⟨hb3.os, hb3.tape, hb3.output, hb3.size, fun k hk _ => hb3.block k hk⟩ (by simp); have c3 := hbx3.cell; have f3 := hbx3.frozen))
      | (go_at_call 17; refine (R _).mono ?_; rintro e w3 ⟨rfl, rfl⟩))
    have hcells : w3.cell? ⟨w.heap.size, 0, none⟩ = some (.bool false) ∧ w3.frozen? ⟨w.heap.size, 0, none⟩ = false := ⟨c3, f3⟩
    have hB3 : Below w.heap.size w w3 := (((((Below.refl _ w).alloc (Nat.le_refl _) _).trans (hb1.mono (by simp))).trans (hb2.mono (by have := hb1.size; simp at this; omega)))).trans (hb3.mono (by have := hb1.size; have := hb2.size; simp at *; omega))
    have z0 : w.heap.size < w3.heap.size := World.block_lt_of_cell? _ _ c3
    clear hbx hbx2 hbx3 c0 f0 c2 f2 hb1 hb2 hb3
    go_loopw [9] (fun i wr => SlashRel a.size w3 i wr) (fun i _ => a.size - (intOf i).toNat)
    case atStart => exact ⟨1, Nat.le_refl _, by omega, rfl, rfl⟩
    case round =>
      obtain ⟨k, hk1, hk, rfl, rfl⟩ := hrel
      by_cases hlt : k < a.size
      · obtain ⟨j, rfl⟩ : ∃ j, k = j + 1 := ⟨k - 1, by omega⟩
        have hj : j < a.size := by omega
        by_cases h47 : a[j + 1] = 47
        · have hc1 : (((a[j + 1]).toNat : Int) == 47) = true := by rw [h47]; rfl
          have hc2 : (((a[j]).toNat : Int) == 47) = false := by
            simp only [beq_eq_false_iff_ne]
            intro h
            have h2 := (byte_eq (n := 47) (by omega)).1 h
            rcases Hsl.out j (by rw [get_data a j hj]; exact congrArg some h2) with h3 | ⟨c, hc, hne⟩
            · rw [← size_data] at h3; omega
            · rw [get_data a (j + 1) hlt] at hc
              exact hne ((Option.some.inj hc).symm.trans h47)
          clear h47
          go_wp2
          go_roundw
          case rel => exact ⟨j + 1 + 1, by omega, by omega, by go_num, rfl⟩
          case measure => simp [intOf]; omega
        · have hc1 : (((a[j + 1]).toNat : Int) == 47) = false := by
            simp only [beq_eq_false_iff_ne]; intro h; exact h47 ((byte_eq (n := 47) (by omega)).1 h)
          clear h47
          go_wp2
          go_roundw
          case rel => exact ⟨j + 1 + 1, by omega, by omega, by go_num, rfl⟩
          case measure => simp [intOf]; omega
      · obtain rfl : k = a.size := by omega
        go_wp2_with (go_at_call 10; refine (callsIn_wide.1 (all_in 3 _ _)).mono ?_; rintro e w' ⟨rfl, rfl⟩)
        refine (wpIn_wide (n := 3)).1 ?_
        have bN := Boxed.new wr 9 (.string a)
        have hB0 : Below w.heap.size w (wr.alloc (.cells #[.string a] 9)) := hB3.alloc (Nat.le_of_lt z0) _
        refine wpIn_rangeFunc_ownG rfl (by omega) (gf := 22) (lb := #[.pointer (some ⟨wr.heap.size, 0, none⟩)]) rfl trivial (enters_of Try.func22 (by kernel_rfl) rfl)
          (names_stops _ (by omega) wr.heap.size w.heap.size a (wr.alloc (.cells #[.string a] 9)) (by simp) bN.cell) belowK_t (belowK_b (by simp; omega)) (Below.refl _ _) (fun _ => rfl)
          (AgI w.heap.size w) (AgX w) (agI_own _ _ _ (by simp; omega)) (fun c s W W' row hs _ _ => hs)
          ⟨⟨cell_alloc_l _ c3, frozen_alloc_l _ c3 f3⟩, hB0⟩
          (fun x => { tmps := #[Value.string s, undef, Value.pointer (some ⟨w.heap.size, 0, none⟩), Value.bool true, Value.string a, Value.int IntKind.i64 0, Value.bool true, Value.string a, Value.int IntKind.i64 0, Value.int IntKind.i64 (a.size : Int), Value.string x, Value.bool true, Value.string s, Value.int IntKind.i64 (s.size : Int), Value.bool (decide (2000 < (s.size : Int))), undef, Value.tuple #[Value.string a, Value.int IntKind.i64 0], Value.string s, Value.tuple #[Value.string a, Value.int IntKind.i64 0], Value.string a, Value.int IntKind.i64 0, Value.string s, Value.bool true, Value.bool true, Value.bool false, undef, undef, undef, undef, undef, undef, undef, undef, undef, Value.tuple #[Value.string a, Value.int IntKind.i64 0], Value.string a, Value.tuple #[Value.string a, Value.int IntKind.i64 0], Value.string a, Value.int IntKind.i64 0, Value.int IntKind.i64 0, Value.bool false, Value.bool false, Value.int IntKind.i64 0, Value.bool false, Value.bool false, Value.bool false, Value.string a, Value.string a, Value.bool false, Value.bool false, Value.bool false, Value.string a, Value.int IntKind.i64 (a.size : Int), Value.string s, Value.int IntKind.i64 (s.size : Int), Value.bool false, Value.bool false, Value.bool false, Value.string a, Value.int IntKind.i64 (a.size : Int), Value.bool false, Value.bool false, Value.bool false, Value.string a, Value.int IntKind.u8 (a[0].toNat : Int), Value.bool false, Value.bool false, Value.bool false, Value.string a, Value.int IntKind.i64 (a.size : Int), Value.bool true, Value.bool true, Value.string a, Value.string a, Value.int IntKind.i64 (a.size : Int), Value.int IntKind.i64 (m : Int), Value.int IntKind.u8 (a[m].toNat : Int), Value.bool false, Value.bool false, Value.bool false, Value.int IntKind.i64 (a.size : Int), Value.string a, Value.int IntKind.i64 (a.size : Int), Value.bool false, u84, u85, u86, u87, u88, u89, u90, u91, u92, u93, u94, u95, u96, Value.string a, Value.func (Fn.func 22) #[] #[Value.pointer (some ⟨wr.heap.size, 0, none⟩)], Value.string x, undef, undef, undef, undef, undef, undef, undef, undef, undef, undef, undef], defers := [] }) ?assign ?body ?done ?stop
        case assign =>
          intro l x W K hK
          gi_wp2
          exact hK
        case body =>
          rintro l pre x W ⟨⟨hc, hf⟩, hB⟩ _
          have tl : x.toList = x.data.toList := ByteArray.toList_eq _
          by_cases q1 : x.data.toList = []
          · have q1' : x.data.toList.isEmpty = true := by rw [q1]; rfl
            have Q := Lib.hid q1
            clear q1
            gi_wp2
            exact ⟨(KeepsOthers.setCell _ _ _).from _, x, by simp, .inl Q.out⟩
          · have q1' : x.data.toList.isEmpty = false := by simpa using q1
            by_cases q2 : x.data.toList = [46]
            · have q2' : (x.data.toList == [46]) = true := by simpa using q2
              have Q := Lib.hid q2
              clear q1 q2
              gi_wp2
              exact ⟨(KeepsOthers.setCell _ _ _).from _, x, by simp, .inr (.inl Q.out)⟩
            · have q2' : (x.data.toList == [46]) = false := by simpa using q2
              by_cases q3 : x.data.toList = [46, 46]
              · have q3' : (x.data.toList == [46, 46]) = true := by simpa using q3
                have Q := Lib.hid q3
                clear q1 q2 q3
                gi_wp2
                exact ⟨(KeepsOthers.setCell _ _ _).from _, x, by simp, .inr (.inr Q.out)⟩
              · have q3' : (x.data.toList == [46, 46]) = false := by simpa using q3
                clear q1 q2 q3
                gi_wp2
                exact ⟨KeepsFrom.refl _ _, Below.refl _ _, ⟨hc, hf⟩, hB⟩
        case done =>
          rintro D ys W hD rfl ⟨⟨hc, hf⟩, hB⟩ hHD
          go_wp2
          have hHD' := (KeepsOthers.setCell W ⟨w.heap.size, 0, none⟩ (.bool true)).same D _ hHD rfl
          refine ⟨by simp, .inl ⟨_, _, rfl, run_takeDeferred hHD', ?_⟩⟩
          have hc5 := cell_kept (World.cell?_setCell_same' W ⟨w.heap.size, 0, none⟩ (.bool true) (by rw [hc]; rfl)) (grownBy_putObj' _ D (.deferred none)) (fun r e => by cases e; exact ⟨_, hHD', rfl⟩)
          refine ⟨.bool true, ?_, rfl, (hB.setCell (p := ⟨w.heap.size, 0, none⟩) (Nat.le_refl _) _).trans (belowK_b (w := w) (Nat.le_refl _) _ D _ _ (by simp at hD; omega) hHD' rfl rfl)⟩
          simp [results, Try.f5, go_sem, hc5]
        case stop =>
          rintro D c pre W hD hpre ⟨x, hx, hbad⟩ hHD
          exfalso
          have h1 : x ∈ namesS a := hpre.subset hx
          unfold namesS at h1
          obtain ⟨n, hn, rfl⟩ := List.mem_map.1 h1
          rw [strL_data] at hbad
          have g := HG.out n hn
          rcases hbad with h | h | h
          · exact g.1 h
          · exact g.2.1 h
          · exact g.2.2.1 h
  · clear hlast
    go_wp2_with (first
      | (go_at_call 9; refine (A _).mono ?_; rintro e w1 ⟨rfl, hb1⟩; have hbx := (Boxed.new w 4 (.bool false)).kept (row := none) ⟨hb1.os, hb1.tape, hb1.output, hb1.size, fun k hk _ => hb1.block k hk⟩ (by simp); have c0 := hbx.cell; have f0 := hbx.frozen)
      | (go_at_call 16; first | ((with_reducible refine (C _).mono ?_); rintro e w2 ⟨rfl, hb2⟩; have hbx2 := hbx.kept (row := none) ⟨hb2.os, hb2.tape, hb2.output, hb2.size, fun k hk _ => hb2.block k hk⟩ (by simp); have c2 := hbx2.cell; have f2 := hbx2.frozen) | ((with_reducible refine (C2 _).mono ?_); rintro e w3 ⟨rfl, hb3⟩; have hbx3 := hbx2.kept (row := none) ⟨hb3.os, hb3.tape, hb3.output, hb3.size, fun k hk _ => hb3.block k hk⟩ (by simp); have c3 := hbx3.cell; have f3 := hbx3.frozen))
      | (go_at_call 17; refine (R _).mono ?_; rintro e w3 ⟨rfl, rfl⟩))
    have hcells : w3.cell? ⟨w.heap.size, 0, none⟩ = some (.bool false) ∧ w3.frozen? ⟨w.heap.size, 0, none⟩ = false := ⟨c3, f3⟩
    have hB3 : Below w.heap.size w w3 := (((((Below.refl _ w).alloc (Nat.le_refl _) _).trans (hb1.mono (by simp))).trans (hb2.mono (by have := hb1.size; simp at this; omega)))).trans (hb3.mono (by have := hb1.size; have := hb2.size; simp at *; omega))
    have z0 : w.heap.size < w3.heap.size := World.block_lt_of_cell? _ _ c3
    clear hbx hbx2 hbx3 c0 f0 c2 f2 hb1 hb2 hb3
    go_loopw [9] (fun i wr => SlashRel a.size w3 i wr) (fun i _ => a.size - (intOf i).toNat)
    case atStart => exact ⟨1, Nat.le_refl _, by omega, rfl, rfl⟩
    case round =>
      obtain ⟨k, hk1, hk, rfl, rfl⟩ := hrel
      by_cases hlt : k < a.size
      · exact absurd hlt (by omega)
      · obtain rfl : k = a.size := by omega
        go_wp2_with (go_at_call 10; refine (callsIn_wide.1 (all_in 3 _ _)).mono ?_; rintro e w' ⟨rfl, rfl⟩)
        refine (wpIn_wide (n := 3)).1 ?_
        have bN := Boxed.new wr 9 (.string a)
        have hB0 : Below w.heap.size w (wr.alloc (.cells #[.string a] 9)) := hB3.alloc (Nat.le_of_lt z0) _
        refine wpIn_rangeFunc_ownG rfl (by omega) (gf := 22) (lb := #[.pointer (some ⟨wr.heap.size, 0, none⟩)]) rfl trivial (enters_of Try.func22 (by kernel_rfl) rfl)
          (names_stops _ (by omega) wr.heap.size w.heap.size a (wr.alloc (.cells #[.string a] 9)) (by simp) bN.cell) belowK_t (belowK_b (by simp; omega)) (Below.refl _ _) (fun _ => rfl)
          (AgI w.heap.size w) (AgX w) (agI_own _ _ _ (by simp; omega)) (fun c s W W' row hs _ _ => hs)
          ⟨⟨cell_alloc_l _ c3, frozen_alloc_l _ c3 f3⟩, hB0⟩
          (fun x => { tmps := #[Value.string s, undef, Value.pointer (some ⟨w.heap.size, 0, none⟩), Value.bool true, Value.string a, Value.int IntKind.i64 0, Value.bool true, Value.string a, Value.int IntKind.i64 0, Value.int IntKind.i64 (a.size : Int), Value.string x, Value.bool true, Value.string s, Value.int IntKind.i64 (s.size : Int), Value.bool (decide (2000 < (s.size : Int))), undef, Value.tuple #[Value.string a, Value.int IntKind.i64 0], Value.string s, Value.tuple #[Value.string a, Value.int IntKind.i64 0], Value.string a, Value.int IntKind.i64 0, Value.string s, Value.bool true, Value.bool true, Value.bool false, undef, undef, undef, undef, undef, undef, undef, undef, undef, Value.tuple #[Value.string a, Value.int IntKind.i64 0], Value.string a, Value.tuple #[Value.string a, Value.int IntKind.i64 0], Value.string a, Value.int IntKind.i64 0, Value.int IntKind.i64 0, Value.bool false, Value.bool false, Value.int IntKind.i64 0, Value.bool false, Value.bool false, Value.bool false, Value.string a, Value.string a, Value.bool false, Value.bool false, Value.bool false, Value.string a, Value.int IntKind.i64 (a.size : Int), Value.string s, Value.int IntKind.i64 (s.size : Int), Value.bool false, Value.bool false, Value.bool false, Value.string a, Value.int IntKind.i64 (a.size : Int), Value.bool false, Value.bool false, Value.bool false, Value.string a, Value.int IntKind.u8 (a[0].toNat : Int), Value.bool false, Value.bool false, Value.bool false, Value.string a, Value.int IntKind.i64 (a.size : Int), Value.bool false, Value.bool false, undef, undef, undef, undef, undef, undef, Value.bool false, Value.bool false, Value.int IntKind.i64 (a.size : Int), Value.string a, Value.int IntKind.i64 (a.size : Int), Value.bool false, u84, u85, u86, u87, u88, u89, u90, u91, u92, u93, u94, u95, u96, Value.string a, Value.func (Fn.func 22) #[] #[Value.pointer (some ⟨wr.heap.size, 0, none⟩)], Value.string x, undef, undef, undef, undef, undef, undef, undef, undef, undef, undef, undef], defers := [] }) ?assign ?body ?done ?stop
        case assign =>
          intro l x W K hK
          gi_wp2
          exact hK
        case body =>
          rintro l pre x W ⟨⟨hc, hf⟩, hB⟩ _
          have tl : x.toList = x.data.toList := ByteArray.toList_eq _
          by_cases q1 : x.data.toList = []
          · have q1' : x.data.toList.isEmpty = true := by rw [q1]; rfl
            have Q := Lib.hid q1
            clear q1
            gi_wp2
            exact ⟨(KeepsOthers.setCell _ _ _).from _, x, by simp, .inl Q.out⟩
          · have q1' : x.data.toList.isEmpty = false := by simpa using q1
            by_cases q2 : x.data.toList = [46]
            · have q2' : (x.data.toList == [46]) = true := by simpa using q2
              have Q := Lib.hid q2
              clear q1 q2
              gi_wp2
              exact ⟨(KeepsOthers.setCell _ _ _).from _, x, by simp, .inr (.inl Q.out)⟩
            · have q2' : (x.data.toList == [46]) = false := by simpa using q2
              by_cases q3 : x.data.toList = [46, 46]
              · have q3' : (x.data.toList == [46, 46]) = true := by simpa using q3
                have Q := Lib.hid q3
                clear q1 q2 q3
                gi_wp2
                exact ⟨(KeepsOthers.setCell _ _ _).from _, x, by simp, .inr (.inr Q.out)⟩
              · have q3' : (x.data.toList == [46, 46]) = false := by simpa using q3
                clear q1 q2 q3
                gi_wp2
                exact ⟨KeepsFrom.refl _ _, Below.refl _ _, ⟨hc, hf⟩, hB⟩
        case done =>
          rintro D ys W hD rfl ⟨⟨hc, hf⟩, hB⟩ hHD
          go_wp2
          have hHD' := (KeepsOthers.setCell W ⟨w.heap.size, 0, none⟩ (.bool true)).same D _ hHD rfl
          refine ⟨by simp, .inl ⟨_, _, rfl, run_takeDeferred hHD', ?_⟩⟩
          have hc5 := cell_kept (World.cell?_setCell_same' W ⟨w.heap.size, 0, none⟩ (.bool true) (by rw [hc]; rfl)) (grownBy_putObj' _ D (.deferred none)) (fun r e => by cases e; exact ⟨_, hHD', rfl⟩)
          refine ⟨.bool true, ?_, rfl, (hB.setCell (p := ⟨w.heap.size, 0, none⟩) (Nat.le_refl _) _).trans (belowK_b (w := w) (Nat.le_refl _) _ D _ _ (by simp at hD; omega) hHD' rfl rfl)⟩
          simp [results, Try.f5, go_sem, hc5]
        case stop =>
          rintro D c pre W hD hpre ⟨x, hx, hbad⟩ hHD
          exfalso
          have h1 : x ∈ namesS a := hpre.subset hx
          unfold namesS at h1
          obtain ⟨n, hn, rfl⟩ := List.mem_map.1 h1
          rw [strL_data] at hbad
          have g := HG.out n hn
          rcases hbad with h | h | h
          · exact g.1 h
          · exact g.2.1 h
          · exact g.2.2.1 h

theorem law_again (s : ByteArray) (w : World) : Calls Try.prog 5 #[.string s] w (Ret (.bool true) w) := by
  by_cases h : (2000 : Int) < (s.size : Int)
  · exact law_again_long s h w
  · cases hr : rightB s.data.toList with
    | false => exact law_again_bad s (by omega) hr w
    | true => exact callsIn_wide.1 (law_again_in s (by omega) hr w)
end Go.Proofs.Ytpejghinphnllaa
