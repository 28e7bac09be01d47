/- Whether a rule speaks of a call and its conditions hold, twice. Condition: the rule can be read. -/
import Derived.Test.YtjmmbadpknlmcaaWrong
import Derived.Test.YtjmmbadpknlmcaaRefCheck
namespace Go.Proofs.Ytjmmbadpknlmcaa
open Go.RowKit
attribute [local go_sem ↓] Go.wp_at_zero Go.wp_at_succ
set_option linter.unusedVariables false
set_option linter.unusedSimpArgs false

theorem seenB_all (ns : List ByteArray) (s : ByteArray) : seenB ns ns.length s = ns.any fun t => decide (t = s) := by unfold seenB; rw [List.take_length]

def IdxRel (ns : List ByteArray) (s : ByteArray) (i : Value) : Prop := ∃ k : Nat, k ≤ ns.length ∧ i = .int .i64 k ∧ seenB ns k s = false

set_option maxRecDepth 100000 in
set_option maxHeartbeats 1000000 in
theorem index_any (nv : Value) (ns : List ByteArray) (s : ByteArray) (w : World) (hn : StrsAt w nv ns) :
    Calls Try.prog 67 #[nv, .string s] w (fun e w' => ∃ i : Int, e = .returned (.int .i64 i) ∧ w = w' ∧ decide (0 ≤ i) = ns.any fun t => decide (t = s)) := by
  obtain ⟨A, c, rfl, hnl, hnc⟩ := hn
  obtain ⟨n, hnn⟩ : ∃ n, ns.length = n := ⟨_, rfl⟩
  rw [hnn] at hnl hnc ⊢
  have Hnc := Lib.hid hnc
  clear hnc
  rw [← seenB_all, hnn]
  go_enter Try.func67, Try.ntmps67
  go_wp2
  go_loop [8] (fun i => IdxRel ns s i) (fun i => n - (intOf i).toNat)
  case atStart => exact ⟨0, by omega, rfl, rfl⟩
  case round =>
    obtain ⟨j, hj, rfl, hf⟩ := hrel
    rw [hnn] at hj
    have Hf := Lib.hid hf
    clear hf
    by_cases hlt : j < n
    · obtain ⟨gl, o, rfl, hcell⟩ := Hnc.out (by omega)
      obtain ⟨x, hx⟩ : ∃ x, ns[j]? = some x := ⟨_, List.getElem?_eq_getElem (by omega)⟩
      obtain ⟨e0, hxs⟩ := hcell j x hx
      have e1 : w.cell? ⟨gl, o + j, none⟩ = some (.string x) := by rw [Nat.mul_one] at e0; exact e0
      have hlt' : (j : Int) < n := by omega
      have hs := seenB_succ hx s
      have Hs := Lib.hid hs
      clear hcell e0 hx hs
      by_cases ex : s = x
      · subst ex
        go_wp2
        go_ret
        refine ⟨j, rfl, rfl, ?_⟩
        have : seenB ns (j + 1) s = true := by rw [← Hs.out]; simp
        rw [seenB_mono this (by omega)]
        simp
      · have hne := bytes_ne ex
        go_wp2
        go_round
        case rel => exact ⟨j + 1, by omega, by go_num, by rw [← Hs.out, decide_eq_false ex, Hf.out]; rfl⟩
        case measure => (simp [intOf] <;> omega)
    · obtain rfl : j = n := by omega
      go_wp2
      go_ret
      exact ⟨-1, rfl, rfl, by rw [Hf.out]; rfl⟩

set_option maxRecDepth 100000 in
theorem contains_any (nv : Value) (ns : List ByteArray) (s : ByteArray) (w : World) (hn : StrsAt w nv ns) :
    Calls Try.prog 49 #[nv, .string s] w (Same (.bool (ns.any fun t => decide (t = s))) w) := by
  have I := index_any nv ns s w hn
  obtain ⟨A, c, rfl⟩ := hn.form
  obtain ⟨b, hb⟩ : ∃ b, (ns.any fun t => decide (t = s)) = b := ⟨_, rfl⟩
  rw [hb] at I ⊢
  clear hb
  go_enter Try.func49, Try.ntmps49
  go_wp2_with (go_at_call 67; refine I.mono ?_; rintro e w' ⟨i, rfl, rfl, hi⟩)
  go_ret
  exact ⟨by rw [← hi]; rfl, rfl⟩

/-! The names and the numbers. -/
theorem nrL_mem {L : List (ByteArray × Int)} {s : ByteArray} {n : Int} (h : nrL L s = (n, true)) : (s, n) ∈ L := by
  induction L with
  | nil => simp [nrL] at h
  | cons x L ih =>
    unfold nrL at h
    by_cases e : x.1 = s
    · rw [if_pos e] at h
      have : x.2 = n := by simpa using h
      rw [← e, ← this]
      exact List.mem_cons_self ..
    · rw [if_neg e] at h
      exact List.mem_cons_of_mem _ (ih h)
theorem nameL_mem {L : List (ByteArray × Int)} {s : ByteArray} {n : Int} (h : nameL L n = (s, true)) : (s, n) ∈ L := by
  induction L with
  | nil => simp [nameL] at h
  | cons x L ih =>
    unfold nameL at h
    by_cases e : x.2 = n
    · rw [if_pos e] at h
      have : x.1 = s := by simpa using h
      rw [← e, ← this]
      exact List.mem_cons_self ..
    · rw [if_neg e] at h
      exact List.mem_cons_of_mem _ (ih h)
theorem nr_of_known : ∀ p ∈ known, nrV p.1 = (p.2, true) := by decide +kernel
theorem name_of_known : ∀ p ∈ known, nameV p.2 = (p.1, true) := by decide +kernel
theorem nrV_iff (s : ByteArray) (n : Int) : nrV s = (n, true) ↔ nameV n = (s, true) :=
  ⟨fun h => name_of_known (s, n) (nrL_mem h), fun h => nr_of_known (s, n) (nameL_mem h)⟩
def spokenB (ns : List ByteArray) (n : Int) : Bool := ns.any fun s => (nrV s).2 && decide ((nrV s).1 = n)
theorem spokenB_eq (ns : List ByteArray) (n : Int) : spokenB ns n = ((nameV n).2 && ns.any fun t => decide (t = (nameV n).1)) := by
  unfold spokenB
  rw [Bool.eq_iff_iff]
  simp only [Bool.and_eq_true, List.any_eq_true, decide_eq_true_eq]
  constructor
  · rintro ⟨s, hs, h1, h2⟩
    have : nameV n = (s, true) := (nrV_iff s n).1 (Prod.ext h2 h1)
    rw [this]
    exact ⟨rfl, s, hs, rfl⟩
  · rintro ⟨h1, s, hs, rfl⟩
    refine ⟨_, hs, ?_⟩
    have : nrV (nameV n).1 = (n, true) := (nrV_iff _ n).2 (Prod.ext rfl h1)
    rw [this]
    exact ⟨rfl, rfl⟩

def holdsC (x0 x1 x2 x3 x4 x5 : Int) (c : Cnd) : Bool := rightB c.a c.o && cmpB c.o (bits .and .u64 (argI c.a x0 x1 x2 x3 x4 x5) c.m) c.v
def meetsB (nr x0 x1 x2 x3 x4 x5 : Int) (r : Rul) : Bool := spokenB r.ns nr && r.cs.all (holdsC x0 x1 x2 x3 x4 x5)

set_option maxRecDepth 100000 in
set_option maxHeartbeats 4000000 in
theorem meets_any (k a nr ar ip x0 x1 x2 x3 x4 x5 : Int) (nv cv : Value) (ns : List ByteArray) (cs : List Cnd) (w : World) (hn : StrsAt w nv ns) (hc : CndsAt w cv cs) :
    Calls Try.prog 29 #[.agg #[.int .i64 k, .int .i64 a, nv, cv], .agg #[.int .u32 nr, .int .u32 ar, .int .u64 ip, .int .u64 x0, .int .u64 x1, .int .u64 x2, .int .u64 x3, .int .u64 x4, .int .u64 x5]] w
      (Ret (.bool (meetsB nr x0 x1 x2 x3 x4 x5 ⟨k, a, ns, cs⟩)) w) := by
  obtain ⟨F, hF⟩ : ∃ F, meetsB nr x0 x1 x2 x3 x4 x5 ⟨k, a, ns, cs⟩ = F := ⟨_, rfl⟩
  rw [hF]
  have hF : (spokenB ns nr && cs.all (holdsC x0 x1 x2 x3 x4 x5)) = F := hF
  rw [spokenB_eq] at hF
  have N := name_any nr
  unfold nameT at N
  obtain ⟨⟨nm, is⟩, hnm⟩ : ∃ p, nameV nr = p := ⟨_, rfl⟩
  rw [hnm] at N hF
  have HF := Lib.hid hF
  have C := fun w1 hb => contains_any nv ns nm w1 (strs_below (w := w) (w1 := w1) hb hn)
  obtain ⟨y, hy⟩ : ∃ y, (ns.any fun t => decide (t = nm)) = y := ⟨_, rfl⟩
  have hF2 : (is && y && cs.all (holdsC x0 x1 x2 x3 x4 x5)) = F := by rw [← HF.out, hy]
  have HF2 := Lib.hid hF2
  rw [hy] at C
  clear hF hF2 hy hnm HF
  obtain ⟨A1, c1, rfl⟩ := hn.form
  obtain ⟨A2, c2, rfl, hl2, hc2⟩ := hc
  obtain ⟨m, hm⟩ : ∃ m, cs.length = m := ⟨_, rfl⟩
  rw [hm] at hl2 hc2 ⊢
  have Hc2 := Lib.hid hc2
  clear hc2 hn
  have hbox0 := below_alloc w (.cells #[.int .i64 k, .int .i64 a, .slice A1 ns.length c1, .slice A2 m c2] 44)
  have hbox : Below w.heap.size w ((w.alloc (.cells #[.int .i64 k, .int .i64 a, .slice A1 ns.length c1, .slice A2 m c2] 44)).alloc (.cells #[.int .u32 nr, .int .u32 ar, .int .u64 ip, .int .u64 x0, .int .u64 x1, .int .u64 x2, .int .u64 x3, .int .u64 x4, .int .u64 x5] 48)) := bchain hbox0 hbox0.size (below_alloc _ _)
  have hNC := fun (w1 : World) (hb1 : Below _ ((w.alloc (.cells #[.int .i64 k, .int .i64 a, .slice A1 ns.length c1, .slice A2 m c2] 44)).alloc (.cells #[.int .u32 nr, .int .u32 ar, .int .u64 ip, .int .u64 x0, .int .u64 x1, .int .u64 x2, .int .u64 x3, .int .u64 x4, .int .u64 x5] 48)) w1) => bchain hbox hbox.size hb1
  go_enter Try.func29, Try.ntmps29
  cases is with
  | false =>
    go_wp2_with (go_at_call 21; refine (N _).mono ?_; rintro e w1 ⟨rfl, hb1⟩)
    go_ret
    exact ⟨by rw [← HF2.out]; simp, bchain hbox hbox.size hb1⟩
  | true =>
  cases y with
  | false =>
    go_wp2_with (first | (go_at_call 21; refine (N _).mono ?_; rintro e w1 ⟨rfl, hb1⟩; have g2 : w1.cell? ⟨w.heap.size, 2, none⟩ = some (.slice A1 ns.length c1) := keep_cell hb1 (by go_keep)) | (go_at_call 49; refine (C _ (hNC _ hb1)).mono ?_; rintro e w2 ⟨rfl, rfl⟩))
    go_ret
    exact ⟨by rw [← HF2.out]; simp, bchain hbox hbox.size hb1⟩
  | true =>
  go_wp2_with (first | (go_at_call 21; refine (N _).mono ?_; rintro e wa ⟨rfl, hb1⟩; have g2 : wa.cell? ⟨w.heap.size, 2, none⟩ = some (.slice A1 ns.length c1) := keep_cell hb1 (by go_keep); have g3 : wa.cell? ⟨w.heap.size, 3, none⟩ = some (.slice A2 m c2) := keep_cell hb1 (by go_keep); have d0 : wa.cell? ⟨w.heap.size + 1, 0, none⟩ = some (.int .u32 nr) := keep_cell hb1 (by go_keep); have d1 : wa.cell? ⟨w.heap.size + 1, 1, none⟩ = some (.int .u32 ar) := keep_cell hb1 (by go_keep); have d2 : wa.cell? ⟨w.heap.size + 1, 2, none⟩ = some (.int .u64 ip) := keep_cell hb1 (by go_keep); have d3 : wa.cell? ⟨w.heap.size + 1, 3, none⟩ = some (.int .u64 x0) := keep_cell hb1 (by go_keep); have d4 : wa.cell? ⟨w.heap.size + 1, 4, none⟩ = some (.int .u64 x1) := keep_cell hb1 (by go_keep); have d5 : wa.cell? ⟨w.heap.size + 1, 5, none⟩ = some (.int .u64 x2) := keep_cell hb1 (by go_keep); have d6 : wa.cell? ⟨w.heap.size + 1, 6, none⟩ = some (.int .u64 x3) := keep_cell hb1 (by go_keep); have d7 : wa.cell? ⟨w.heap.size + 1, 7, none⟩ = some (.int .u64 x4) := keep_cell hb1 (by go_keep); have d8 : wa.cell? ⟨w.heap.size + 1, 8, none⟩ = some (.int .u64 x5) := keep_cell hb1 (by go_keep)) | (go_at_call 49; refine (C _ (hNC _ hb1)).mono ?_; rintro e w2 ⟨rfl, rfl⟩))
  have hwa : Below w.heap.size w wa := bchain hbox hbox.size hb1
  clear hb1 hbox hbox0 hNC C N
  go_loopw [27] (fun i wr => LR m wa (fun p => cs.all (holdsC x0 x1 x2 x3 x4 x5) = (cs.drop p).all (holdsC x0 x1 x2 x3 x4 x5)) i wr) (fun i _ => m - (intOf i).toNat)
  case atStart => exact ⟨0, by omega, rfl, Below.refl _ _, rfl⟩
  case round =>
    obtain ⟨i, hi, rfl, hb, hf⟩ := hrel
    have hwr : Below w.heap.size w wr := bchain hwa hwa.size hb
    have f0 : wr.cell? ⟨w.heap.size + 1, 0, none⟩ = some (.int .u32 nr) := keep_cell hb d0
    have f1 : wr.cell? ⟨w.heap.size + 1, 1, none⟩ = some (.int .u32 ar) := keep_cell hb d1
    have f2 : wr.cell? ⟨w.heap.size + 1, 2, none⟩ = some (.int .u64 ip) := keep_cell hb d2
    have f3 : wr.cell? ⟨w.heap.size + 1, 3, none⟩ = some (.int .u64 x0) := keep_cell hb d3
    have f4 : wr.cell? ⟨w.heap.size + 1, 4, none⟩ = some (.int .u64 x1) := keep_cell hb d4
    have f5 : wr.cell? ⟨w.heap.size + 1, 5, none⟩ = some (.int .u64 x2) := keep_cell hb d5
    have f6 : wr.cell? ⟨w.heap.size + 1, 6, none⟩ = some (.int .u64 x3) := keep_cell hb d6
    have f7 : wr.cell? ⟨w.heap.size + 1, 7, none⟩ = some (.int .u64 x4) := keep_cell hb d7
    have f8 : wr.cell? ⟨w.heap.size + 1, 8, none⟩ = some (.int .u64 x5) := keep_cell hb d8
    by_cases hlt : i < m
    · obtain ⟨gl, o, rfl, hcell⟩ := Hc2.out (by omega)
      obtain ⟨x, hx⟩ : ∃ x, cs[i]? = some x := ⟨_, List.getElem?_eq_getElem (by omega)⟩
      obtain ⟨e0, e1, e2, e3⟩ := CndQ.below hwr (hcell i x hx)
      rw [all_at hx] at hf
      obtain ⟨ca, co, cm, cv⟩ := x
      have hlt' : (i : Int) < m := by omega
      have I := holds_any ca co cm cv nr ar ip x0 x1 x2 x3 x4 x5
      have hf : cs.all (holdsC x0 x1 x2 x3 x4 x5) = ((rightB ca co && cmpB co (bits .and .u64 (argI ca x0 x1 x2 x3 x4 x5) cm) cv) && (cs.drop (i + 1)).all (holdsC x0 x1 x2 x3 x4 x5)) := hf
      obtain ⟨z, hz⟩ : ∃ z, (rightB ca co && cmpB co (bits .and .u64 (argI ca x0 x1 x2 x3 x4 x5) cm) cv) = z := ⟨_, rfl⟩
      rw [hz] at I hf
      have Hf := Lib.hid hf
      have hal := below_alloc wr (.cells #[.int .i64 ca, .int .i64 co, .int .u64 cm, .int .u64 cv] 40)
      have hal2 := bchain hwr hwr.size hal
      have hal3 := bchain hb hb.size hal
      have e0' : wr.cell? ⟨gl, o + i * 4, none⟩ = some (.int .i64 ca) := e0
      have e1' : wr.cell? ⟨gl, o + i * 4 + 1, none⟩ = some (.int .i64 co) := e1
      have e2' : wr.cell? ⟨gl, o + i * 4 + 2, none⟩ = some (.int .u64 cm) := e2
      have e3' : wr.cell? ⟨gl, o + i * 4 + 3, none⟩ = some (.int .u64 cv) := e3
      have q0 := keep_cell hal f0
      have q1 := keep_cell hal f1
      have q2 := keep_cell hal f2
      have q3 := keep_cell hal f3
      have q4 := keep_cell hal f4
      have q5 := keep_cell hal f5
      have q6 := keep_cell hal f6
      have q7 := keep_cell hal f7
      have q8 := keep_cell hal f8
      clear hcell hx hz hf e0 e1 e2 e3
      cases z with
      | true =>
        go_wp2_with (go_at_call 50; (with_reducible refine (I _).mono ?_); rintro e w5 ⟨rfl, hb5⟩)
        go_roundw
        case rel => exact ⟨i + 1, by omega, by go_num, bchain hal3 hal3.size hb5, Hf.out⟩
        case measure => (simp [intOf] <;> omega)
      | false =>
        go_wp2_with (go_at_call 50; (with_reducible refine (I _).mono ?_); rintro e w5 ⟨rfl, hb5⟩)
        go_ret
        exact ⟨by rw [← HF2.out, Hf.out]; simp, bchain hal2 hal2.size hb5⟩
    · obtain rfl : i = m := by omega
      rw [List.drop_eq_nil_of_le (by omega)] at hf
      have Hf := Lib.hid hf
      clear hf
      go_wp2
      go_ret
      exact ⟨by rw [← HF2.out, Hf.out]; simp, hwr⟩

def AnyRel (n : Nat) (p : Nat → Bool → Prop) (wa : World) (f i : Value) (wr : World) : Prop :=
  ∃ (k : Nat) (b : Bool), k ≤ n ∧ i = .int .i64 k ∧ f = .bool b ∧ Below wa.heap.size wa wr ∧ p k b
theorem any_take {α : Type} {L : List α} {k : Nat} {x : α} (h : L[k]? = some x) (f : α → Bool) : (L.take (k + 1)).any f = ((L.take k).any f || f x) := by
  rw [List.take_add_one, h]
  simp [List.any_append]
theorem all_take {α : Type} {L : List α} {k : Nat} {x : α} (h : L[k]? = some x) (f : α → Bool) : (L.take (k + 1)).all f = ((L.take k).all f && f x) := by
  rw [List.take_add_one, h]
  simp [List.all_append]
end Go.Proofs.Ytjmmbadpknlmcaa
