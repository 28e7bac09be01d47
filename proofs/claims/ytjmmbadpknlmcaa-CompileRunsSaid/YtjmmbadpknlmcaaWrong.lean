/- What is wrong with a rule's names. Condition: the names can be read. -/
import Derived.Test.YtjmmbadpknlmcaaSet
import Derived.Test.YtjmmbadpknlmcaaRules
namespace Go.Proofs.Ytjmmbadpknlmcaa
open Go.RowKit
attribute [local go_sem ↓] Go.wp_at_zero Go.wp_at_succ
set_option linter.unusedVariables false
set_option linter.unusedSimpArgs false

def knownB (s : ByteArray) : Bool := (nrV s).2
def seenB (ns : List ByteArray) (k : Nat) (s : ByteArray) : Bool := (ns.take k).any fun t => decide (t = s)
def dupTo (ns : List ByteArray) : Nat → Bool
  | 0 => false
  | k + 1 => dupTo ns k || (match ns[k]? with | some s => seenB ns k s | none => false)
def wrongI (ns : List ByteArray) : Int := if ns.all knownB then (if dupTo ns ns.length then 9 else 0) else 8
theorem seenB_succ {ns : List ByteArray} {k : Nat} {x : ByteArray} (h : ns[k]? = some x) (s : ByteArray) : (decide (s = x) || seenB ns k s) = seenB ns (k + 1) s := by
  unfold seenB
  rw [List.take_add_one, h]
  simp [List.any_append, Bool.or_comm, eq_comm]
theorem dupTo_succ {ns : List ByteArray} {k : Nat} {x : ByteArray} (h : ns[k]? = some x) : dupTo ns (k + 1) = (dupTo ns k || seenB ns k x) := by
  simp [dupTo, h]
theorem nrT_eq (s : ByteArray) : nrT s = .tuple #[.int .u32 (nrV s).1, .bool (knownB s)] := rfl

def WrongRel (ns : List ByteArray) (w : World) (b : Nat) (ev i : Value) (wr : World) : Prop :=
  ∃ (k : Nat) (q : Int), k ≤ ns.length ∧ i = .int .i64 k ∧ ev = .int .i64 q ∧ q = (if dupTo ns k then 9 else 0) ∧ Below w.heap.size w wr ∧ SetIs wr b k (seenB ns k) ∧ ns.all knownB = (ns.drop k).all knownB

set_option maxRecDepth 100000 in
set_option maxHeartbeats 4000000 in
theorem wrong_any (nv : Value) (ns : List ByteArray) (w : World) (hn : StrsAt w nv ns) (hl : ns.length ≤ 1000) : Calls Try.prog 31 #[nv] w (Ret (.int .i64 (wrongI ns)) w) := by
  obtain ⟨A, c, rfl, hnl, hnc⟩ := hn
  obtain ⟨F, hF⟩ : ∃ F, wrongI ns = F := ⟨_, rfl⟩
  rw [hF]
  unfold wrongI at hF
  obtain ⟨n, hnn⟩ : ∃ n, ns.length = n := ⟨_, rfl⟩
  rw [hnn] at hF hnl hnc hl ⊢
  have HF := Lib.hid hF
  have Hnc := Lib.hid hnc
  clear hF hnc
  have hmade := SetIs.made w
  have hal := below_alloc w (.map #[] 0)
  have hmk : (Instr.makeMap 105 none).run Try.prog w = .ok (.map (some w.heap.size)) (w.alloc (.map #[] 0)) := rfl
  go_enter Try.func31, Try.ntmps31
  go_wp2
  go_loopw [3, 12] (fun ev i wr => WrongRel ns w w.heap.size ev i wr) (fun _ i _ => n - (intOf i).toNat)
  case atStart => exact ⟨0, 0, by omega, rfl, rfl, rfl, hal, hmade.congr (fun s => rfl), rfl⟩
  case round =>
    obtain ⟨j, q, hj, rfl, rfl, hq, hb, hset, hf⟩ := hrel
    rw [hnn] at hj
    have Hq := Lib.hid hq
    clear hq
    by_cases hlt : j < n
    · obtain ⟨gl, o, rfl, hcell⟩ := Hnc.out (by omega)
      obtain ⟨x, hx⟩ : ∃ x, ns[j]? = some x := ⟨_, List.getElem?_eq_getElem (by omega)⟩
      obtain ⟨e0, hxs⟩ := hcell j x hx
      have e1 : wr.cell? ⟨gl, o + j, none⟩ = some (.string x) := by rw [Nat.mul_one] at e0; exact keep_cell hb e0
      rw [all_at hx] at hf
      have hlt' : (j : Int) < n := by omega
      have N := nr_any x
      rw [nrT_eq] at N
      obtain ⟨z, hz⟩ : ∃ z, knownB x = z := ⟨_, rfl⟩
      obtain ⟨v, hv⟩ : ∃ v, (nrV x).1 = v := ⟨_, rfl⟩
      rw [hz, hv] at N
      rw [hz] at hf
      have Hf := Lib.hid hf
      have Hset := Lib.hid hset
      have Hx := Lib.hid hx
      have hd := dupTo_succ hx
      obtain ⟨se, hse⟩ : ∃ se, seenB ns j x = se := ⟨_, rfl⟩
      rw [hse] at hd
      have Hd := Lib.hid hd
      have Hse := Lib.hid hse
      have Hhb := hb
      clear hcell e0 hx hz hv hf hset hd hse
      cases z with
      | true =>
        cases se with
        | false =>
          go_wp2_with (first
            | (go_at_call 34; (with_reducible refine (N _).mono ?_); rintro e w5 ⟨rfl, hb5⟩; have hset5 := Hset.out.below hb5; have hlk := hset5.look x hxs; rw [Hse.out] at hlk; have Hset5 := Lib.hid hset5; clear hset5)
            | (at_mapUpdate; refine wpList_set _ rfl _ _ _ rfl w.heap.size j (seenB ns j) rfl Hset5.out (by omega) x hxs rfl rfl ?_; intro w6 hset6 hg6))
          go_roundw
          case rel =>
            refine ⟨j + 1, q, by omega, by go_num, rfl, by rw [Hd.out, Bool.or_false]; exact Hq.out, ?_, hset6.congr (seenB_succ Hx.out), by rw [Hf.out, Bool.true_and]⟩
            have k1 := bchain hb hb.size hb5
            exact k1.trans (grown_below hg6 k1.size (Nat.le_refl _))
          case measure => (simp [intOf] <;> omega)
        | true =>
          go_wp2_with (first
            | (go_at_call 34; (with_reducible refine (N _).mono ?_); rintro e w5 ⟨rfl, hb5⟩; have hset5 := Hset.out.below hb5; have hlk := hset5.look x hxs; rw [Hse.out] at hlk; have Hset5 := Lib.hid hset5; clear hset5)
            | (at_mapUpdate; refine wpList_set _ rfl _ _ _ rfl w.heap.size j (seenB ns j) rfl Hset5.out (by omega) x hxs rfl rfl ?_; intro w6 hset6 hg6))
          go_roundw
          case rel =>
            refine ⟨j + 1, 9, by omega, by go_num, rfl, by rw [Hd.out, Bool.or_true]; rfl, ?_, hset6.congr (seenB_succ Hx.out), by rw [Hf.out, Bool.true_and]⟩
            have k1 := bchain hb hb.size hb5
            exact k1.trans (grown_below hg6 k1.size (Nat.le_refl _))
          case measure => (simp [intOf] <;> omega)
      | false =>
        go_wp2_with (go_at_call 34; (with_reducible refine (N _).mono ?_); rintro e w5 ⟨rfl, hb5⟩)
        go_ret
        exact ⟨by rw [← HF.out, Hf.out]; simp, bchain hb hb.size hb5⟩
    · obtain rfl : j = n := by omega
      rw [List.drop_eq_nil_of_le (by omega)] at hf
      have Hf := Lib.hid hf
      clear hf
      go_wp2
      go_ret
      exact ⟨by rw [← HF.out, Hf.out, Hq.out]; rfl, hb⟩
end Go.Proofs.Ytjmmbadpknlmcaa
