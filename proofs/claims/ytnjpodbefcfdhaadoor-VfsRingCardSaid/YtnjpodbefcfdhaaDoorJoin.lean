/- Join, twice: what it answers. Conditions: the row of strings can be read; it is no great one. -/
import Derived.Test.YtnjpodbefcfdhaaDoorRight
import Derived.Lib.Join
namespace Go.Proofs.YtnjpodbefcfdhaaDoor
open Go.RowKit
attribute [local go_sem ↓] Go.wp_at_zero Go.wp_at_succ
set_option linter.unusedVariables false
set_option linter.unusedSimpArgs false

def Ret (v : Value) (w : World) (e : Ending) (w' : World) : Prop := e = .returned v ∧ Below w.heap.size w w'
/-- Each name with a slash ahead. -/
def flatL (ns : List (List UInt8)) : List UInt8 := (ns.map (fun n => (47 : UInt8) :: n)).flatten
def joinL (ns : List (List UInt8)) : List UInt8 := if ns = [] then [47] else flatL ns
def strL (l : List UInt8) : ByteArray := ⟨l.toArray⟩
theorem strL_data (l : List UInt8) : (strL l).data.toList = l := rfl
theorem strL_of (s : ByteArray) : strL s.data.toList = s := by cases s; simp [strL]
theorem strL_append (a b : List UInt8) : strL a ++ strL b = strL (a ++ b) := by
  apply ByteArray.ext
  rw [ByteArray.data_append]
  simp [strL]
theorem flatL_snoc (ns : List (List UInt8)) (n : List UInt8) : flatL (ns ++ [n]) = flatL ns ++ 47 :: n := by simp [flatL]
theorem flatL_join : ∀ (ns : List (List UInt8)), ns ≠ [] → (47 : UInt8) :: Lib.join ns [47] = flatL ns
  | [], h => absurd rfl h
  | [n], _ => by simp [Lib.join, List.intercalate, flatL]
  | n :: m :: t, _ => by
    have := flatL_join (m :: t) (by simp)
    simp only [flatL, List.map_cons, List.flatten_cons] at this ⊢
    rw [← this]
    simp [Lib.join, List.intercalate]

theorem flatL_len : ∀ (ns : List (List UInt8)), ns.length ≤ (flatL ns).length
  | [] => Nat.le_refl _
  | a :: t => by have := flatL_len t; simp only [flatL, List.map_cons, List.flatten_cons, List.length_append, List.length_cons] at this ⊢; omega
/-- A row of strings. -/
def StrsAt (w : World) (v : Value) (ns : List (List UInt8)) : Prop :=
  ∃ A c, v = .slice A ns.length c ∧ ns.length ≤ c ∧ (0 < ns.length → ∃ b o, A = some ⟨b, o, none⟩ ∧ b < w.heap.size ∧ ∀ (j : Nat) n, ns[j]? = some n → w.cell? ⟨b, o + j, none⟩ = some (.string (strL n)))
def total (ns : List (List UInt8)) : Nat := (flatL ns).length

theorem join_any (v : Value) (ns : List (List UInt8)) (w : World) (h : StrsAt w v ns) (ht : total ns ≤ 1000000) : Calls Tryd.prog 18 #[v] w (Ret (.string (strL (joinL ns))) w) := by
  obtain ⟨A, c, rfl, hc, hcells⟩ := h
  by_cases h0 : ns = []
  · subst h0
    have hj : strL (joinL []) = ⟨#[47]⟩ := rfl
    rw [hj]
    go_enter Tryd.func18, Tryd.ntmps18
    go_wp2
    go_ret
    exact ⟨rfl, Below.refl _ _⟩
  · have hlen : 0 < ns.length := List.length_pos_iff.2 h0
    obtain ⟨b, o, rfl, hb, hcell⟩ := hcells hlen
    have hj : joinL ns = flatL ns := by unfold joinL; rw [if_neg h0]
    have hf := flatL_join ns h0
    have hmap : (ns.map strL).map (fun x : ByteArray => x.data.toList) = ns := by rw [List.map_map]; exact List.map_id'' (fun n => strL_data n) ns
    have hll : (Lib.join ((ns.map strL).map (·.data.toList)) [47]).length ≤ 140737488355328 := by
      rw [hmap]
      unfold total at ht
      rw [← hf] at ht
      simp at ht; omega
    have C := Tryd.strings_Join b o c (ns.map strL) ⟨#[47]⟩ w (fun j x hx => by
      rw [List.getElem?_map] at hx
      obtain ⟨n, hn, rfl⟩ := Option.map_eq_some_iff.1 hx
      exact hcell j n hn) hb (by
        have := flatL_len ns
        unfold total at ht; simp; omega) (by simpa using hc) hll
    rw [hmap, List.length_map] at C
    rw [hmap] at hll
    obtain ⟨js, hjs⟩ : ∃ js : ByteArray, (⟨(Lib.join ns [47]).toArray⟩ : ByteArray) = js := ⟨_, rfl⟩
    have hsz : js.size ≤ 140737488355328 := by rw [← hjs]; show (Lib.join ns [47]).toArray.size ≤ _; simpa using hll
    have hfin : (⟨#[47]⟩ : ByteArray) ++ js = strL (joinL ns) := by
      rw [hj, ← hf, ← hjs]
      exact strL_append [47] (Lib.join ns [47])
    have C2 : Calls Tryd.prog 30 #[.slice (some ⟨b, o, none⟩) ns.length c, .string ⟨#[47]⟩] w fun e w' => e = .returned (.string js) ∧ Below w.heap.size w w' := hjs ▸ C
    have HC := Lib.hid C2
    have Hfin := Lib.hid hfin
    have hn : ((ns.length : Int) == 0) = false := by simp; omega
    clear C C2 hj hf hll hmap hcell hcells hjs hfin
    go_enter Tryd.func18, Tryd.ntmps18
    go_wp2_with (first | (go_at_call 30; refine HC.out.mono ?_; rintro e w' ⟨rfl, hb⟩))
    go_ret
    exact ⟨by rw [← Hfin.out]; rfl, hb⟩

def JoinRel (ns : List (List UInt8)) (u i : Value) : Prop := ∃ k : Nat, k ≤ ns.length ∧ i = .int .i64 k ∧ u = .string (strL (flatL (ns.take k)))
theorem flatL_append (a b : List (List UInt8)) : flatL (a ++ b) = flatL a ++ flatL b := by simp [flatL]
theorem flatL_take (ns : List (List UInt8)) (k : Nat) : (flatL (ns.take k)).length ≤ total ns := by
  have h := flatL_append (ns.take k) (ns.drop k)
  rw [List.take_append_drop] at h
  unfold total
  rw [h, List.length_append]
  omega
theorem strL_size (l : List UInt8) : (strL l).size = l.length := by simp [strL, ByteArray.size]
theorem ref_join_any (v : Value) (ns : List (List UInt8)) (w : World) (h : StrsAt w v ns) (ht : total ns ≤ 1000000) : Calls Tryd.prog 34 #[v] w (Ret (.string (strL (joinL ns))) w) := by
  obtain ⟨A, c, rfl, hc, hcells⟩ := h
  have hnl : ns.length ≤ 1000000 := Nat.le_trans (flatL_len ns) ht
  by_cases h0 : ns = []
  · subst h0
    have hj : strL (joinL []) = ⟨#[47]⟩ := rfl
    rw [hj]
    go_enter Tryd.func34, Tryd.ntmps34
    go_wp2
    go_ret
    exact ⟨rfl, Below.refl _ _⟩
  · have hlen : 0 < ns.length := List.length_pos_iff.2 h0
    obtain ⟨b, o, rfl, hb, hcell⟩ := hcells hlen
    have hj : joinL ns = flatL ns := by unfold joinL; rw [if_neg h0]
    have Hj := Lib.hid hj
    have Hcell := Lib.hid hcell
    have hn : ((ns.length : Int) == 0) = false := by simp; omega
    clear hj hcell hcells
    go_enter Tryd.func34, Tryd.ntmps34
    go_wp2
    go_loop [3, 4] (fun u i => JoinRel ns u i) (fun _ i => ns.length - (intOf i).toNat)
    case atStart => exact ⟨0, Nat.zero_le _, rfl, rfl⟩
    case round =>
      obtain ⟨k, hk, rfl, rfl⟩ := hrel
      by_cases hlt : k < ns.length
      · obtain ⟨n, hn'⟩ : ∃ n, ns[k]? = some n := ⟨_, List.getElem?_eq_getElem hlt⟩
        have cell := Hcell.out k n hn'
        have hnext : flatL (ns.take (k + 1)) = flatL (ns.take k) ++ 47 :: n := by
          rw [List.take_add_one, hn']
          exact flatL_snoc _ _
        have s1 := flatL_take ns k
        have s2 := flatL_take ns (k + 1)
        rw [hnext] at s2
        have z1 : (strL (flatL (ns.take k))).size ≤ 1000000 := by rw [strL_size]; omega
        have z2 : (strL (flatL (ns.take k)) ++ (⟨#[47]⟩ : ByteArray)).size ≤ 1000001 := by rw [ByteArray.size_append, strL_size]; show _ + 1 ≤ _; omega
        have z3 : (strL n).size ≤ 1000000 := by rw [strL_size]; simp at s2; omega
        obtain ⟨s0, hs0⟩ : ∃ s, strL (flatL (ns.take k)) = s := ⟨_, rfl⟩
        have hcat : s0 ++ (⟨#[47]⟩ : ByteArray) ++ strL n = strL (flatL (ns.take (k + 1))) := by
          rw [← hs0, hnext]
          have e1 := strL_append (flatL (ns.take k)) [47]
          have e2 := strL_append (flatL (ns.take k) ++ [47]) n
          rw [List.append_assoc] at e2
          rw [show (⟨#[47]⟩ : ByteArray) = strL [47] from rfl, e1, e2]
          rfl
        rw [hs0] at z1 z2 ⊢
        obtain ⟨t, ht2⟩ : ∃ t, strL n = t := ⟨_, rfl⟩
        rw [ht2] at z3 cell hcat
        have Hcat := Lib.hid hcat
        have hlt' : (k : Int) < (ns.length : Int) := by omega
        clear hn' hnext hcat hs0 ht2 s1 s2
        go_wp2
        go_round
        case rel => exact ⟨k + 1, by omega, by go_num, by rw [← Hcat.out]⟩
        case measure => simp [intOf]; omega
      · obtain rfl : k = ns.length := by omega
        rw [List.take_length]
        go_wp2
        go_ret
        exact ⟨by rw [Hj.out]; rfl, Below.refl _ _⟩
end Go.Proofs.YtnjpodbefcfdhaaDoor
