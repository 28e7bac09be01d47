/- VfsRing: it answers true. No conditions. -/
import Derived.Test.YtnjpodbefcfdhaaDoorNRow
import Derived.Laws.BytesArg
namespace Go.Proofs.YtnjpodbefcfdhaaDoor
open Go.RowKit
attribute [local go_sem ↓] Go.wp_at_zero Go.wp_at_succ
set_option linter.unusedVariables false
set_option linter.unusedSimpArgs false

theorem own_below {w w1 : World} {b : Nat} {e : TypeId} {size k : Nat} {v : Value} {xs : List Value} (h : w.ownsRow b e size v k xs) (hb : Below w.heap.size w w1) : w1.ownsRow b e size v k xs := by
  obtain ⟨h1, h2⟩ := h
  refine ⟨h1, ?_⟩
  rcases h2 with h2 | ⟨g, cap, cur, h3, h4, h5, h6⟩
  · exact .inl h2
  · exact .inr ⟨g, cap, cur, h3, h4, (hb.block g (Array.getElem?_eq_some_iff.1 h5).1).trans h5, h6⟩
set_option maxRecDepth 100000 in
set_option maxHeartbeats 4000000 in
theorem name_any (i : Nat) (hi : i ≤ 30) (w : World) : Calls Tryd.prog 16 #[.int .i64 (i : Int)] w (Ret (.string (strL (pathN i))) w) := by
  have kc : ∀ W : World, (convert 50 9 (.slice (some ⟨W.heap.size, 0, none⟩) 1 1)).run Tryd.prog (W.alloc (.cells #[.int .u8 (97 + (i : Int))] 5)) = .ok (.string (strL (nm i))) (W.alloc (.cells #[.int .u8 (97 + (i : Int))] 5)) := fun W => by
    have h := run_convert_bytes_arg (P := Tryd.prog) (W.alloc (.cells #[.int .u8 (97 + (i : Int))] 5)) 50 5 Tryd.underlying50 Tryd.underlying5 W.heap.size 0 1 1 [97 + (i : Int)] rfl (fun j hj => by
      obtain rfl : j = 0 := by omega
      exact (Boxed.new W 5 (.int .u8 (97 + (i : Int)))).cell) 9 Tryd.underlying9
    rw [h]
    congr 2
  have hcat : (⟨#[47]⟩ : ByteArray) ++ strL (nm i) = strL (pathN i) := by
    rw [show (⟨#[47]⟩ : ByteArray) = strL [47] from rfl, strL_append]; rfl
  have z1 : (strL (nm i)).size ≤ 1 := by rw [strL_size]; unfold nm; simp
  have Hcat := Lib.hid hcat
  obtain ⟨t, ht⟩ : ∃ t, strL (nm i) = t := ⟨_, rfl⟩
  simp only [ht] at kc z1
  rw [ht] at Hcat
  clear hcat ht
  have hi' : (i : Int) ≤ 30 := by omega
  go_enter Tryd.func16, Tryd.ntmps16
  go_wp2
  go_ret
  exact ⟨by rw [← Hcat.out]; rfl, below_alloc _ _⟩

def RingRel (n : Nat) (r : Bool) (w1 : World) (lv iv : Value) (wr : World) : Prop :=
  ∃ k : Nat, k ≤ n ∧ iv = .int .i64 k ∧ wr.ownsRow w1.heap.size 32 3 lv k (ncells (linksN n r k)) ∧ Below w1.heap.size w1 wr
theorem links_succ (n k : Nat) (r : Bool) : ncells (linksN n r (k + 1)) = ncells (linksN n r k) ++ [.string (strL (pathN k)), .int .i64 3, .string (strL (pathN (toN n r k)))] := by
  unfold linksN
  rw [List.range_succ, List.map_append, ncells_append]; rfl
theorem links_len (n k : Nat) (r : Bool) : (linksN n r k).length = k := by unfold linksN; simp
theorem row_sized (n : Nat) (r : Bool) : ∀ x ∈ rowN n r, SizedN x := by
  intro x hx
  unfold rowN at hx
  have hp : ∀ i, (pathN i).length = 2 := fun i => rfl
  rcases List.mem_append.1 hx with h | h
  · unfold linksN at h
    obtain ⟨i, _, rfl⟩ := List.mem_map.1 h
    exact ⟨by show (pathN _).length ≤ _; rw [hp]; decide, by show (pathN _).length ≤ _; rw [hp]; decide⟩
  · cases r with
    | true => simp at h
    | false =>
      simp at h
      subst h
      exact ⟨by show (pathN _).length ≤ _; rw [hp]; decide, Nat.zero_le _⟩

set_option maxRecDepth 100000 in
set_option maxHeartbeats 16000000 in
theorem ring_late (n : Nat) (r : Bool) (h1 : 1 ≤ n) (h20 : n ≤ 20) (w : World) : Calls Tryd.prog 7 #[.int .i64 (n : Int), .bool r] w (Ret (.bool true) w) := by
  have A := awake_any
  obtain ⟨i32, hi, hz0, hz1, hz2⟩ := info_parts info32
  have hml : 1000 ≤ maxLen := by decide
  have h1' : (1 : Int) ≤ n := by omega
  have h20' : (n : Int) ≤ 20 := by omega
  have R := fun v W h => resolve_any v (rowN n r) (strL (pathN 0)) W h (row_sized n r)
  simp only [strL_data, ring_plain h1 h20] at R
  have HR := Lib.hid R
  have N0 : ∀ w, Calls Tryd.prog 16 #[.int .i64 0] w (Ret (.string (strL (pathN 0))) w) := fun w => name_any 0 (by omega) w
  have Nn := name_any n (by omega)
  have e0 : strL (pathN 0) = ⟨#[47, 97]⟩ := rfl
  have hrow : ∀ W v b, (W : World).ownsRow b 32 3 v n (ncells (linksN n r n)) → r = true → NodesAt W v (rowN n r) := fun W v b h hr => by
    subst hr
    have e : rowN n true = linksN n true n := by unfold rowN; simp
    rw [e]
    exact nodes_of_row (base := b) (by rw [links_len]; exact h)
  have hrow2 : ∀ W v b, (W : World).ownsRow b 32 3 v (n + 1) (ncells (linksN n r n) ++ [.string (strL (pathN n)), .int .i64 1, .string ⟨#[]⟩]) → r = false → NodesAt W v (rowN n r) := fun W v b h hr => by
    subst hr
    have e : rowN n false = linksN n false n ++ [⟨pathN n, 1, []⟩] := by unfold rowN; simp
    rw [e]
    refine nodes_of_row (base := b) ?_
    rw [List.length_append, links_len, ncells_append]
    exact h
  have Hrow := Lib.hid hrow
  have Hrow2 := Lib.hid hrow2
  clear R hrow hrow2
  go_enter Tryd.func7, Tryd.ntmps7
  go_wp2_with (go_at_call 8; refine (A _).mono ?_; rintro e w1 ⟨rfl, hb1⟩)
  go_loopw [6, 7] (fun lv iv wr => RingRel n r w1 lv iv wr) (fun _ iv _ => n - (intOf iv).toNat)
  case atStart => exact ⟨0, Nat.zero_le _, rfl, World.ownsRow_nil _ _ _ _, Below.refl _ _⟩
  case round =>
    obtain ⟨k, hk, rfl, hown, hb⟩ := hrel
    by_cases hlt : k < n
    · have hlt' : (k : Int) < n := by omega
      have N1 := name_any (k + 1) (by omega)
      simp only [show (((k + 1 : Nat)) : Int) = (k : Int) + 1 from by omega] at N1
      have Nk := name_any k (by omega)
      have hsucc := links_succ n k r
      have Hsucc := Lib.hid hsucc
      have hk20 : k ≤ 20 := by omega
      have ht : toN n r k = if r && decide (k = n - 1) then 0 else k + 1 := rfl
      have Ht := Lib.hid ht
      have N0h := Lib.hid N0
      obtain ⟨s1, hs1⟩ : ∃ s, strL (pathN (k + 1)) = s := ⟨_, rfl⟩
      obtain ⟨sk, hsk⟩ : ∃ s, strL (pathN k) = s := ⟨_, rfl⟩
      obtain ⟨s0, hs0⟩ : ∃ s, strL (pathN 0) = s := ⟨_, rfl⟩
      simp only [hs1] at N1
      simp only [hsk] at Nk
      have N0' := N0
      simp only [hs0] at N0'
      have Hs1 := Lib.hid hs1
      have Hsk := Lib.hid hsk
      have Hs0 := Lib.hid hs0
      clear hsucc ht hs1 hsk hs0
      cases r with
      | false =>
        have Hto : Hid ((if false && decide (k = n - 1) then 0 else k + 1) = k + 1) := Lib.hid (by simp)
        go_wp2_with (first
          | (go_at_call 16; (with_reducible refine (N1 _).mono ?_); rintro e w2 ⟨rfl, hb2⟩; have k2 := bchain hb hb.size hb2)
          | (go_at_call 16; (with_reducible refine (Nk _).mono ?_); rintro e w3 ⟨rfl, hb3⟩; have k3 := bchain k2 k2.size hb3; have hown3 := own_below (own_below hown hb2) hb3)
          | (at_builtin; refine wpList_append_src _ rfl (Operand.tmp 36) (Operand.tmp 41) 22 rfl w1.heap.size 32 i32 (.agg #[.string ⟨#[]⟩, .int .i64 0, .string ⟨#[]⟩]) 3 40 Tryd.underlying22 hi hz0 hz1 hz2 rfl (by decide) _ k (ncells (linksN n false k)) rfl (hown3.alloc _) (some ⟨w3.heap.size, 0, none⟩) 1 1 (Array.toList #[.string sk, .int .i64 3, .string s1]) rfl (src_block (e := 32) (World.alloc_heap_new w3 _) rfl (by simp [Value.oneCell'])) (by omega) (by omega) (by have := k3.size; simp; omega) ?_; intro v6 w6 hown6 hgrow6 _hat6; clear _hat6; have k6 : Below w1.heap.size w1 w6 := (k3.alloc k3.size _).grown hgrow6 (by have := k3.size; simp; omega) (own_ge2 hown3)))
        go_roundw
        case rel => exact ⟨k + 1, by omega, by go_num, by rw [Hsucc.out, Ht.out, Hto.out, Hsk.out, Hs1.out]; exact hown6, k6⟩
        case measure => (simp [intOf] <;> omega)
      | true =>
        by_cases hkn : k = n - 1
        · have hE : ((k : Int) == (n : Int) - 1) = true := by simp; omega
          have Hto : Hid ((if true && decide (k = n - 1) then 0 else k + 1) = 0) := Lib.hid (by simp [hkn])
          clear hkn
          go_wp2_with (first
            | (go_at_call 16; (with_reducible refine (N1 _).mono ?_); rintro e w2 ⟨rfl, hb2⟩; have k2 := bchain hb hb.size hb2)
            | (go_at_call 16; (with_reducible refine (N0' _).mono ?_); rintro e w2b ⟨rfl, hb2b⟩; have k2b := bchain k2 k2.size hb2b)
            | (go_at_call 16; (with_reducible refine (Nk _).mono ?_); rintro e w3 ⟨rfl, hb3⟩; have k3 := bchain k2b k2b.size hb3; have hown3 := own_below (own_below (own_below hown hb2) hb2b) hb3)
            | (at_builtin; refine wpList_append_src _ rfl (Operand.tmp 36) (Operand.tmp 41) 22 rfl w1.heap.size 32 i32 (.agg #[.string ⟨#[]⟩, .int .i64 0, .string ⟨#[]⟩]) 3 40 Tryd.underlying22 hi hz0 hz1 hz2 rfl (by decide) _ k (ncells (linksN n true k)) rfl (hown3.alloc _) (some ⟨w3.heap.size, 0, none⟩) 1 1 (Array.toList #[.string sk, .int .i64 3, .string s0]) rfl (src_block (e := 32) (World.alloc_heap_new w3 _) rfl (by simp [Value.oneCell'])) (by omega) (by omega) (by have := k3.size; simp; omega) ?_; intro v6 w6 hown6 hgrow6 _hat6; clear _hat6; have k6 : Below w1.heap.size w1 w6 := (k3.alloc k3.size _).grown hgrow6 (by have := k3.size; simp; omega) (own_ge2 hown3)))
          go_roundw
          case rel => exact ⟨k + 1, by omega, by go_num, by rw [Hsucc.out, Ht.out, Hto.out, Hsk.out, Hs0.out]; exact hown6, k6⟩
          case measure => (simp [intOf] <;> omega)
        · have hE : ((k : Int) == (n : Int) - 1) = false := by simp; omega
          have Hto : Hid ((if true && decide (k = n - 1) then 0 else k + 1) = k + 1) := Lib.hid (by simp [hkn])
          clear hkn
          go_wp2_with (first
            | (go_at_call 16; (with_reducible refine (N1 _).mono ?_); rintro e w2 ⟨rfl, hb2⟩; have k2 := bchain hb hb.size hb2)
            | (go_at_call 16; (with_reducible refine (Nk _).mono ?_); rintro e w3 ⟨rfl, hb3⟩; have k3 := bchain k2 k2.size hb3; have hown3 := own_below (own_below hown hb2) hb3)
            | (at_builtin; refine wpList_append_src _ rfl (Operand.tmp 36) (Operand.tmp 41) 22 rfl w1.heap.size 32 i32 (.agg #[.string ⟨#[]⟩, .int .i64 0, .string ⟨#[]⟩]) 3 40 Tryd.underlying22 hi hz0 hz1 hz2 rfl (by decide) _ k (ncells (linksN n true k)) rfl (hown3.alloc _) (some ⟨w3.heap.size, 0, none⟩) 1 1 (Array.toList #[.string sk, .int .i64 3, .string s1]) rfl (src_block (e := 32) (World.alloc_heap_new w3 _) rfl (by simp [Value.oneCell'])) (by omega) (by omega) (by have := k3.size; simp; omega) ?_; intro v6 w6 hown6 hgrow6 _hat6; clear _hat6; have k6 : Below w1.heap.size w1 w6 := (k3.alloc k3.size _).grown hgrow6 (by have := k3.size; simp; omega) (own_ge2 hown3)))
          go_roundw
          case rel => exact ⟨k + 1, by omega, by go_num, by rw [Hsucc.out, Ht.out, Hto.out, Hsk.out, Hs1.out]; exact hown6, k6⟩
          case measure => (simp [intOf] <;> omega)
    · obtain rfl : n = k := by omega
      cases r with
      | true =>
        have HR' := HR.out
        rw [if_pos (by simp)] at HR'
        unfold resT badR at HR'
        simp only at HR'
        rw [show strL [] = ⟨#[]⟩ from rfl, e0] at HR'
        have hNn := Hrow.out _ _ _ hown rfl
        go_wp2_with (first
        | (go_at_call 10; (with_reducible refine (HR' _ _ hNn).mono ?_); rintro e w8 ⟨rfl, hb8⟩; have k8 := bchain hb hb.size hb8))
        go_ret
        exact ⟨rfl, bchain hb1 hb1.size k8⟩
      | false =>
        have hnn : (strL (pathN n)).toList = pathN n := ByteArray.toList_eq _
        obtain ⟨sn, hsn⟩ : ∃ s, strL (pathN n) = s := ⟨_, rfl⟩
        simp only [hsn] at Nn hnn
        rw [hsn] at Hrow2
        have hE : (pathN n == pathN n) = true := by simp
        have app : True := trivial
        by_cases h8 : 8 < n
        · have HR' := HR.out
          rw [if_pos (by simp [h8])] at HR'
          unfold resT badR at HR'
          simp only at HR'
          rw [show strL [] = ⟨#[]⟩ from rfl, e0] at HR'
          have h8' : (8 : Int) < n := by omega
          clear HR h8
          go_wp2_with (first
            | (go_at_call 16; (with_reducible refine (Nn _).mono ?_); (first | (have hz := hown3; have hz2 := k8; rintro e w9 ⟨rfl, hb9⟩; have k9 := bchain k8 k8.size hb9) | (rintro e w3 ⟨rfl, hb3⟩; have k3 := bchain hb hb.size hb3; have hown3 := own_below hown hb3)))
            | (at_builtin; refine wpList_append_src _ rfl (Operand.tmp 45) (Operand.tmp 49) 22 rfl w1.heap.size 32 i32 (.agg #[.string ⟨#[]⟩, .int .i64 0, .string ⟨#[]⟩]) 3 40 Tryd.underlying22 hi hz0 hz1 hz2 rfl (by decide) _ n (ncells (linksN n false n)) rfl (hown3.alloc _) (some ⟨w3.heap.size, 0, none⟩) 1 1 (Array.toList #[.string sn, .int .i64 1, .string ⟨#[]⟩]) rfl (src_block (e := 32) (World.alloc_heap_new w3 _) rfl (by simp [Value.oneCell'])) (by omega) (by omega) (by have := k3.size; simp; omega) ?_; intro v6 w6 hown6 hgrow6 _hat6; clear _hat6; have k6 : Below w1.heap.size w1 w6 := (k3.alloc k3.size _).grown hgrow6 (by have := k3.size; simp; omega) (own_ge2 hown3); have hN6 := Hrow2.out _ _ _ hown6 (by simp))
            | (go_at_call 10; (with_reducible refine (HR' _ _ hN6).mono ?_); rintro e w8 ⟨rfl, hb8⟩; have k8 := bchain k6 k6.size hb8))
          go_ret
          exact ⟨rfl, bchain hb1 hb1.size k8⟩
        · have HR' := HR.out
          rw [if_neg (by simp; omega)] at HR'
          unfold resT at HR'
          simp only at HR'
          rw [hsn, e0] at HR'
          have h8' : (n : Int) ≤ 8 := by omega
          clear HR h8
          go_wp2_with (first
            | (go_at_call 16; (with_reducible refine (Nn _).mono ?_); (first | (have hz := hown3; have hz2 := k8; rintro e w9 ⟨rfl, hb9⟩; have k9 := bchain k8 k8.size hb9) | (rintro e w3 ⟨rfl, hb3⟩; have k3 := bchain hb hb.size hb3; have hown3 := own_below hown hb3)))
            | (at_builtin; refine wpList_append_src _ rfl (Operand.tmp 45) (Operand.tmp 49) 22 rfl w1.heap.size 32 i32 (.agg #[.string ⟨#[]⟩, .int .i64 0, .string ⟨#[]⟩]) 3 40 Tryd.underlying22 hi hz0 hz1 hz2 rfl (by decide) _ n (ncells (linksN n false n)) rfl (hown3.alloc _) (some ⟨w3.heap.size, 0, none⟩) 1 1 (Array.toList #[.string sn, .int .i64 1, .string ⟨#[]⟩]) rfl (src_block (e := 32) (World.alloc_heap_new w3 _) rfl (by simp [Value.oneCell'])) (by omega) (by omega) (by have := k3.size; simp; omega) ?_; intro v6 w6 hown6 hgrow6 _hat6; clear _hat6; have k6 : Below w1.heap.size w1 w6 := (k3.alloc k3.size _).grown hgrow6 (by have := k3.size; simp; omega) (own_ge2 hown3); have hN6 := Hrow2.out _ _ _ hown6 (by simp))
            | (go_at_call 10; (with_reducible refine (HR' _ _ hN6).mono ?_); rintro e w8 ⟨rfl, hb8⟩; have k8 := bchain k6 k6.size hb8))
          go_ret
          exact ⟨rfl, bchain hb1 hb1.size k9⟩
theorem ring_out (n : Int) (r : Bool) (h : n < 1 ∨ 20 < n) (w : World) : Calls Tryd.prog 7 #[.int .i64 n, .bool r] w (Ret (.bool true) w) := by
  have A := awake_any
  by_cases h1 : n < 1
  · clear h
    go_enter Tryd.func7, Tryd.ntmps7
    go_wp2_with (go_at_call 8; refine (A _).mono ?_; rintro e w1 ⟨rfl, hb1⟩)
    go_ret
    exact ⟨rfl, hb1⟩
  · have h1' : 1 ≤ n := by omega
    have h2 : 20 < n := by omega
    clear h h1
    go_enter Tryd.func7, Tryd.ntmps7
    go_wp2_with (go_at_call 8; refine (A _).mono ?_; rintro e w1 ⟨rfl, hb1⟩)
    go_ret
    exact ⟨rfl, hb1⟩
theorem law_ring (n : Int) (r : Bool) (w : World) : Calls Tryd.prog 7 #[.int .i64 n, .bool r] w (Ret (.bool true) w) := by
  by_cases h : n < 1 ∨ 20 < n
  · exact ring_out n r h w
  · simp only [not_or] at h
    obtain ⟨m, rfl⟩ : ∃ m : Nat, n = m := ⟨n.toNat, by omega⟩
    exact ring_late m r (by omega) (by omega) w
end Go.Proofs.YtnjpodbefcfdhaaDoor
