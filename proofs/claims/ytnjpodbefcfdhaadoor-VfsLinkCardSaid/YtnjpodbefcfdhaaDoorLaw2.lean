/- VfsLink: it answers true. Conditions: the nodes can be read; their strings are no longer than strings can be. -/
import Derived.Test.YtnjpodbefcfdhaaDoorNRow
namespace Go.Proofs.YtnjpodbefcfdhaaDoor
open Go.RowKit
attribute [local go_sem ↓] Go.wp_at_zero Go.wp_at_succ
set_option linter.unusedVariables false
set_option linter.unusedSimpArgs false

set_option maxRecDepth 100000 in
set_option maxHeartbeats 4000000 in
theorem link_early (nv : Value) (L : List Nod) (s : ByteArray) (w : World) (hN : NodesAt w nv L) (h : lightB L = false ∨ (63 : Int) < (L.length : Int) ∨ (256 : Int) < (s.size : Int)) : Calls Tryd.prog 6 #[nv, .string s] w (Ret (.bool true) w) := by
  have A := awake_any
  have Lt := fun W hW => light_any nv L W hW
  have HN := Lib.hid hN
  obtain ⟨An, c, rfl⟩ := hN.form
  cases hl : lightB L with
  | false =>
    rw [hl] at Lt
    clear h hl hN
    go_enter Tryd.func6, Tryd.ntmps6
    go_wp2_with (first
      | (go_at_call 8; refine (A _).mono ?_; rintro e w1 ⟨rfl, hb1⟩)
      | (go_at_call 9; refine (Lt _ (HN.out.below hb1)).mono ?_; rintro e w2 ⟨rfl, rfl⟩))
    go_ret
    exact ⟨rfl, hb1⟩
  | true =>
    rw [hl] at Lt h
    obtain ⟨n, hn⟩ : ∃ n, L.length = n := ⟨_, rfl⟩
    rw [hn] at h Lt HN ⊢
    by_cases h63 : (63 : Int) < (n : Int)
    · clear h hl hN hn
      go_enter Tryd.func6, Tryd.ntmps6
      go_wp2_with (first
      | (go_at_call 8; refine (A _).mono ?_; rintro e w1 ⟨rfl, hb1⟩)
      | (go_at_call 9; refine (Lt _ (HN.out.below hb1)).mono ?_; rintro e w2 ⟨rfl, rfl⟩))
      go_ret
      exact ⟨rfl, hb1⟩
    · have hle : (n : Int) ≤ 63 := by omega
      have hlt : (256 : Int) < (s.size : Int) := by
        rcases h with h | h | h
        · cases h
        · omega
        · exact h
      clear h hl hN hn h63
      go_enter Tryd.func6, Tryd.ntmps6
      go_wp2_with (first
      | (go_at_call 8; refine (A _).mono ?_; rintro e w1 ⟨rfl, hb1⟩)
      | (go_at_call 9; refine (Lt _ (HN.out.below hb1)).mono ?_; rintro e w2 ⟨rfl, rfl⟩))
      go_ret
      exact ⟨rfl, hb1⟩

set_option maxRecDepth 100000 in
set_option maxHeartbeats 16000000 in
theorem link_late (nv : Value) (L : List Nod) (s : ByteArray) (w : World) (hN : NodesAt w nv L) (hS : ∀ x ∈ L, SizedN x) (hl : lightB L = true) (h63 : (L.length : Int) ≤ 63) (hs : (s.size : Int) ≤ 256) : Calls Tryd.prog 6 #[nv, .string s] w (Ret (.bool true) w) := by
  have A := awake_any
  have Lt := fun W hW => light_any nv L W hW
  have R1 := fun W hW => resolve_any nv L s W hW hS
  have hS2 : ∀ x ∈ L ++ [newN s.data.toList], SizedN x := by
    intro x hx
    rcases List.mem_append.1 hx with h | h
    · exact hS x h
    · obtain rfl : x = newN s.data.toList := (by simpa using h)
      refine ⟨(by show ([47, 110, 101, 119] : List UInt8).length ≤ 9223372036854775807; decide), ?_⟩
      show s.data.toList.length ≤ _
      rw [len_data]; omega
  have C := fun v W hW => check_any v (L ++ [newN s.data.toList]) W hW hS2
  have R2 := fun v W hW => resolve_any v (L ++ [newN s.data.toList]) (strL [47, 110, 101, 119]) W hW hS2
  rw [strL_data] at R2
  have e1 : strL [47, 110, 101, 119] = ⟨#[47, 110, 101, 119]⟩ := rfl
  rw [e1] at R2
  have HN := Lib.hid hN
  obtain ⟨An, c, rfl⟩ := hN.form
  rw [hl] at Lt
  obtain ⟨i32, hi, hz0, hz1, hz2⟩ := info_parts info32
  have hml : 1000 ≤ maxLen := by decide
  have hnew : ncells (L ++ [newN s.data.toList]) = ncells L ++ [.string ⟨#[47, 110, 101, 119]⟩, .int .i64 3, .string s] := by
    rw [ncells_append]
    show ncells L ++ [.string (strL [47, 110, 101, 119]), .int .i64 3, .string (strL s.data.toList)] = _
    rw [strL_of]; rfl
  have hlen : (L ++ [newN s.data.toList]).length = L.length + 1 := by simp
  have hmk : ∀ (W : World) (v : Value) (B : Nat), W.ownsRow B 32 3 v (L.length + 1) (ncells L ++ [.string ⟨#[47, 110, 101, 119]⟩, .int .i64 3, .string s]) → NodesAt W v (L ++ [newN s.data.toList]) := fun W v B h => nodes_of_row (base := B) (by rw [hnew, hlen]; exact h)
  have Hmk := Lib.hid hmk
  have plain := fun a k h hc => link_plain (L := L) (p := s.data.toList) (a := a) (k := k) h hc
  obtain ⟨r, hr⟩ : ∃ r, resolveV L s.data.toList = r := ⟨_, rfl⟩
  obtain ⟨r2, hr2⟩ : ∃ r, resolveV (L ++ [newN s.data.toList]) [47, 110, 101, 119] = r := ⟨_, rfl⟩
  obtain ⟨z, hz⟩ : ∃ z, (checkV (L ++ [newN s.data.toList])).1 = z := ⟨_, rfl⟩
  obtain ⟨z2, hzz2⟩ : ∃ z, (checkV (L ++ [newN s.data.toList])).2 = z := ⟨_, rfl⟩
  rw [hr] at R1
  simp only [hr2] at R2
  simp only [hr, hr2, hz] at plain
  unfold pairT at C
  simp only [hz, hzz2] at C
  have HSrc := Lib.hid (fun W (hb : Below w.heap.size w W) => src_nodes (hN.below hb))
  obtain ⟨n, hn⟩ : ∃ n, L.length = n := ⟨_, rfl⟩
  rw [hn] at Lt R1 HN h63 Hmk HSrc ⊢
  obtain ⟨p, k, e0⟩ := r
  obtain ⟨p2, k2, e2⟩ := r2
  unfold resT at R1 R2
  simp only at R1 R2 plain
  have HC := Lib.hid C
  have HR2 := Lib.hid R2
  have tp : (strL p).toList = p := ByteArray.toList_eq _
  obtain ⟨u, hu⟩ : ∃ u, strL p = u := ⟨_, rfl⟩
  rw [hu] at R1 tp
  have Hplain := Lib.hid plain
  clear hl hN hS hS2 hnew hlen hmk plain hr hr2 hz hzz2 hn C R2
  have own0 : ∀ (W : World), (W.alloc (Obj.cells #[] 32)).ownsRow W.heap.size 32 3 (.slice (some ⟨W.heap.size, 0, none⟩) 0 0) 0 [] := fun W =>
    ⟨rfl, .inr ⟨_, 0, #[], rfl, Nat.le_refl _, World.alloc_heap_new W _, Nat.le_refl _, Nat.zero_le _, rfl, rfl⟩⟩
  have Hown0 := Lib.hid own0
  clear own0
  by_cases h0 : e0 = 0 ∧ z = 0
  · obtain ⟨rfl, rfl⟩ := h0
    have hp := Hplain.out p k rfl rfl
    rcases hp with hp | hp
    · simp only [Prod.mk.injEq] at hp
      obtain ⟨rfl, rfl, rfl⟩ := hp
      rw [hu] at HR2
      have hE : (p2 == p2) = true := by simp
      have hk : (k2 == k2) = true := by simp
      clear hu Hplain
      go_enter Tryd.func6, Tryd.ntmps6
      go_wp2_with (first
        | (go_at_call 8; refine (A _).mono ?_; rintro e w1 ⟨rfl, hb1⟩)
        | (go_at_call 9; refine (Lt _ (HN.out.below hb1)).mono ?_; rintro e w2 ⟨rfl, rfl⟩)
        | (go_at_call 10; (with_reducible refine (R1 _ (HN.out.below hb1)).mono ?_); rintro e w3 ⟨rfl, hb3⟩; have k3 := bchain hb1 hb1.size hb3; have kA := k3.alloc k3.size (Obj.cells #[] 32))
        | (at_builtin; refine wpList_append_src _ rfl (Operand.tmp 39) (Operand.tmp 40) 22 rfl w3.heap.size 32 i32 (.agg #[.string ⟨#[]⟩, .int .i64 0, .string ⟨#[]⟩]) 3 40 Tryd.underlying22 hi hz0 hz1 hz2 rfl (by decide) _ 0 [] rfl (Hown0.out w3) An n c (ncells L) rfl (HSrc.out _ kA) (by omega) (by omega) (by simp) ?_; intro v5 w5 hown5 hgrow5 _hat5; clear _hat5; have k5 : Below w.heap.size w w5 := kA.grown hgrow5 kA.size (fun j hj => Nat.le_trans k3.size (own_ge2 (Hown0.out w3) j hj)); rw [Nat.zero_add, List.nil_append] at hown5)
        | (at_builtin; refine wpList_append_src _ rfl (Operand.tmp 41) (Operand.tmp 44) 22 rfl w3.heap.size 32 i32 (.agg #[.string ⟨#[]⟩, .int .i64 0, .string ⟨#[]⟩]) 3 40 Tryd.underlying22 hi hz0 hz1 hz2 rfl (by decide) v5 n (ncells L) rfl (hown5.alloc _) (some ⟨w5.heap.size, 0, none⟩) 1 1 (Array.toList #[.string ⟨#[47, 110, 101, 119]⟩, .int .i64 3, .string s]) rfl (src_block (e := 32) (World.alloc_heap_new w5 _) rfl (by simp [Value.oneCell'])) (by omega) (by omega) (by have h1 := hgrow5.size; simp at h1 ⊢; omega) ?_; intro v6 w6 hown6 hgrow6 _hat6; clear _hat6; have k6 : Below w.heap.size w w6 := (k5.alloc k5.size _).grown hgrow6 (by have := k5.size; simp; omega) (fun j hj => Nat.le_trans k3.size (own_ge2 hown5 j hj)); have hN6 := Hmk.out w6 v6 _ hown6)
        | (go_at_call 14; refine (HC.out _ _ hN6).mono ?_; rintro e w7 ⟨rfl, hb7⟩; have k11 := bchain k6 k6.size hb7)
        | (go_at_call 10; (with_reducible refine (HR2.out _ _ (hN6.below hb7)).mono ?_); rintro e w8 ⟨rfl, hb8⟩; have k12 := bchain k11 k11.size hb8))
      go_ret
      exact ⟨rfl, k12⟩
    · simp only [badR, Prod.mk.injEq] at hp
      obtain ⟨rfl, rfl, rfl⟩ := hp
      rw [show strL [] = ⟨#[]⟩ from rfl] at HR2
      clear hu Hplain
      go_enter Tryd.func6, Tryd.ntmps6
      go_wp2_with (first
        | (go_at_call 8; refine (A _).mono ?_; rintro e w1 ⟨rfl, hb1⟩)
        | (go_at_call 9; refine (Lt _ (HN.out.below hb1)).mono ?_; rintro e w2 ⟨rfl, rfl⟩)
        | (go_at_call 10; (with_reducible refine (R1 _ (HN.out.below hb1)).mono ?_); rintro e w3 ⟨rfl, hb3⟩; have k3 := bchain hb1 hb1.size hb3; have kA := k3.alloc k3.size (Obj.cells #[] 32))
        | (at_builtin; refine wpList_append_src _ rfl (Operand.tmp 39) (Operand.tmp 40) 22 rfl w3.heap.size 32 i32 (.agg #[.string ⟨#[]⟩, .int .i64 0, .string ⟨#[]⟩]) 3 40 Tryd.underlying22 hi hz0 hz1 hz2 rfl (by decide) _ 0 [] rfl (Hown0.out w3) An n c (ncells L) rfl (HSrc.out _ kA) (by omega) (by omega) (by simp) ?_; intro v5 w5 hown5 hgrow5 _hat5; clear _hat5; have k5 : Below w.heap.size w w5 := kA.grown hgrow5 kA.size (fun j hj => Nat.le_trans k3.size (own_ge2 (Hown0.out w3) j hj)); rw [Nat.zero_add, List.nil_append] at hown5)
        | (at_builtin; refine wpList_append_src _ rfl (Operand.tmp 41) (Operand.tmp 44) 22 rfl w3.heap.size 32 i32 (.agg #[.string ⟨#[]⟩, .int .i64 0, .string ⟨#[]⟩]) 3 40 Tryd.underlying22 hi hz0 hz1 hz2 rfl (by decide) v5 n (ncells L) rfl (hown5.alloc _) (some ⟨w5.heap.size, 0, none⟩) 1 1 (Array.toList #[.string ⟨#[47, 110, 101, 119]⟩, .int .i64 3, .string s]) rfl (src_block (e := 32) (World.alloc_heap_new w5 _) rfl (by simp [Value.oneCell'])) (by omega) (by omega) (by have h1 := hgrow5.size; simp at h1 ⊢; omega) ?_; intro v6 w6 hown6 hgrow6 _hat6; clear _hat6; have k6 : Below w.heap.size w w6 := (k5.alloc k5.size _).grown hgrow6 (by have := k5.size; simp; omega) (fun j hj => Nat.le_trans k3.size (own_ge2 hown5 j hj)); have hN6 := Hmk.out w6 v6 _ hown6)
        | (go_at_call 14; refine (HC.out _ _ hN6).mono ?_; rintro e w7 ⟨rfl, hb7⟩; have k11 := bchain k6 k6.size hb7)
        | (go_at_call 10; (with_reducible refine (HR2.out _ _ (hN6.below hb7)).mono ?_); rintro e w8 ⟨rfl, hb8⟩; have k12 := bchain k11 k11.size hb8))
      go_ret
      exact ⟨rfl, k12⟩
  · by_cases he : e0 = 0
    · subst he
      have hzE : (z == 0) = false := by simpa using h0
      clear hu Hplain h0
      go_enter Tryd.func6, Tryd.ntmps6
      go_wp2_with (first
        | (go_at_call 8; refine (A _).mono ?_; rintro e w1 ⟨rfl, hb1⟩)
        | (go_at_call 9; refine (Lt _ (HN.out.below hb1)).mono ?_; rintro e w2 ⟨rfl, rfl⟩)
        | (go_at_call 10; (with_reducible refine (R1 _ (HN.out.below hb1)).mono ?_); rintro e w3 ⟨rfl, hb3⟩; have k3 := bchain hb1 hb1.size hb3; have kA := k3.alloc k3.size (Obj.cells #[] 32))
        | (at_builtin; refine wpList_append_src _ rfl (Operand.tmp 39) (Operand.tmp 40) 22 rfl w3.heap.size 32 i32 (.agg #[.string ⟨#[]⟩, .int .i64 0, .string ⟨#[]⟩]) 3 40 Tryd.underlying22 hi hz0 hz1 hz2 rfl (by decide) _ 0 [] rfl (Hown0.out w3) An n c (ncells L) rfl (HSrc.out _ kA) (by omega) (by omega) (by simp) ?_; intro v5 w5 hown5 hgrow5 _hat5; clear _hat5; have k5 : Below w.heap.size w w5 := kA.grown hgrow5 kA.size (fun j hj => Nat.le_trans k3.size (own_ge2 (Hown0.out w3) j hj)); rw [Nat.zero_add, List.nil_append] at hown5)
        | (at_builtin; refine wpList_append_src _ rfl (Operand.tmp 41) (Operand.tmp 44) 22 rfl w3.heap.size 32 i32 (.agg #[.string ⟨#[]⟩, .int .i64 0, .string ⟨#[]⟩]) 3 40 Tryd.underlying22 hi hz0 hz1 hz2 rfl (by decide) v5 n (ncells L) rfl (hown5.alloc _) (some ⟨w5.heap.size, 0, none⟩) 1 1 (Array.toList #[.string ⟨#[47, 110, 101, 119]⟩, .int .i64 3, .string s]) rfl (src_block (e := 32) (World.alloc_heap_new w5 _) rfl (by simp [Value.oneCell'])) (by omega) (by omega) (by have h1 := hgrow5.size; simp at h1 ⊢; omega) ?_; intro v6 w6 hown6 hgrow6 _hat6; clear _hat6; have k6 : Below w.heap.size w w6 := (k5.alloc k5.size _).grown hgrow6 (by have := k5.size; simp; omega) (fun j hj => Nat.le_trans k3.size (own_ge2 hown5 j hj)); have hN6 := Hmk.out w6 v6 _ hown6)
        | (go_at_call 14; refine (HC.out _ _ hN6).mono ?_; rintro e w7 ⟨rfl, hb7⟩; have k11 := bchain k6 k6.size hb7)
        | (go_at_call 10; (with_reducible refine (HR2.out _ _ (hN6.below hb7)).mono ?_); rintro e w8 ⟨rfl, hb8⟩; have k12 := bchain k11 k11.size hb8))
      go_ret
      exact ⟨rfl, k11⟩
    · have heE : (e0 == 0) = false := by simpa using he
      clear hu Hplain h0 he
      go_enter Tryd.func6, Tryd.ntmps6
      go_wp2_with (first
        | (go_at_call 8; refine (A _).mono ?_; rintro e w1 ⟨rfl, hb1⟩)
        | (go_at_call 9; refine (Lt _ (HN.out.below hb1)).mono ?_; rintro e w2 ⟨rfl, rfl⟩)
        | (go_at_call 10; (with_reducible refine (R1 _ (HN.out.below hb1)).mono ?_); rintro e w3 ⟨rfl, hb3⟩; have k3 := bchain hb1 hb1.size hb3; have kA := k3.alloc k3.size (Obj.cells #[] 32))
        | (at_builtin; refine wpList_append_src _ rfl (Operand.tmp 39) (Operand.tmp 40) 22 rfl w3.heap.size 32 i32 (.agg #[.string ⟨#[]⟩, .int .i64 0, .string ⟨#[]⟩]) 3 40 Tryd.underlying22 hi hz0 hz1 hz2 rfl (by decide) _ 0 [] rfl (Hown0.out w3) An n c (ncells L) rfl (HSrc.out _ kA) (by omega) (by omega) (by simp) ?_; intro v5 w5 hown5 hgrow5 _hat5; clear _hat5; have k5 : Below w.heap.size w w5 := kA.grown hgrow5 kA.size (fun j hj => Nat.le_trans k3.size (own_ge2 (Hown0.out w3) j hj)); rw [Nat.zero_add, List.nil_append] at hown5)
        | (at_builtin; refine wpList_append_src _ rfl (Operand.tmp 41) (Operand.tmp 44) 22 rfl w3.heap.size 32 i32 (.agg #[.string ⟨#[]⟩, .int .i64 0, .string ⟨#[]⟩]) 3 40 Tryd.underlying22 hi hz0 hz1 hz2 rfl (by decide) v5 n (ncells L) rfl (hown5.alloc _) (some ⟨w5.heap.size, 0, none⟩) 1 1 (Array.toList #[.string ⟨#[47, 110, 101, 119]⟩, .int .i64 3, .string s]) rfl (src_block (e := 32) (World.alloc_heap_new w5 _) rfl (by simp [Value.oneCell'])) (by omega) (by omega) (by have h1 := hgrow5.size; simp at h1 ⊢; omega) ?_; intro v6 w6 hown6 hgrow6 _hat6; clear _hat6; have k6 : Below w.heap.size w w6 := (k5.alloc k5.size _).grown hgrow6 (by have := k5.size; simp; omega) (fun j hj => Nat.le_trans k3.size (own_ge2 hown5 j hj)); have hN6 := Hmk.out w6 v6 _ hown6)
        | (go_at_call 14; refine (HC.out _ _ hN6).mono ?_; rintro e w7 ⟨rfl, hb7⟩; have k11 := bchain k6 k6.size hb7)
        | (go_at_call 10; (with_reducible refine (HR2.out _ _ (hN6.below hb7)).mono ?_); rintro e w8 ⟨rfl, hb8⟩; have k12 := bchain k11 k11.size hb8))
      go_ret
      exact ⟨rfl, k11⟩
theorem law_link (nv : Value) (L : List Nod) (s : ByteArray) (w : World) (hN : NodesAt w nv L) (hS : ∀ x ∈ L, SizedN x) (hnil : ∀ n c, nv = .slice none n c → c = 0) : Calls Tryd.prog 6 #[nv, .string s] w (Ret (.bool true) w) := by
  by_cases h : lightB L = false ∨ (63 : Int) < (L.length : Int) ∨ (256 : Int) < (s.size : Int)
  · exact link_early nv L s w hN h
  · simp only [not_or, Bool.not_eq_false] at h
    exact link_late nv L s w hN hS h.1 (by omega) (by omega)
end Go.Proofs.YtnjpodbefcfdhaaDoor
