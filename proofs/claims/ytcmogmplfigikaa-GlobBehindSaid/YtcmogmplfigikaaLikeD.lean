/- The search's closure: it answers whether what is left is alike, and notes what is not. Conditions: the world holds what the closure needs; nothing is long. -/
import Derived.Test.YtcmogmplfigikaaMatchP
import Derived.Deep.RegionHeld3
import Derived.BigRegion
import Derived.IntWalk
namespace Go.Proofs.Ytcmogmplfigikaa
open Go.RowKit
attribute [local go_sem ↓] Go.wp_at_zero Go.wp_at_succ
set_option linter.unusedVariables false
set_option linter.unusedSimpArgs false

section
variable (pa pb pn pl gn : Nat) (A B : Option Addr) (ca cb : Nat) (a b : List (List UInt8))
def LikeGoal (m : Nat) : Prop :=
  ∀ (i k : Nat) (f : Nat → Bool) (W : World), (a.length - i) + (b.length - k) ≤ m → i ≤ a.length → k ≤ b.length → LikeAt W pa pb pn pl gn A B ca cb a b f →
    Calls Try.prog 21 #[.int .i64 i, .int .i64 k, .pointer (some ⟨pa, 0, none⟩), .pointer (some ⟨pb, 0, none⟩), .pointer (some ⟨pn, 0, none⟩), .pointer (some ⟨pl, 0, none⟩)] W (LikePost pa pb pn pl gn A B ca cb a b (tabM a b i k) W)

set_option maxRecDepth 100000 in
set_option maxHeartbeats 4000000 in
theorem like_end (k : Nat) (f : Nat → Bool) (W : World) (hk : k ≤ b.length) (hbl : b.length ≤ 257) (h : LikeAt W pa pb pn pl gn A B ca cb a b f) :
    Calls Try.prog 21 #[.int .i64 (a.length : Int), .int .i64 k, .pointer (some ⟨pa, 0, none⟩), .pointer (some ⟨pb, 0, none⟩), .pointer (some ⟨pn, 0, none⟩), .pointer (some ⟨pl, 0, none⟩)] W (LikePost pa pb pn pl gn A B ca cb a b (tabM a b a.length k) W) := by
  have c1 := h.cella
  have c2 := h.cellb
  have H := Lib.hid h
  rw [tabM_last _ _ _ hk]
  clear h
  by_cases hkb : k = b.length
  · rw [if_pos hkb]
    have hd : ((k : Int) == (b.length : Int)) = true := by simp; omega
    clear hkb
    go_enter Try.func21, Try.ntmps21
    go_wp2
    go_ret
    exact ⟨rfl, f, H.out, Upto.refl _ _⟩
  · rw [if_neg hkb]
    have hd : ((k : Int) == (b.length : Int)) = false := by simp; omega
    clear hkb
    go_enter Try.func21, Try.ntmps21
    go_wp2
    go_ret
    exact ⟨rfl, f, H.out, Upto.refl _ _⟩

set_option maxRecDepth 100000 in
set_option maxHeartbeats 4000000 in
theorem like_noted (i k : Nat) (f : Nat → Bool) (W : World) (hi : i < a.length) (hk : k ≤ b.length) (hal : a.length ≤ 257) (hbl : b.length ≤ 257) (h : LikeAt W pa pb pn pl gn A B ca cb a b f) (hf : f (i * (b.length + 1) + k) = true) :
    Calls Try.prog 21 #[.int .i64 i, .int .i64 k, .pointer (some ⟨pa, 0, none⟩), .pointer (some ⟨pb, 0, none⟩), .pointer (some ⟨pn, 0, none⟩), .pointer (some ⟨pl, 0, none⟩)] W (LikePost pa pb pn pl gn A B ca cb a b (tabM a b i k) W) := by
  rw [h.memo i k hk hf]
  have c1 := h.cella
  have c2 := h.cellb
  have c3 := h.celln
  have c4 := h.row.cell (k := i * (b.length + 1) + k) (idx_lt (by omega) hk)
  rw [hf] at c4
  have hlt := idx_lt (m := a.length) (n := b.length) (i := i) (k := k) (by omega) hk
  have hM : i * (b.length + 1) ≤ 257 * 258 := Nat.mul_le_mul (by omega) (by omega)
  have hML : (a.length + 1) * (b.length + 1) ≤ 258 * 258 := Nat.mul_le_mul (by omega) (by omega)
  have hI : ((i : Int) * ((b.length : Int) + 1)) = ((i * (b.length + 1) : Nat) : Int) := by go_num
  obtain ⟨N, hN⟩ : ∃ N, (a.length + 1) * (b.length + 1) = N := ⟨_, rfl⟩
  obtain ⟨M, hMe⟩ : ∃ M, i * (b.length + 1) = M := ⟨_, rfl⟩
  rw [hN] at hlt hML c3
  rw [hMe] at c4 hlt hM hI
  have hd : ((i : Int) == (a.length : Int)) = false := by simp; omega
  have H := Lib.hid h
  have HN := Lib.hid hN
  have HM := Lib.hid hMe
  clear h hf hN hMe
  go_enter Try.func21, Try.ntmps21
  go_wp2
  go_ret
  exact ⟨rfl, f, H.out, Upto.refl _ _⟩

set_option maxRecDepth 100000 in
set_option maxHeartbeats 8000000 in
theorem like_dd_yes (i k : Nat) (f : Nat → Bool) (W : World) (hi : i < a.length) (hk : k ≤ b.length) (hal : a.length ≤ 257) (hbl : b.length ≤ 257) (h : LikeAt W pa pb pn pl gn A B ca cb a b f) (hf : f (i * (b.length + 1) + k) = false) (p : List UInt8) (hp : a[i]? = some p) (hdd : p = [42, 42]) (C1 : ∀ f W, LikeAt W pa pb pn pl gn A B ca cb a b f → Calls Try.prog 21 #[.int .i64 ((i : Int) + 1), .int .i64 k, .pointer (some ⟨pa, 0, none⟩), .pointer (some ⟨pb, 0, none⟩), .pointer (some ⟨pn, 0, none⟩), .pointer (some ⟨pl, 0, none⟩)] W (LikePost pa pb pn pl gn A B ca cb a b true W)) (hv : tabM a b i k = true) :
    Calls Try.prog 21 #[.int .i64 i, .int .i64 k, .pointer (some ⟨pa, 0, none⟩), .pointer (some ⟨pb, 0, none⟩), .pointer (some ⟨pn, 0, none⟩), .pointer (some ⟨pl, 0, none⟩)] W (LikePost pa pb pn pl gn A B ca cb a b (tabM a b i k) W) := by
  have c1 := h.cella
  have c2 := h.cellb
  have c3 := h.celln
  have c5 := h.celll
  have c4 := h.row.cell (k := i * (b.length + 1) + k) (idx_lt (by omega) hk)
  rw [hf] at c4
  obtain ⟨ba, oa, hA, hban, cA⟩ := h.strsa i p hp
  have hlt := idx_lt (m := a.length) (n := b.length) (i := i) (k := k) (by omega) hk
  have hM : i * (b.length + 1) ≤ 257 * 258 := Nat.mul_le_mul (by omega) (by omega)
  have hML : (a.length + 1) * (b.length + 1) ≤ 258 * 258 := Nat.mul_le_mul (by omega) (by omega)
  have hI : ((i : Int) * ((b.length : Int) + 1)) = ((i * (b.length + 1) : Nat) : Int) := by go_num
  have hd : ((i : Int) == (a.length : Int)) = false := by simp; omega
  have tt : (strL p).toList = p := ByteArray.toList_eq _
  obtain ⟨t, ht⟩ : ∃ t, strL p = t := ⟨_, rfl⟩
  rw [ht] at cA tt
  have Ht := Lib.hid ht
  have H := Lib.hid h
  have hi' : (i : Int) < (a.length : Int) := by omega
  have Hk := Lib.hid hk
  have Hp := Lib.hid hp
  subst hA
  have hE : (p == [42, 42]) = true := by simpa using hdd
  have Hv := Lib.hid hv
  have C := C1 f W h
  clear C1 hv hdd
  obtain ⟨N, hN⟩ : ∃ N, (a.length + 1) * (b.length + 1) = N := ⟨_, rfl⟩
  obtain ⟨M, hMe⟩ : ∃ M, i * (b.length + 1) = M := ⟨_, rfl⟩
  have HN := Lib.hid hN
  have HM := Lib.hid hMe
  rw [hN] at hlt hML c3
  rw [hMe] at c4 hlt hM hI
  clear h hf hN hMe ht hp
  go_enter Try.func21, Try.ntmps21
  go_wp2_with (go_at_call 21; ((with_reducible refine (C).mono ?_); rintro e W1 ⟨rfl, Fx, h1, U1⟩; have x1 := h1.cella; have x2 := h1.cellb; have x3 : W1.cell? ⟨pn, 0, none⟩ = some (.slice (some ⟨gn, 0, none⟩) N N) := (by rw [← HN.out]; exact h1.celln); have x5 := h1.celll; have x4 : W1.cell? ⟨gn, M + k, none⟩ = some (.bool (Fx (M + k))) := h1.row.cell (k := M + k) (by rw [HN.out]; exact hlt); have x6 : W1.frozen? ⟨gn, M + k, none⟩ = false := h1.row.frozen _; have Hx := Lib.hid h1; clear h1))
  go_ret
  have hn := (LikeAt.note Hx.out (i := i) (k := k) Hk.out (x := false) (by rw [Hv.out] <;> rfl))
  rw [HM.out] at hn
  exact ⟨by rw [Hv.out]; rfl, _, hn, U1.setCell (p := ⟨gn, M + k, none⟩) (.inl rfl) _⟩


set_option maxRecDepth 100000 in
set_option maxHeartbeats 8000000 in
theorem like_dd_end (i k : Nat) (f : Nat → Bool) (W : World) (hi : i < a.length) (hk : k ≤ b.length) (hal : a.length ≤ 257) (hbl : b.length ≤ 257) (h : LikeAt W pa pb pn pl gn A B ca cb a b f) (hf : f (i * (b.length + 1) + k) = false) (p : List UInt8) (hp : a[i]? = some p) (hdd : p = [42, 42]) (hkb : (b.length : Int) ≤ (k : Int)) (C1 : ∀ f W, LikeAt W pa pb pn pl gn A B ca cb a b f → Calls Try.prog 21 #[.int .i64 ((i : Int) + 1), .int .i64 k, .pointer (some ⟨pa, 0, none⟩), .pointer (some ⟨pb, 0, none⟩), .pointer (some ⟨pn, 0, none⟩), .pointer (some ⟨pl, 0, none⟩)] W (LikePost pa pb pn pl gn A B ca cb a b false W)) (hv : tabM a b i k = false) :
    Calls Try.prog 21 #[.int .i64 i, .int .i64 k, .pointer (some ⟨pa, 0, none⟩), .pointer (some ⟨pb, 0, none⟩), .pointer (some ⟨pn, 0, none⟩), .pointer (some ⟨pl, 0, none⟩)] W (LikePost pa pb pn pl gn A B ca cb a b (tabM a b i k) W) := by
  have c1 := h.cella
  have c2 := h.cellb
  have c3 := h.celln
  have c5 := h.celll
  have c4 := h.row.cell (k := i * (b.length + 1) + k) (idx_lt (by omega) hk)
  rw [hf] at c4
  obtain ⟨ba, oa, hA, hban, cA⟩ := h.strsa i p hp
  have hlt := idx_lt (m := a.length) (n := b.length) (i := i) (k := k) (by omega) hk
  have hM : i * (b.length + 1) ≤ 257 * 258 := Nat.mul_le_mul (by omega) (by omega)
  have hML : (a.length + 1) * (b.length + 1) ≤ 258 * 258 := Nat.mul_le_mul (by omega) (by omega)
  have hI : ((i : Int) * ((b.length : Int) + 1)) = ((i * (b.length + 1) : Nat) : Int) := by go_num
  have hd : ((i : Int) == (a.length : Int)) = false := by simp; omega
  have tt : (strL p).toList = p := ByteArray.toList_eq _
  obtain ⟨t, ht⟩ : ∃ t, strL p = t := ⟨_, rfl⟩
  rw [ht] at cA tt
  have Ht := Lib.hid ht
  have H := Lib.hid h
  have hi' : (i : Int) < (a.length : Int) := by omega
  have Hk := Lib.hid hk
  have Hp := Lib.hid hp
  subst hA
  have hE : (p == [42, 42]) = true := by simpa using hdd
  have Hv := Lib.hid hv
  have C := C1 f W h
  clear C1 hv hdd
  obtain ⟨N, hN⟩ : ∃ N, (a.length + 1) * (b.length + 1) = N := ⟨_, rfl⟩
  obtain ⟨M, hMe⟩ : ∃ M, i * (b.length + 1) = M := ⟨_, rfl⟩
  have HN := Lib.hid hN
  have HM := Lib.hid hMe
  rw [hN] at hlt hML c3
  rw [hMe] at c4 hlt hM hI
  clear h hf hN hMe ht hp
  go_enter Try.func21, Try.ntmps21
  go_wp2_with (go_at_call 21; ((with_reducible refine (C).mono ?_); rintro e W1 ⟨rfl, Fx, h1, U1⟩; have x1 := h1.cella; have x2 := h1.cellb; have x3 : W1.cell? ⟨pn, 0, none⟩ = some (.slice (some ⟨gn, 0, none⟩) N N) := (by rw [← HN.out]; exact h1.celln); have x5 := h1.celll; have x4 : W1.cell? ⟨gn, M + k, none⟩ = some (.bool (Fx (M + k))) := h1.row.cell (k := M + k) (by rw [HN.out]; exact hlt); have x6 : W1.frozen? ⟨gn, M + k, none⟩ = false := h1.row.frozen _; have Hx := Lib.hid h1; clear h1))
  go_ret
  have hn := (LikeAt.note Hx.out (i := i) (k := k) Hk.out (x := true) (by rw [Hv.out] <;> rfl))
  rw [HM.out] at hn
  exact ⟨by rw [Hv.out]; rfl, _, hn, U1.setCell (p := ⟨gn, M + k, none⟩) (.inl rfl) _⟩


set_option maxRecDepth 100000 in
set_option maxHeartbeats 8000000 in
theorem like_dd_more (i k : Nat) (f : Nat → Bool) (W : World) (hi : i < a.length) (hk : k ≤ b.length) (hal : a.length ≤ 257) (hbl : b.length ≤ 257) (h : LikeAt W pa pb pn pl gn A B ca cb a b f) (hf : f (i * (b.length + 1) + k) = false) (p : List UInt8) (hp : a[i]? = some p) (hdd : p = [42, 42]) (hkb : (k : Int) < (b.length : Int)) (y : Bool) (C1 : ∀ f W, LikeAt W pa pb pn pl gn A B ca cb a b f → Calls Try.prog 21 #[.int .i64 ((i : Int) + 1), .int .i64 k, .pointer (some ⟨pa, 0, none⟩), .pointer (some ⟨pb, 0, none⟩), .pointer (some ⟨pn, 0, none⟩), .pointer (some ⟨pl, 0, none⟩)] W (LikePost pa pb pn pl gn A B ca cb a b false W)) (C2 : ∀ f W, LikeAt W pa pb pn pl gn A B ca cb a b f → Calls Try.prog 21 #[.int .i64 (i : Int), .int .i64 ((k : Int) + 1), .pointer (some ⟨pa, 0, none⟩), .pointer (some ⟨pb, 0, none⟩), .pointer (some ⟨pn, 0, none⟩), .pointer (some ⟨pl, 0, none⟩)] W (LikePost pa pb pn pl gn A B ca cb a b y W)) (hv : tabM a b i k = y) :
    Calls Try.prog 21 #[.int .i64 i, .int .i64 k, .pointer (some ⟨pa, 0, none⟩), .pointer (some ⟨pb, 0, none⟩), .pointer (some ⟨pn, 0, none⟩), .pointer (some ⟨pl, 0, none⟩)] W (LikePost pa pb pn pl gn A B ca cb a b (tabM a b i k) W) := by
  have c1 := h.cella
  have c2 := h.cellb
  have c3 := h.celln
  have c5 := h.celll
  have c4 := h.row.cell (k := i * (b.length + 1) + k) (idx_lt (by omega) hk)
  rw [hf] at c4
  obtain ⟨ba, oa, hA, hban, cA⟩ := h.strsa i p hp
  have hlt := idx_lt (m := a.length) (n := b.length) (i := i) (k := k) (by omega) hk
  have hM : i * (b.length + 1) ≤ 257 * 258 := Nat.mul_le_mul (by omega) (by omega)
  have hML : (a.length + 1) * (b.length + 1) ≤ 258 * 258 := Nat.mul_le_mul (by omega) (by omega)
  have hI : ((i : Int) * ((b.length : Int) + 1)) = ((i * (b.length + 1) : Nat) : Int) := by go_num
  have hd : ((i : Int) == (a.length : Int)) = false := by simp; omega
  have tt : (strL p).toList = p := ByteArray.toList_eq _
  obtain ⟨t, ht⟩ : ∃ t, strL p = t := ⟨_, rfl⟩
  rw [ht] at cA tt
  have Ht := Lib.hid ht
  have H := Lib.hid h
  have hi' : (i : Int) < (a.length : Int) := by omega
  have Hk := Lib.hid hk
  have Hp := Lib.hid hp
  subst hA
  have hE : (p == [42, 42]) = true := by simpa using hdd
  have Hv := Lib.hid hv
  have C := C1 f W h
  have HC2 := Lib.hid C2
  clear C1 C2 hv hdd
  obtain ⟨N, hN⟩ : ∃ N, (a.length + 1) * (b.length + 1) = N := ⟨_, rfl⟩
  obtain ⟨M, hMe⟩ : ∃ M, i * (b.length + 1) = M := ⟨_, rfl⟩
  have HN := Lib.hid hN
  have HM := Lib.hid hMe
  rw [hN] at hlt hML c3
  rw [hMe] at c4 hlt hM hI
  clear h hf hN hMe ht hp
  go_enter Try.func21, Try.ntmps21
  go_wp2_with (go_at_call 21; first | ((with_reducible refine (HC2.out _ _ Hx.out).mono ?_); rintro e W2 ⟨rfl, Fy, h2, U2⟩; have y1 := h2.cella; have y2 := h2.cellb; have y3 : W2.cell? ⟨pn, 0, none⟩ = some (.slice (some ⟨gn, 0, none⟩) N N) := (by rw [← HN.out]; exact h2.celln); have y5 := h2.celll; have y4 : W2.cell? ⟨gn, M + k, none⟩ = some (.bool (Fy (M + k))) := h2.row.cell (k := M + k) (by rw [HN.out]; exact hlt); have y6 : W2.frozen? ⟨gn, M + k, none⟩ = false := h2.row.frozen _; have Hy := Lib.hid h2; clear h2) | ((with_reducible refine (C).mono ?_); rintro e W1 ⟨rfl, Fx, h1, U1⟩; have x1 := h1.cella; have x2 := h1.cellb; have x3 : W1.cell? ⟨pn, 0, none⟩ = some (.slice (some ⟨gn, 0, none⟩) N N) := (by rw [← HN.out]; exact h1.celln); have x5 := h1.celll; have x4 : W1.cell? ⟨gn, M + k, none⟩ = some (.bool (Fx (M + k))) := h1.row.cell (k := M + k) (by rw [HN.out]; exact hlt); have x6 : W1.frozen? ⟨gn, M + k, none⟩ = false := h1.row.frozen _; have Hx := Lib.hid h1; clear h1))
  go_ret
  have hn := (LikeAt.note Hy.out (i := i) (k := k) Hk.out (x := !y) (by rw [Hv.out] <;> rfl))
  rw [HM.out] at hn
  exact ⟨by rw [Hv.out]; rfl, _, hn, (U1.trans U2 (fun _ h => .inl h)).setCell (p := ⟨gn, M + k, none⟩) (.inl rfl) _⟩


set_option maxRecDepth 100000 in
set_option maxHeartbeats 8000000 in
theorem like_nm_end (i k : Nat) (f : Nat → Bool) (W : World) (hi : i < a.length) (hk : k ≤ b.length) (hal : a.length ≤ 257) (hbl : b.length ≤ 257) (h : LikeAt W pa pb pn pl gn A B ca cb a b f) (hf : f (i * (b.length + 1) + k) = false) (p : List UInt8) (hp : a[i]? = some p) (hdd : p ≠ [42, 42]) (hkb : (b.length : Int) ≤ (k : Int)) (hv : tabM a b i k = false) :
    Calls Try.prog 21 #[.int .i64 i, .int .i64 k, .pointer (some ⟨pa, 0, none⟩), .pointer (some ⟨pb, 0, none⟩), .pointer (some ⟨pn, 0, none⟩), .pointer (some ⟨pl, 0, none⟩)] W (LikePost pa pb pn pl gn A B ca cb a b (tabM a b i k) W) := by
  have c1 := h.cella
  have c2 := h.cellb
  have c3 := h.celln
  have c5 := h.celll
  have c4 := h.row.cell (k := i * (b.length + 1) + k) (idx_lt (by omega) hk)
  rw [hf] at c4
  obtain ⟨ba, oa, hA, hban, cA⟩ := h.strsa i p hp
  have hlt := idx_lt (m := a.length) (n := b.length) (i := i) (k := k) (by omega) hk
  have hM : i * (b.length + 1) ≤ 257 * 258 := Nat.mul_le_mul (by omega) (by omega)
  have hML : (a.length + 1) * (b.length + 1) ≤ 258 * 258 := Nat.mul_le_mul (by omega) (by omega)
  have hI : ((i : Int) * ((b.length : Int) + 1)) = ((i * (b.length + 1) : Nat) : Int) := by go_num
  have hd : ((i : Int) == (a.length : Int)) = false := by simp; omega
  have tt : (strL p).toList = p := ByteArray.toList_eq _
  obtain ⟨t, ht⟩ : ∃ t, strL p = t := ⟨_, rfl⟩
  rw [ht] at cA tt
  have Ht := Lib.hid ht
  have H := Lib.hid h
  have hi' : (i : Int) < (a.length : Int) := by omega
  have Hk := Lib.hid hk
  have Hp := Lib.hid hp
  subst hA
  have hE : (p == [42, 42]) = false := by simpa using hdd
  have Hv := Lib.hid hv
  have c6 := h.row.frozen (i * (b.length + 1) + k)
  have hdc : decide ((k : Int) < (b.length : Int)) = false := by simp; omega
  have hdn : decide (k < b.length) = false := by simp; omega
  clear hv hdd
  obtain ⟨N, hN⟩ : ∃ N, (a.length + 1) * (b.length + 1) = N := ⟨_, rfl⟩
  obtain ⟨M, hMe⟩ : ∃ M, i * (b.length + 1) = M := ⟨_, rfl⟩
  have HN := Lib.hid hN
  have HM := Lib.hid hMe
  rw [hN] at hlt hML c3
  rw [hMe] at c4 c6 hlt hM hI
  clear h hf hN hMe ht hp
  go_enter Try.func21, Try.ntmps21
  go_wp2
  go_quiet (fail)
  go_wp2
  go_ret
  have hn := (LikeAt.note (H.out.drewN nq) (i := i) (k := k) Hk.out (x := true) (by rw [Hv.out] <;> rfl))
  rw [HM.out] at hn
  exact ⟨by rw [Hv.out]; rfl, _, hn, ((Upto.refl (fun x => x = gn) W).drewN nq).setCell (p := ⟨gn, M + k, none⟩) (.inl rfl) _⟩


set_option maxRecDepth 100000 in
set_option maxHeartbeats 8000000 in
theorem like_nm_no (i k : Nat) (f : Nat → Bool) (W : World) (hi : i < a.length) (hk : k ≤ b.length) (hal : a.length ≤ 257) (hbl : b.length ≤ 257) (h : LikeAt W pa pb pn pl gn A B ca cb a b f) (hf : f (i * (b.length + 1) + k) = false) (p : List UInt8) (hp : a[i]? = some p) (hdd : p ≠ [42, 42]) (hkb : (k : Int) < (b.length : Int)) (q : List UInt8) (hq : b[k]? = some q) (hpl : p.length ≤ 1000) (hql : q.length ≤ 1000) (hnm : nameM p q = false) (hv : tabM a b i k = false) :
    Calls Try.prog 21 #[.int .i64 i, .int .i64 k, .pointer (some ⟨pa, 0, none⟩), .pointer (some ⟨pb, 0, none⟩), .pointer (some ⟨pn, 0, none⟩), .pointer (some ⟨pl, 0, none⟩)] W (LikePost pa pb pn pl gn A B ca cb a b (tabM a b i k) W) := by
  have c1 := h.cella
  have c2 := h.cellb
  have c3 := h.celln
  have c5 := h.celll
  have c4 := h.row.cell (k := i * (b.length + 1) + k) (idx_lt (by omega) hk)
  rw [hf] at c4
  obtain ⟨ba, oa, hA, hban, cA⟩ := h.strsa i p hp
  have hlt := idx_lt (m := a.length) (n := b.length) (i := i) (k := k) (by omega) hk
  have hM : i * (b.length + 1) ≤ 257 * 258 := Nat.mul_le_mul (by omega) (by omega)
  have hML : (a.length + 1) * (b.length + 1) ≤ 258 * 258 := Nat.mul_le_mul (by omega) (by omega)
  have hI : ((i : Int) * ((b.length : Int) + 1)) = ((i * (b.length + 1) : Nat) : Int) := by go_num
  have hd : ((i : Int) == (a.length : Int)) = false := by simp; omega
  have tt : (strL p).toList = p := ByteArray.toList_eq _
  obtain ⟨t, ht⟩ : ∃ t, strL p = t := ⟨_, rfl⟩
  rw [ht] at cA tt
  have Ht := Lib.hid ht
  have H := Lib.hid h
  have hi' : (i : Int) < (a.length : Int) := by omega
  have Hk := Lib.hid hk
  have Hp := Lib.hid hp
  subst hA
  have hE : (p == [42, 42]) = false := by simpa using hdd
  have Hv := Lib.hid hv
  have c6 := h.row.frozen (i * (b.length + 1) + k)
  obtain ⟨bb, ob, hB, hbbn, cB⟩ := h.strsb k q hq
  have tu : (strL q).toList = q := ByteArray.toList_eq _
  have NA := fun W => name_any (strL p) (strL q) (by rw [strL_size]; exact hpl) (by rw [strL_size]; exact hql) W
  rw [strL_data, strL_data, hnm, ht] at NA
  obtain ⟨u, hu⟩ : ∃ u, strL q = u := ⟨_, rfl⟩
  rw [hu] at cB tu NA
  have Hu := Lib.hid hu
  have Hq := Lib.hid hq
  subst hB
  have hdc : decide ((k : Int) < (b.length : Int)) = true := by simp; omega
  have hdn : decide (k < b.length) = true := by simp; omega
  clear hv hdd hu hq hnm hpl hql
  obtain ⟨N, hN⟩ : ∃ N, (a.length + 1) * (b.length + 1) = N := ⟨_, rfl⟩
  obtain ⟨M, hMe⟩ : ∃ M, i * (b.length + 1) = M := ⟨_, rfl⟩
  have HN := Lib.hid hN
  have HM := Lib.hid hMe
  rw [hN] at hlt hML c3
  rw [hMe] at c4 c6 hlt hM hI
  clear h hf hN hMe ht hp
  go_enter Try.func21, Try.ntmps21
  go_wp2
  go_quiet ((go_at_call 11; exact Calls.quiet_of (NA _)))
  go_wp2
  go_ret
  have hn := (LikeAt.note (H.out.drewN nq) (i := i) (k := k) Hk.out (x := true) (by rw [Hv.out] <;> rfl))
  rw [HM.out] at hn
  exact ⟨by rw [Hv.out]; rfl, _, hn, ((Upto.refl (fun x => x = gn) W).drewN nq).setCell (p := ⟨gn, M + k, none⟩) (.inl rfl) _⟩


set_option maxRecDepth 100000 in
set_option maxHeartbeats 8000000 in
theorem like_nm_yes (i k : Nat) (f : Nat → Bool) (W : World) (hi : i < a.length) (hk : k ≤ b.length) (hal : a.length ≤ 257) (hbl : b.length ≤ 257) (h : LikeAt W pa pb pn pl gn A B ca cb a b f) (hf : f (i * (b.length + 1) + k) = false) (p : List UInt8) (hp : a[i]? = some p) (hdd : p ≠ [42, 42]) (hkb : (k : Int) < (b.length : Int)) (q : List UInt8) (hq : b[k]? = some q) (hpl : p.length ≤ 1000) (hql : q.length ≤ 1000) (y : Bool) (hnm : nameM p q = true) (C1 : ∀ f W, LikeAt W pa pb pn pl gn A B ca cb a b f → Calls Try.prog 21 #[.int .i64 ((i : Int) + 1), .int .i64 ((k : Int) + 1), .pointer (some ⟨pa, 0, none⟩), .pointer (some ⟨pb, 0, none⟩), .pointer (some ⟨pn, 0, none⟩), .pointer (some ⟨pl, 0, none⟩)] W (LikePost pa pb pn pl gn A B ca cb a b y W)) (hv : tabM a b i k = y) :
    Calls Try.prog 21 #[.int .i64 i, .int .i64 k, .pointer (some ⟨pa, 0, none⟩), .pointer (some ⟨pb, 0, none⟩), .pointer (some ⟨pn, 0, none⟩), .pointer (some ⟨pl, 0, none⟩)] W (LikePost pa pb pn pl gn A B ca cb a b (tabM a b i k) W) := by
  have c1 := h.cella
  have c2 := h.cellb
  have c3 := h.celln
  have c5 := h.celll
  have c4 := h.row.cell (k := i * (b.length + 1) + k) (idx_lt (by omega) hk)
  rw [hf] at c4
  obtain ⟨ba, oa, hA, hban, cA⟩ := h.strsa i p hp
  have hlt := idx_lt (m := a.length) (n := b.length) (i := i) (k := k) (by omega) hk
  have hM : i * (b.length + 1) ≤ 257 * 258 := Nat.mul_le_mul (by omega) (by omega)
  have hML : (a.length + 1) * (b.length + 1) ≤ 258 * 258 := Nat.mul_le_mul (by omega) (by omega)
  have hI : ((i : Int) * ((b.length : Int) + 1)) = ((i * (b.length + 1) : Nat) : Int) := by go_num
  have hd : ((i : Int) == (a.length : Int)) = false := by simp; omega
  have tt : (strL p).toList = p := ByteArray.toList_eq _
  obtain ⟨t, ht⟩ : ∃ t, strL p = t := ⟨_, rfl⟩
  rw [ht] at cA tt
  have Ht := Lib.hid ht
  have H := Lib.hid h
  have hi' : (i : Int) < (a.length : Int) := by omega
  have Hk := Lib.hid hk
  have Hp := Lib.hid hp
  subst hA
  have hE : (p == [42, 42]) = false := by simpa using hdd
  have Hv := Lib.hid hv
  have c6 := h.row.frozen (i * (b.length + 1) + k)
  obtain ⟨bb, ob, hB, hbbn, cB⟩ := h.strsb k q hq
  have tu : (strL q).toList = q := ByteArray.toList_eq _
  have NA := fun W => name_any (strL p) (strL q) (by rw [strL_size]; exact hpl) (by rw [strL_size]; exact hql) W
  rw [strL_data, strL_data, hnm, ht] at NA
  obtain ⟨u, hu⟩ : ∃ u, strL q = u := ⟨_, rfl⟩
  rw [hu] at cB tu NA
  have Hu := Lib.hid hu
  have Hq := Lib.hid hq
  subst hB
  have hdc : decide ((k : Int) < (b.length : Int)) = true := by simp; omega
  have hdn : decide (k < b.length) = true := by simp; omega
  clear hv hdd hu hq hnm hpl hql
  have HC := Lib.hid C1
  clear C1
  obtain ⟨N, hN⟩ : ∃ N, (a.length + 1) * (b.length + 1) = N := ⟨_, rfl⟩
  obtain ⟨M, hMe⟩ : ∃ M, i * (b.length + 1) = M := ⟨_, rfl⟩
  have HN := Lib.hid hN
  have HM := Lib.hid hMe
  rw [hN] at hlt hML c3
  rw [hMe] at c4 c6 hlt hM hI
  clear h hf hN hMe ht hp
  have hw1 : IntKind.i64.wrap ((i : Int) + 1) = (i : Int) + 1 := IntWalk.i64_in _ (by omega)
  have hw2 : IntKind.i64.wrap ((k : Int) + 1) = (k : Int) + 1 := IntWalk.i64_in _ (by omega)
  go_enter Try.func21, Try.ntmps21
  go_wp2
  go_region_held3 (fun w' => w'.cell? ⟨pa, 0, none⟩ = some (.slice (some ⟨ba, oa, none⟩) a.length ca) ∧ w'.cell? ⟨pb, 0, none⟩ = some (.slice (some ⟨bb, ob, none⟩) b.length cb) ∧ w'.cell? ⟨pl, 0, none⟩ = some (.func (.func 21) #[] #[.pointer (some ⟨pa, 0, none⟩), .pointer (some ⟨pb, 0, none⟩), .pointer (some ⟨pn, 0, none⟩), .pointer (some ⟨pl, 0, none⟩)]) ∧ w'.cell? ⟨ba, oa + i, none⟩ = some (.string t) ∧ w'.cell? ⟨bb, ob + k, none⟩ = some (.string u))
    (first | exact ⟨Hx.out.cella, Hx.out.cellb, Hx.out.celll, (by rw [← Ht.out]; exact Hx.out.strsa.at Hp.out), (by rw [← Hu.out]; exact Hx.out.strsb.at Hq.out)⟩ | (refine ⟨?_, ?_, ?_, ?_, ?_⟩ <;> first | assumption | go_keep))
    (first | (go_at_call 11; (with_reducible refine (NA _).mono ?_); rintro e w' ⟨rfl, m, rfl⟩) | (go_at_call 21; (with_reducible refine (HC.out f _ (H.out.drewN _)).mono ?_); rintro e W1 ⟨rfl, Fx, h1, U1⟩; have x1 := h1.cella; have x2 := h1.cellb; have x3 : W1.cell? ⟨pn, 0, none⟩ = some (.slice (some ⟨gn, 0, none⟩) N N) := (by rw [← HN.out]; exact h1.celln); have x5 := h1.celll; have x4 : W1.cell? ⟨gn, M + k, none⟩ = some (.bool (Fx (M + k))) := h1.row.cell (k := M + k) (by rw [HN.out]; exact hlt); have x6 : W1.frozen? ⟨gn, M + k, none⟩ = false := h1.row.frozen _; have Hx := Lib.hid h1; clear h1))
  clear hw1 hw2
  go_wp2
  go_ret
  have hn := (LikeAt.note Hx.out (i := i) (k := k) Hk.out (x := !y) (by rw [Hv.out] <;> rfl))
  rw [HM.out] at hn
  exact ⟨by rw [Hv.out]; rfl, _, hn, (((Upto.refl (fun x => x = gn) W).drewN (1 + m)).trans U1 (fun _ h => .inl h)).setCell (p := ⟨gn, M + k, none⟩) (.inl rfl) _⟩

theorem like_any (hal : a.length ≤ 257) (hbl : b.length ≤ 257) (hae : ∀ p ∈ a, p.length ≤ 1000) (hbe : ∀ q ∈ b, q.length ≤ 1000) : ∀ m, LikeGoal pa pb pn pl gn A B ca cb a b m := by
  intro m
  induction m with
  | zero =>
    intro i k f W hm hi hk h
    obtain rfl : i = a.length := by omega
    exact like_end pa pb pn pl gn A B ca cb a b k f W hk hbl h
  | succ m IH =>
    intro i k f W hm hi hk h
    by_cases hia : i = a.length
    · subst hia
      exact like_end pa pb pn pl gn A B ca cb a b k f W hk hbl h
    · have hil : i < a.length := by omega
      cases hf : f (i * (b.length + 1) + k) with
      | true => exact like_noted pa pb pn pl gn A B ca cb a b i k f W hil hk hal hbl h hf
      | false =>
        obtain ⟨p, hp⟩ : ∃ p, a[i]? = some p := ⟨_, List.getElem?_eq_getElem hil⟩
        have e1 : ((i : Int) + 1) = ((i + 1 : Nat) : Int) := by omega
        have e2 : ((k : Int) + 1) = ((k + 1 : Nat) : Int) := by omega
        by_cases hdd : p = [42, 42]
        · have C1 := fun f W h => IH (i + 1) k f W (by omega) (by omega) hk h
          simp only [← e1] at C1
          have hp2 := hp
          rw [hdd] at hp2
          by_cases hkb : k < b.length
          · have hv := tabM_star hp2 hkb
            cases hx : tabM a b (i + 1) k with
            | true =>
              simp only [hx] at C1
              exact like_dd_yes pa pb pn pl gn A B ca cb a b i k f W hil hk hal hbl h hf p hp hdd C1 (by rw [hv, hx]; rfl)
            | false =>
              simp only [hx] at C1
              have C2 := fun f W h => IH i (k + 1) f W (by omega) hi (by omega) h
              simp only [← e2] at C2
              exact like_dd_more pa pb pn pl gn A B ca cb a b i k f W hil hk hal hbl h hf p hp hdd (by omega) _ C1 C2 (by rw [hv, hx]; rfl)
          · obtain rfl : k = b.length := by omega
            have hv := tabM_star_end (b := b) hp2
            cases hx : tabM a b (i + 1) b.length with
            | true =>
              simp only [hx] at C1
              exact like_dd_yes pa pb pn pl gn A B ca cb a b i b.length f W hil hk hal hbl h hf p hp hdd C1 (by rw [hv, hx])
            | false =>
              simp only [hx] at C1
              exact like_dd_end pa pb pn pl gn A B ca cb a b i b.length f W hil hk hal hbl h hf p hp hdd (by omega) C1 (by rw [hv, hx])
        · by_cases hkb : k < b.length
          · obtain ⟨q, hq⟩ : ∃ q, b[k]? = some q := ⟨_, List.getElem?_eq_getElem hkb⟩
            have hv := tabM_name hp hdd hq
            have hpl := hae p (List.mem_of_getElem? hp)
            have hql := hbe q (List.mem_of_getElem? hq)
            cases hnm : nameM p q with
            | false => exact like_nm_no pa pb pn pl gn A B ca cb a b i k f W hil hk hal hbl h hf p hp hdd (by omega) q hq hpl hql hnm (by rw [hv, hnm]; rfl)
            | true =>
              have C1 := fun f W h => IH (i + 1) (k + 1) f W (by omega) (by omega) (by omega) h
              simp only [← e1, ← e2] at C1
              exact like_nm_yes pa pb pn pl gn A B ca cb a b i k f W hil hk hal hbl h hf p hp hdd (by omega) q hq hpl hql _ hnm C1 (by rw [hv, hnm]; rfl)
          · obtain rfl : k = b.length := by omega
            exact like_nm_end pa pb pn pl gn A B ca cb a b i b.length f W hil hk hal hbl h hf p hp hdd (by omega) (tabM_name_end hp hdd)

end
end Go.Proofs.Ytcmogmplfigikaa
