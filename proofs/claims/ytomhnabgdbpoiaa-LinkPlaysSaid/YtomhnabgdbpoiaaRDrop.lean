/- The reference's Drop, Twice, Clear. Conditions: the link lies at its block. -/
import Derived.Test.YtomhnabgdbpoiaaRTake
import Derived.Test.YtomhnabgdbpoiaaAny
import Derived.Test.YtomhnabgdbpoiaaTwice
namespace Go.Proofs.Ytomhnabgdbpoiaa
open Go.RowKit
attribute [local go_sem ↓] Go.wp_at_zero Go.wp_at_succ
set_option linter.unusedVariables false
set_option linter.unusedSimpArgs false
namespace R
def Drawn (v : Value) (w : World) (e : Ending) (w' : World) : Prop := e = .returned v ∧ ∃ m, w' = w.drewN m
theorem owns_heap {w W : World} (hW : W.heap = w.heap) {base : Nat} {e : TypeId} {size : Nat} {v : Value} {n : Nat} {xs : List Value} (h : w.ownsRow base e size v n xs) : W.ownsRow base e size v n xs := by
  unfold World.ownsRow at *
  rw [hW]
  exact h

set_option maxRecDepth 100000 in
theorem where_yes_true (g : Nat) (st : St) (F : Nat → Prop) (v : Bool → Value) (us : Bool → List Value) (gs : Bool → List Nat) (w : World) (hP : Parts w g st F v us gs) (k : Nat) (hk : k < (st true).length) (j : Int) (hj : j = k) :
    Calls Try.prog 30 #[.pointer (some ⟨g, 0, none⟩), .int .i64 j] w (Drawn (.tuple #[.int .i64 0, .int .i64 k, .bool true]) w) := by
  obtain ⟨Au, cu, hv⟩ := owns_form (hP.owns true)
  obtain ⟨Ad, cd, hv2⟩ := owns_form (hP.owns false)
  have hg := hP.blk
  rw [hv, hv2] at hg
  have hlen := hP.len true
  have hlen2 := hP.len false
  have f1 := hP.few true
  have f2 := hP.few false
  obtain ⟨n, hn⟩ : ∃ n, (us true).length = n := ⟨_, rfl⟩
  obtain ⟨m, hm⟩ : ∃ m, (us false).length = m := ⟨_, rfl⟩
  rw [hn] at hg hlen
  rw [hm] at hg hlen2
  rw [← hlen] at f1
  rw [← hlen2] at f2
  have c0 : w.cell? ⟨g, 0, none⟩ = some (.slice Au n cu) := cell_of_row w g 0 _ _ _ hg
  have c1 : w.cell? ⟨g, 1, none⟩ = some (.slice Ad m cd) := cell_of_row w g 1 _ _ _ hg
  rw [← hlen] at hk
  have l1 : decide (j < 0) = false := by simp; omega
  have l2 : decide ((n : Int) + m ≤ j) = false := by simp; omega
  have l3 : j < (n : Int) := by omega
  have Hj := Lib.hid hj
  clear hg hv hv2 hn hm hlen hlen2 hP hj
  go_enter Try.func30, Try.ntmps30
  go_wp2
  go_quiet (fail)
  go_wp2
  go_ret3
  refine ⟨?_, _, rfl⟩
  rw [Hj.out]; rfl

set_option maxRecDepth 100000 in
theorem where_yes_false (g : Nat) (st : St) (F : Nat → Prop) (v : Bool → Value) (us : Bool → List Value) (gs : Bool → List Nat) (w : World) (hP : Parts w g st F v us gs) (k : Nat) (hk : k < (st false).length) (j : Int) (hj : j = (st true).length + k) :
    Calls Try.prog 30 #[.pointer (some ⟨g, 0, none⟩), .int .i64 j] w (Drawn (.tuple #[.int .i64 1, .int .i64 k, .bool true]) w) := by
  obtain ⟨Au, cu, hv⟩ := owns_form (hP.owns true)
  obtain ⟨Ad, cd, hv2⟩ := owns_form (hP.owns false)
  have hg := hP.blk
  rw [hv, hv2] at hg
  have hlen := hP.len true
  have hlen2 := hP.len false
  have f1 := hP.few true
  have f2 := hP.few false
  obtain ⟨n, hn⟩ : ∃ n, (us true).length = n := ⟨_, rfl⟩
  obtain ⟨m, hm⟩ : ∃ m, (us false).length = m := ⟨_, rfl⟩
  rw [hn] at hg hlen
  rw [hm] at hg hlen2
  rw [← hlen] at f1
  rw [← hlen2] at f2
  have c0 : w.cell? ⟨g, 0, none⟩ = some (.slice Au n cu) := cell_of_row w g 0 _ _ _ hg
  have c1 : w.cell? ⟨g, 1, none⟩ = some (.slice Ad m cd) := cell_of_row w g 1 _ _ _ hg
  rw [← hlen2] at hk
  rw [← hlen] at hj
  have l1 : decide (j < 0) = false := by simp; omega
  have l2 : decide ((n : Int) + m ≤ j) = false := by simp; omega
  have l3 : ¬ j < (n : Int) := by omega
  have Hj := Lib.hid hj
  have l4 : IntKind.i64.wrap (j - n) = (k : Int) := by rw [IntWalk.i64_in _ (by omega)]; omega
  clear hg hv hv2 hn hm hlen hlen2 hP hj
  go_enter Try.func30, Try.ntmps30
  go_wp2
  go_quiet (fail)
  go_wp2
  go_quiet (fail)
  go_wp2
  go_ret3
  refine ⟨?_, _, World.drewN_drewN _ _ _⟩
  rfl

set_option maxRecDepth 100000 in
theorem where_no (g : Nat) (st : St) (F : Nat → Prop) (v : Bool → Value) (us : Bool → List Value) (gs : Bool → List Nat) (w : World) (hP : Parts w g st F v us gs) (j : Int) (jr : j < 9223372036854775808) (hj : j < 0 ∨ ((st true).length : Int) + (st false).length ≤ j) :
    Calls Try.prog 30 #[.pointer (some ⟨g, 0, none⟩), .int .i64 j] w (Drawn (.tuple #[.int .i64 0, .int .i64 0, .bool false]) w) := by
  obtain ⟨Au, cu, hv⟩ := owns_form (hP.owns true)
  obtain ⟨Ad, cd, hv2⟩ := owns_form (hP.owns false)
  have hg := hP.blk
  rw [hv, hv2] at hg
  have hlen := hP.len true
  have hlen2 := hP.len false
  have f1 := hP.few true
  have f2 := hP.few false
  obtain ⟨n, hn⟩ : ∃ n, (us true).length = n := ⟨_, rfl⟩
  obtain ⟨m, hm⟩ : ∃ m, (us false).length = m := ⟨_, rfl⟩
  rw [hn] at hg hlen
  rw [hm] at hg hlen2
  rw [← hlen] at f1
  rw [← hlen2] at f2
  have c0 : w.cell? ⟨g, 0, none⟩ = some (.slice Au n cu) := cell_of_row w g 0 _ _ _ hg
  have c1 : w.cell? ⟨g, 1, none⟩ = some (.slice Ad m cd) := cell_of_row w g 1 _ _ _ hg
  rw [← hlen, ← hlen2] at hj
  clear hg hv hv2 hn hm hlen hlen2 hP
  by_cases q : j < 0
  · have l1 : decide (j < 0) = true := by simpa using q
    clear hj
    go_enter Try.func30, Try.ntmps30
    go_wp2
    go_quiet (fail)
    go_wp2
    go_ret3
    exact ⟨rfl, _, rfl⟩
  · have l1 : decide (j < 0) = false := by simpa using q
    have l2 : decide ((n : Int) + m ≤ j) = true := by simp; omega
    clear hj
    go_enter Try.func30, Try.ntmps30
    go_wp2
    go_quiet (fail)
    go_wp2
    go_ret3
    exact ⟨rfl, _, rfl⟩

theorem LinkAt.goes {w w' : World} {g : Nat} {s : St} {F : Nat → Prop} (h : LinkAt w g s F) (hU : Upto (fun _ => False) w w') : LinkPost w g F Nought s w' :=
  ⟨F, h.keep hU (fun _ _ h => h), hU.mono (fun _ h => h.elim), fun _ hk => .inl ⟨hk, fun h => h⟩⟩

set_option maxRecDepth 100000 in
theorem drop_true (g : Nat) (st : St) (F : Nat → Prop) (v : Bool → Value) (us : Bool → List Value) (gs : Bool → List Nat) (w : World) (hP : Parts w g st F v us gs) (k : Nat) (hk : k < (st true).length) (j : Int) (hj : j = k) :
    Calls Try.prog 24 #[.pointer (some ⟨g, 0, none⟩), .int .i64 j] w (Turns (.bool true) w g F (upd st true ((st true).take k ++ (st true).drop (k + 1)))) := by
  have Wh := where_yes_true g st F v us gs w hP k hk j hj
  have C := fun (W : World) (hW : W.heap = w.heap) => cut_any (v true) (us true) k W (owns_heap hW (hP.owns true)) (frms_slices (hP.frms true)) (by rw [hP.len true]; exact hP.few true) (by rw [hP.len true]; exact hk)
  obtain ⟨Au, cu, hv⟩ := owns_form (hP.owns true)
  have hg := hP.blk
  rw [hv] at hg C
  obtain ⟨n, hn⟩ : ∃ n, (us true).length = n := ⟨_, rfl⟩
  rw [hn] at hg hv C
  have c0 : w.cell? ⟨g, 0, none⟩ = some (.slice Au n cu) := cell_of_row w g 0 _ _ _ hg
  have HP := Lib.hid hP
  have Hv := Lib.hid hv
  have Hg := Lib.hid hg
  have C' := Lib.hid C
  have Wh' := Lib.hid Wh
  clear hP hv hn hg C hj Wh
  go_enter Try.func24, Try.ntmps24
  go_wp2_with (go_at_call 30; refine Wh'.out.mono ?_; rintro e w' ⟨rfl, mm, rfl⟩)
  go_region_with ((go_at_call 29; refine (C'.out (w.drewN (mm + 1)) rfl).mono ?_; rintro e w1 ⟨v2, n2, rfl, hn2, hown2, U2', hat2⟩; have U2 : Upto (fun _ => False) w w1 := ((Upto.refl _ w).drewN (mm + 1)).trans U2' (fun _ h => h.elim); have b2 : w1.heap[g]? = some (.cells #[.slice Au n cu, v false] 46 (0, 0)) := U2.blk (fun h => h.elim) Hg.out; have d0 : w1.cell? ⟨g, 0, none⟩ = some (.slice Au n cu) := cell_of_row w1 g 0 _ _ _ b2; have f0 : w1.frozen? ⟨g, 0, none⟩ = false := frozen_of_row b2; obtain ⟨A2, c2, e2⟩ := owns_form hown2; subst e2; replace b2 := Lib.hid b2; replace hn2 := Lib.hid hn2))
  all_goals
    have b2' := b2.out
    clear b2
    go_wp2
    go_ret
    obtain ⟨gb', hgb', hLP, hUU⟩ := cut_close HP.out true hk U2 hown2 rfl hn2.out hat2 (by rw [← Hv.out] at b2'; exact b2') _ rfl
    exact ⟨rfl, hLP.weaken⟩

set_option maxRecDepth 100000 in
theorem drop_false (g : Nat) (st : St) (F : Nat → Prop) (v : Bool → Value) (us : Bool → List Value) (gs : Bool → List Nat) (w : World) (hP : Parts w g st F v us gs) (k : Nat) (hk : k < (st false).length) (j : Int) (hj : j = (st true).length + k) :
    Calls Try.prog 24 #[.pointer (some ⟨g, 0, none⟩), .int .i64 j] w (Turns (.bool true) w g F (upd st false ((st false).take k ++ (st false).drop (k + 1)))) := by
  have Wh := where_yes_false g st F v us gs w hP k hk j hj
  have C := fun (W : World) (hW : W.heap = w.heap) => cut_any (v false) (us false) k W (owns_heap hW (hP.owns false)) (frms_slices (hP.frms false)) (by rw [hP.len false]; exact hP.few false) (by rw [hP.len false]; exact hk)
  obtain ⟨Au, cu, hv⟩ := owns_form (hP.owns false)
  have hg := hP.blk
  rw [hv] at hg C
  obtain ⟨n, hn⟩ : ∃ n, (us false).length = n := ⟨_, rfl⟩
  rw [hn] at hg hv C
  have c0 : w.cell? ⟨g, 1, none⟩ = some (.slice Au n cu) := cell_of_row w g 1 _ _ _ hg
  have HP := Lib.hid hP
  have Hv := Lib.hid hv
  have Hg := Lib.hid hg
  have C' := Lib.hid C
  have Wh' := Lib.hid Wh
  clear hP hv hn hg C hj Wh
  go_enter Try.func24, Try.ntmps24
  go_wp2_with (go_at_call 30; refine Wh'.out.mono ?_; rintro e w' ⟨rfl, mm, rfl⟩)
  go_region_with ((go_at_call 29; refine (C'.out (w.drewN (mm + 1)) rfl).mono ?_; rintro e w1 ⟨v2, n2, rfl, hn2, hown2, U2', hat2⟩; have U2 : Upto (fun _ => False) w w1 := ((Upto.refl _ w).drewN (mm + 1)).trans U2' (fun _ h => h.elim); have b2 : w1.heap[g]? = some (.cells #[v true, .slice Au n cu] 46 (0, 0)) := U2.blk (fun h => h.elim) Hg.out; have d0 : w1.cell? ⟨g, 1, none⟩ = some (.slice Au n cu) := cell_of_row w1 g 1 _ _ _ b2; have f0 : w1.frozen? ⟨g, 1, none⟩ = false := frozen_of_row b2; obtain ⟨A2, c2, e2⟩ := owns_form hown2; subst e2; replace b2 := Lib.hid b2; replace hn2 := Lib.hid hn2))
  all_goals
    have b2' := b2.out
    clear b2
    go_wp2
    go_ret
    obtain ⟨gb', hgb', hLP, hUU⟩ := cut_close HP.out false hk U2 hown2 rfl hn2.out hat2 (by rw [← Hv.out] at b2'; exact b2') _ rfl
    exact ⟨rfl, hLP.weaken⟩

set_option maxRecDepth 100000 in
theorem drop_no (g : Nat) (st : St) (F : Nat → Prop) (w : World) (hL : LinkAt w g st F) (j : Int) (jr : j < 9223372036854775808) (hj : j < 0 ∨ ((st true).length : Int) + (st false).length ≤ j) :
    Calls Try.prog 24 #[.pointer (some ⟨g, 0, none⟩), .int .i64 j] w (Turns (.bool false) w g F st) := by
  obtain ⟨v, us, gs, hP⟩ := id hL
  have Wh := where_no g st F v us gs w hP j jr hj
  have Wh' := Lib.hid Wh
  clear hP Wh hj
  go_enter Try.func24, Try.ntmps24
  go_wp2_with (go_at_call 30; refine Wh'.out.mono ?_; rintro e w' ⟨rfl, mm, rfl⟩)
  go_ret
  exact ⟨rfl, hL.goes ((Upto.refl _ w).drewN mm)⟩
theorem LinkAt.goes_ {w w' : World} {g : Nat} {s : St} {F : Nat → Prop} (h : LinkAt w g s F) (hU : Upto (fun _ => False) w w') : LinkPost w g F Nought s w' := h.goes hU

set_option maxRecDepth 100000 in
theorem drop_any (g : Nat) (st : St) (F : Nat → Prop) (w : World) (hL : LinkAt w g st F) (j : Int) (jr : j < 9223372036854775808) :
    Calls Try.prog 24 #[.pointer (some ⟨g, 0, none⟩), .int .i64 j] w (Turns (.bool (dropB st j)) w g F (dropP st j)) := by
  unfold dropB dropP
  rcases at_cases st j with ⟨e, h⟩ | ⟨k, e, hj, hk⟩ | ⟨k, e, hj, hk⟩ <;> rw [e]
  · exact drop_no g st F w hL j jr h
  · obtain ⟨v, us, gs, hP⟩ := hL
    exact drop_true g st F v us gs w hP k hk j hj
  · obtain ⟨v, us, gs, hP⟩ := hL
    exact drop_false g st F v us gs w hP k hk j hj
end R
end Go.Proofs.Ytomhnabgdbpoiaa
