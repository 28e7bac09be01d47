/- does: a call at both tables; they say the same. Conditions: both can be read, and hold the same. -/
import Derived.Test.YtfknkkcpieaikaaBoth
import Derived.Deep.RegionHeld3
namespace Go.Proofs.Ytfknkkcpieaikaa
open Go.RowKit
set_option linter.unusedVariables false
set_option linter.unusedSimpArgs false

abbrev OpB (d n id k v : Int) : Obj := .cells #[.int .i64 d, .int .i64 n, .int .u64 id, .int .i64 k, .int .i64 v] 41
abbrev EntB (x : Ent) : Obj := .cells #[.int .u64 x.id, .int .i64 x.task, .int .i64 x.st, .int .i64 x.left, .int .i64 x.kind, .int .i64 x.val] 37
set_option maxRecDepth 100000 in
set_option maxHeartbeats 4000000 in
theorem does_add0 (w1 w : World) (b B r : Nat) (T : Tb) (K : Nat → Obj → Prop) (n id k v : Int) (hi1 : 0 ≤ id) (hi2 : id < 18446744073709551616) (h : Both w1 b B r T T K w) :
    Calls Try.prog 19 #[.pointer (some ⟨b, 0, none⟩), .pointer (some ⟨r, 0, none⟩), .agg #[.int .i64 0, .int .i64 n, .int .u64 id, .int .i64 k, .int .i64 v]] w (fun e w' => e = .returned (.bool true) ∧ Both w1 b B r (does1 T ⟨0, n, id, k, v⟩).2 (does1 T ⟨0, n, id, k, v⟩).2 K w') := by
  have hF := h.fine
  have hl8 : T.L.length ≤ 8 := by have := hF.len; have := hF.s2; omega
  have hA := h.new (OpB 0 n id k v)
  obtain ⟨bx, hbx⟩ : ∃ bx, w.heap.size = bx := ⟨_, rfl⟩
  rw [hbx] at hA
  have HK0 : Hid (addK K bx (OpB 0 n id k v) bx (OpB 0 n id k v)) := Lib.hid (.inr ⟨rfl, rfl⟩)
  have q0 := hA.at HK0.out (j := 0) rfl
  have q1 := hA.at HK0.out (j := 1) rfl
  have q2 := hA.at HK0.out (j := 2) rfl
  have q3 := hA.at HK0.out (j := 3) rfl
  have q4 := hA.at HK0.out (j := 4) rfl
  obtain ⟨x, y, T', hx⟩ : ∃ x y T', addT T n = (x, y, T') := ⟨_, _, _, rfl⟩
  rw [show (does1 T ⟨0, n, id, k, v⟩).2 = T' by simp [does1, hx]]
  have HL := Lib.hid (hA.left (fun P hT => add_any b B P T n _ hT))
  have HR := Lib.hid (fun wx (hx : Both w1 b B r T' T (addK K bx (OpB 0 n id k v)) wx) => hx.right (fun v' hR => radd_any r v' T n wx hR hF))
  rw [hx] at HL HR
  clear h hA hF hl8 hx
  have xE : (x == x) = true := by simp
  have yE : (y == y) = true := by simp
  go_enter Try.func19, Try.ntmps19
  subst hbx
  go_wp2_with (first
    | (go_at_call 21; (with_reducible refine HL.out.mono ?_); rintro e_ w2 ⟨rfl, hB2⟩; have p1 := hB2.at HK0.out (j := 1) rfl)
    | (go_at_call 29; (with_reducible refine (HR.out _ hB2).mono ?_); rintro e_ w3 ⟨rfl, hB3⟩))
  go_ret
  exact ⟨rfl, hB3.less (fun k o h => .inl h)⟩
set_option maxRecDepth 100000 in
set_option maxHeartbeats 4000000 in
theorem does_add1 (w1 w : World) (b B r : Nat) (T : Tb) (K : Nat → Obj → Prop) (n id k v : Int) (hi1 : 0 ≤ id) (hi2 : id < 18446744073709551616) (h : Both w1 b B r T T K w) :
    Calls Try.prog 19 #[.pointer (some ⟨b, 0, none⟩), .pointer (some ⟨r, 0, none⟩), .agg #[.int .i64 1, .int .i64 n, .int .u64 id, .int .i64 k, .int .i64 v]] w (fun e w' => e = .returned (.bool true) ∧ Both w1 b B r (does1 T ⟨1, n, id, k, v⟩).2 (does1 T ⟨1, n, id, k, v⟩).2 K w') := by
  have hF := h.fine
  have hl8 : T.L.length ≤ 8 := by have := hF.len; have := hF.s2; omega
  have hA := h.new (OpB 1 n id k v)
  obtain ⟨bx, hbx⟩ : ∃ bx, w.heap.size = bx := ⟨_, rfl⟩
  rw [hbx] at hA
  have HK0 : Hid (addK K bx (OpB 1 n id k v) bx (OpB 1 n id k v)) := Lib.hid (.inr ⟨rfl, rfl⟩)
  have q0 := hA.at HK0.out (j := 0) rfl
  have q1 := hA.at HK0.out (j := 1) rfl
  have q2 := hA.at HK0.out (j := 2) rfl
  have q3 := hA.at HK0.out (j := 3) rfl
  have q4 := hA.at HK0.out (j := 4) rfl
  obtain ⟨x, y, T', hx⟩ : ∃ x y T', addT T n = (x, y, T') := ⟨_, _, _, rfl⟩
  rw [show (does1 T ⟨1, n, id, k, v⟩).2 = T' by simp [does1, hx]]
  have HL := Lib.hid (hA.left (fun P hT => add_any b B P T n _ hT))
  have HR := Lib.hid (fun wx (hx : Both w1 b B r T' T (addK K bx (OpB 1 n id k v)) wx) => hx.right (fun v' hR => radd_any r v' T n wx hR hF))
  rw [hx] at HL HR
  clear h hA hF hl8 hx
  have xE : (x == x) = true := by simp
  have yE : (y == y) = true := by simp
  go_enter Try.func19, Try.ntmps19
  subst hbx
  go_wp2_with (first
    | (go_at_call 21; (with_reducible refine HL.out.mono ?_); rintro e_ w2 ⟨rfl, hB2⟩; have p1 := hB2.at HK0.out (j := 1) rfl)
    | (go_at_call 29; (with_reducible refine (HR.out _ hB2).mono ?_); rintro e_ w3 ⟨rfl, hB3⟩))
  go_ret
  exact ⟨rfl, hB3.less (fun k o h => .inl h)⟩
set_option maxRecDepth 100000 in
set_option maxHeartbeats 4000000 in
theorem does_send2 (w1 w : World) (b B r : Nat) (T : Tb) (K : Nat → Obj → Prop) (n id k v : Int) (hi1 : 0 ≤ id) (hi2 : id < 18446744073709551616) (h : Both w1 b B r T T K w) :
    Calls Try.prog 19 #[.pointer (some ⟨b, 0, none⟩), .pointer (some ⟨r, 0, none⟩), .agg #[.int .i64 2, .int .i64 n, .int .u64 id, .int .i64 k, .int .i64 v]] w (fun e w' => e = .returned (.bool true) ∧ Both w1 b B r (does1 T ⟨2, n, id, k, v⟩).2 (does1 T ⟨2, n, id, k, v⟩).2 K w') := by
  have hF := h.fine
  have hl8 : T.L.length ≤ 8 := by have := hF.len; have := hF.s2; omega
  have hA := h.new (OpB 2 n id k v)
  obtain ⟨bx, hbx⟩ : ∃ bx, w.heap.size = bx := ⟨_, rfl⟩
  rw [hbx] at hA
  have HK0 : Hid (addK K bx (OpB 2 n id k v) bx (OpB 2 n id k v)) := Lib.hid (.inr ⟨rfl, rfl⟩)
  have q0 := hA.at HK0.out (j := 0) rfl
  have q1 := hA.at HK0.out (j := 1) rfl
  have q2 := hA.at HK0.out (j := 2) rfl
  have q3 := hA.at HK0.out (j := 3) rfl
  have q4 := hA.at HK0.out (j := 4) rfl
  obtain ⟨x, y, T', hx⟩ : ∃ x y T', sendT T = (x, y, T') := ⟨_, _, _, rfl⟩
  rw [show (does1 T ⟨2, n, id, k, v⟩).2 = T' by simp [does1, hx]]
  have HL := Lib.hid (hA.left (fun P hT => send_any b B P T _ hT))
  have HR := Lib.hid (fun K' wx (hx : Both w1 b B r T' T K' wx) => hx.right (fun v' hR => rsend_any r v' T wx hR hl8 hF.rise))
  rw [hx] at HL HR
  obtain ⟨xi, xt, xs, xl, xk, xv⟩ := x
  simp only [entV, Ent.cells] at HL HR
  clear h hA hF hl8 hx
  have yE : (y == y) = true := by simp
  go_enter Try.func19, Try.ntmps19
  subst hbx
  go_wp2_with (first
    | (go_at_call 22; (with_reducible refine HL.out.mono ?_); rintro e_ w2 ⟨rfl, hB2⟩; have hC2 := hB2.new (EntB ⟨xi, xt, xs, xl, xk, xv⟩))
    | (go_at_call 30; (with_reducible refine (HR.out _ _ hC2).mono ?_); rintro e_ w3 ⟨rfl, hB3⟩; have z0 := keep_cell (below_alloc w3 (EntB ⟨xi, xt, xs, xl, xk, xv⟩)) (hB3.at (g := w2.heap.size) (j := 0) (.inr ⟨rfl, rfl⟩) rfl); have z1 := keep_cell (below_alloc w3 (EntB ⟨xi, xt, xs, xl, xk, xv⟩)) (hB3.at (g := w2.heap.size) (j := 1) (.inr ⟨rfl, rfl⟩) rfl); have z2 := keep_cell (below_alloc w3 (EntB ⟨xi, xt, xs, xl, xk, xv⟩)) (hB3.at (g := w2.heap.size) (j := 2) (.inr ⟨rfl, rfl⟩) rfl); have z3 := keep_cell (below_alloc w3 (EntB ⟨xi, xt, xs, xl, xk, xv⟩)) (hB3.at (g := w2.heap.size) (j := 3) (.inr ⟨rfl, rfl⟩) rfl); have z4 := keep_cell (below_alloc w3 (EntB ⟨xi, xt, xs, xl, xk, xv⟩)) (hB3.at (g := w2.heap.size) (j := 4) (.inr ⟨rfl, rfl⟩) rfl); have z5 := keep_cell (below_alloc w3 (EntB ⟨xi, xt, xs, xl, xk, xv⟩)) (hB3.at (g := w2.heap.size) (j := 5) (.inr ⟨rfl, rfl⟩) rfl)))
  go_ret
  exact ⟨rfl, (hB3.below (below_alloc _ _)).less (fun k o h => .inl (.inl h))⟩
set_option maxRecDepth 100000 in
set_option maxHeartbeats 4000000 in
theorem does_send3 (w1 w : World) (b B r : Nat) (T : Tb) (K : Nat → Obj → Prop) (n id k v : Int) (hi1 : 0 ≤ id) (hi2 : id < 18446744073709551616) (h : Both w1 b B r T T K w) :
    Calls Try.prog 19 #[.pointer (some ⟨b, 0, none⟩), .pointer (some ⟨r, 0, none⟩), .agg #[.int .i64 3, .int .i64 n, .int .u64 id, .int .i64 k, .int .i64 v]] w (fun e w' => e = .returned (.bool true) ∧ Both w1 b B r (does1 T ⟨3, n, id, k, v⟩).2 (does1 T ⟨3, n, id, k, v⟩).2 K w') := by
  have hF := h.fine
  have hl8 : T.L.length ≤ 8 := by have := hF.len; have := hF.s2; omega
  have hA := h.new (OpB 3 n id k v)
  obtain ⟨bx, hbx⟩ : ∃ bx, w.heap.size = bx := ⟨_, rfl⟩
  rw [hbx] at hA
  have HK0 : Hid (addK K bx (OpB 3 n id k v) bx (OpB 3 n id k v)) := Lib.hid (.inr ⟨rfl, rfl⟩)
  have q0 := hA.at HK0.out (j := 0) rfl
  have q1 := hA.at HK0.out (j := 1) rfl
  have q2 := hA.at HK0.out (j := 2) rfl
  have q3 := hA.at HK0.out (j := 3) rfl
  have q4 := hA.at HK0.out (j := 4) rfl
  obtain ⟨x, y, T', hx⟩ : ∃ x y T', sendT T = (x, y, T') := ⟨_, _, _, rfl⟩
  rw [show (does1 T ⟨3, n, id, k, v⟩).2 = T' by simp [does1, hx]]
  have HL := Lib.hid (hA.left (fun P hT => send_any b B P T _ hT))
  have HR := Lib.hid (fun K' wx (hx : Both w1 b B r T' T K' wx) => hx.right (fun v' hR => rsend_any r v' T wx hR hl8 hF.rise))
  rw [hx] at HL HR
  obtain ⟨xi, xt, xs, xl, xk, xv⟩ := x
  simp only [entV, Ent.cells] at HL HR
  clear h hA hF hl8 hx
  have yE : (y == y) = true := by simp
  go_enter Try.func19, Try.ntmps19
  subst hbx
  go_wp2_with (first
    | (go_at_call 22; (with_reducible refine HL.out.mono ?_); rintro e_ w2 ⟨rfl, hB2⟩; have hC2 := hB2.new (EntB ⟨xi, xt, xs, xl, xk, xv⟩))
    | (go_at_call 30; (with_reducible refine (HR.out _ _ hC2).mono ?_); rintro e_ w3 ⟨rfl, hB3⟩; have z0 := keep_cell (below_alloc w3 (EntB ⟨xi, xt, xs, xl, xk, xv⟩)) (hB3.at (g := w2.heap.size) (j := 0) (.inr ⟨rfl, rfl⟩) rfl); have z1 := keep_cell (below_alloc w3 (EntB ⟨xi, xt, xs, xl, xk, xv⟩)) (hB3.at (g := w2.heap.size) (j := 1) (.inr ⟨rfl, rfl⟩) rfl); have z2 := keep_cell (below_alloc w3 (EntB ⟨xi, xt, xs, xl, xk, xv⟩)) (hB3.at (g := w2.heap.size) (j := 2) (.inr ⟨rfl, rfl⟩) rfl); have z3 := keep_cell (below_alloc w3 (EntB ⟨xi, xt, xs, xl, xk, xv⟩)) (hB3.at (g := w2.heap.size) (j := 3) (.inr ⟨rfl, rfl⟩) rfl); have z4 := keep_cell (below_alloc w3 (EntB ⟨xi, xt, xs, xl, xk, xv⟩)) (hB3.at (g := w2.heap.size) (j := 4) (.inr ⟨rfl, rfl⟩) rfl); have z5 := keep_cell (below_alloc w3 (EntB ⟨xi, xt, xs, xl, xk, xv⟩)) (hB3.at (g := w2.heap.size) (j := 5) (.inr ⟨rfl, rfl⟩) rfl)))
  go_ret
  exact ⟨rfl, (hB3.below (below_alloc _ _)).less (fun k o h => .inl (.inl h))⟩
set_option maxRecDepth 100000 in
set_option maxHeartbeats 4000000 in
theorem does_reply (w1 w : World) (b B r : Nat) (T : Tb) (K : Nat → Obj → Prop) (n id k v : Int) (hi1 : 0 ≤ id) (hi2 : id < 18446744073709551616) (h : Both w1 b B r T T K w) :
    Calls Try.prog 19 #[.pointer (some ⟨b, 0, none⟩), .pointer (some ⟨r, 0, none⟩), .agg #[.int .i64 4, .int .i64 n, .int .u64 id, .int .i64 k, .int .i64 v]] w (fun e w' => e = .returned (.bool true) ∧ Both w1 b B r (does1 T ⟨4, n, id, k, v⟩).2 (does1 T ⟨4, n, id, k, v⟩).2 K w') := by
  have hF := h.fine
  have hl8 : T.L.length ≤ 8 := by have := hF.len; have := hF.s2; omega
  have hA := h.new (OpB 4 n id k v)
  obtain ⟨bx, hbx⟩ : ∃ bx, w.heap.size = bx := ⟨_, rfl⟩
  rw [hbx] at hA
  have HK0 : Hid (addK K bx (OpB 4 n id k v) bx (OpB 4 n id k v)) := Lib.hid (.inr ⟨rfl, rfl⟩)
  have q0 := hA.at HK0.out (j := 0) rfl
  have q1 := hA.at HK0.out (j := 1) rfl
  have q2 := hA.at HK0.out (j := 2) rfl
  have q3 := hA.at HK0.out (j := 3) rfl
  have q4 := hA.at HK0.out (j := 4) rfl
  obtain ⟨x, T', hx⟩ : ∃ x T', replyT T (IntKind.u64.wrap n) id k v = (x, T') := ⟨_, _, rfl⟩
  rw [show (does1 T ⟨4, n, id, k, v⟩).2 = T' by simp [does1, hx]]
  have HL : Hid (∀ wx, Both w1 b B r T T (addK K bx (OpB 4 n id k v)) wx → Calls Try.prog 16 #[.pointer (some ⟨b, 0, none⟩), .int .u64 (IntKind.u64.wrap n), .int .u64 id, .agg #[.int .i64 k, .int .i64 v]] wx (fun e w' => e = .returned (.int .i64 x) ∧ Both w1 b B r T' T (addK K bx (OpB 4 n id k v)) w')) := Lib.hid (fun wx hB => by have := hB.left (fun P hT => reply_any b B P T (IntKind.u64.wrap n) id k v wx (U64.of hi1 hi2) hT); rwa [hx] at this)
  have HR : Hid (∀ wx, Both w1 b B r T' T (addK K bx (OpB 4 n id k v)) wx → Calls Try.prog 31 #[.pointer (some ⟨r, 0, none⟩), .int .u64 (IntKind.u64.wrap n), .int .u64 id, .agg #[.int .i64 k, .int .i64 v]] wx (fun e w' => e = .returned (.int .i64 x) ∧ Both w1 b B r T' T' (addK K bx (OpB 4 n id k v)) w')) := Lib.hid (fun wx hB => by have := hB.right (fun v' hR => rreply_any r v' T (IntKind.u64.wrap n) id k v wx hR hl8 hF.rise); rwa [hx] at this)
  have HA := Lib.hid hA
  have HAd := Lib.hid hA.drew
  clear h hA hF hl8 hx
  have xE : (x == x) = true := by simp
  go_enter Try.func19, Try.ntmps19
  go_upto_region 13 with (fail)
  obtain ⟨wA, hwA⟩ : ∃ wA, w.alloc (OpB 4 n id k v) = wA := ⟨_, rfl⟩
  rw [hwA] at HA HAd q0 q1 q2 q3 q4 ⊢
  clear hwA hbx
  go_region_held3 (fun w' => w'.cell? ⟨bx, 1, none⟩ = some (.int .i64 n) ∧ w'.cell? ⟨bx, 2, none⟩ = some (.int .u64 id) ∧ w'.cell? ⟨bx, 3, none⟩ = some (.int .i64 k) ∧ w'.cell? ⟨bx, 4, none⟩ = some (.int .i64 v)) ((refine ⟨?_, ?_, ?_, ?_⟩ <;> assumption)) (first
    | (go_at_call 16; (with_reducible refine (HL.out _ HAd.out).mono ?_); rintro e_ w2 ⟨rfl, hB2⟩; have p1 := hB2.at HK0.out (j := 1) rfl; have p2 := hB2.at HK0.out (j := 2) rfl; have p3 := hB2.at HK0.out (j := 3) rfl; have p4 := hB2.at HK0.out (j := 4) rfl; have HB2 := Lib.hid hB2; clear hB2)
    | (go_at_call 31; (with_reducible refine (HR.out _ HB2.out).mono ?_); rintro e_ w3 ⟨rfl, hB3⟩; have r1 := hB3.at HK0.out (j := 1) rfl; have r2 := hB3.at HK0.out (j := 2) rfl; have r3 := hB3.at HK0.out (j := 3) rfl; have r4 := hB3.at HK0.out (j := 4) rfl; have HB3 := Lib.hid hB3; clear hB3))
  go_wp2
  go_ret
  exact ⟨rfl, HB3.out.less (fun k o h => .inl h)⟩
set_option maxRecDepth 100000 in
set_option maxHeartbeats 4000000 in
theorem does_kill (w1 w : World) (b B r : Nat) (T : Tb) (K : Nat → Obj → Prop) (n id k v : Int) (hi1 : 0 ≤ id) (hi2 : id < 18446744073709551616) (h : Both w1 b B r T T K w) :
    Calls Try.prog 19 #[.pointer (some ⟨b, 0, none⟩), .pointer (some ⟨r, 0, none⟩), .agg #[.int .i64 5, .int .i64 n, .int .u64 id, .int .i64 k, .int .i64 v]] w (fun e w' => e = .returned (.bool true) ∧ Both w1 b B r (does1 T ⟨5, n, id, k, v⟩).2 (does1 T ⟨5, n, id, k, v⟩).2 K w') := by
  have hF := h.fine
  have hl8 : T.L.length ≤ 8 := by have := hF.len; have := hF.s2; omega
  have hA := h.new (OpB 5 n id k v)
  obtain ⟨bx, hbx⟩ : ∃ bx, w.heap.size = bx := ⟨_, rfl⟩
  rw [hbx] at hA
  have HK0 : Hid (addK K bx (OpB 5 n id k v) bx (OpB 5 n id k v)) := Lib.hid (.inr ⟨rfl, rfl⟩)
  have q0 := hA.at HK0.out (j := 0) rfl
  have q1 := hA.at HK0.out (j := 1) rfl
  have q2 := hA.at HK0.out (j := 2) rfl
  have q3 := hA.at HK0.out (j := 3) rfl
  have q4 := hA.at HK0.out (j := 4) rfl
  obtain ⟨x, T', hx⟩ : ∃ x T', killT T n = (x, T') := ⟨_, _, rfl⟩
  rw [show (does1 T ⟨5, n, id, k, v⟩).2 = T' by simp [does1, hx]]
  have HL : Hid (∀ wx, Both w1 b B r T T (addK K bx (OpB 5 n id k v)) wx → Calls Try.prog 23 #[.pointer (some ⟨b, 0, none⟩), .int .i64 n] wx (fun e w' => e = .returned (.bool x) ∧ Both w1 b B r T' T (addK K bx (OpB 5 n id k v)) w')) := Lib.hid (fun wx hB => by have := hB.left (fun P hT => kill_any b B P T n wx hT); rwa [hx] at this)
  have HR : Hid (∀ wx, Both w1 b B r T' T (addK K bx (OpB 5 n id k v)) wx → Calls Try.prog 32 #[.pointer (some ⟨r, 0, none⟩), .int .i64 n] wx (fun e w' => e = .returned (.bool x) ∧ Both w1 b B r T' T' (addK K bx (OpB 5 n id k v)) w')) := Lib.hid (fun wx hB => by have := hB.right (fun v' hR => rkill_any r v' T n wx hR hl8 hF.rise); rwa [hx] at this)
  have HA := Lib.hid hA
  have HAd := Lib.hid hA.drew
  clear h hA hF hl8 hx
  have xE : (x == x) = true := by simp
  go_enter Try.func19, Try.ntmps19
  go_upto_region 15 with (fail)
  obtain ⟨wA, hwA⟩ : ∃ wA, w.alloc (OpB 5 n id k v) = wA := ⟨_, rfl⟩
  rw [hwA] at HA HAd q0 q1 q2 q3 q4 ⊢
  clear hwA hbx
  go_region_held3 (fun w' => w'.cell? ⟨bx, 1, none⟩ = some (.int .i64 n)) ((assumption)) (first
    | (go_at_call 23; (with_reducible refine (HL.out _ HAd.out).mono ?_); rintro e_ w2 ⟨rfl, hB2⟩; have p1 := hB2.at HK0.out (j := 1) rfl; have HB2 := Lib.hid hB2; clear hB2)
    | (go_at_call 32; (with_reducible refine (HR.out _ HB2.out).mono ?_); rintro e_ w3 ⟨rfl, hB3⟩; have r1 := hB3.at HK0.out (j := 1) rfl; have HB3 := Lib.hid hB3; clear hB3))
  go_wp2
  go_ret
  exact ⟨rfl, HB3.out.less (fun k o h => .inl h)⟩
set_option maxRecDepth 100000 in
set_option maxHeartbeats 4000000 in
theorem does_rise (w1 w : World) (b B r : Nat) (T : Tb) (K : Nat → Obj → Prop) (n id k v : Int) (hi1 : 0 ≤ id) (hi2 : id < 18446744073709551616) (h : Both w1 b B r T T K w) :
    Calls Try.prog 19 #[.pointer (some ⟨b, 0, none⟩), .pointer (some ⟨r, 0, none⟩), .agg #[.int .i64 7, .int .i64 n, .int .u64 id, .int .i64 k, .int .i64 v]] w (fun e w' => e = .returned (.bool true) ∧ Both w1 b B r (does1 T ⟨7, n, id, k, v⟩).2 (does1 T ⟨7, n, id, k, v⟩).2 K w') := by
  have hF := h.fine
  have hl8 : T.L.length ≤ 8 := by have := hF.len; have := hF.s2; omega
  have hA := h.new (OpB 7 n id k v)
  obtain ⟨bx, hbx⟩ : ∃ bx, w.heap.size = bx := ⟨_, rfl⟩
  rw [hbx] at hA
  have HK0 : Hid (addK K bx (OpB 7 n id k v) bx (OpB 7 n id k v)) := Lib.hid (.inr ⟨rfl, rfl⟩)
  have q0 := hA.at HK0.out (j := 0) rfl
  have q1 := hA.at HK0.out (j := 1) rfl
  have q2 := hA.at HK0.out (j := 2) rfl
  have q3 := hA.at HK0.out (j := 3) rfl
  have q4 := hA.at HK0.out (j := 4) rfl
  obtain ⟨x, T', hx⟩ : ∃ x T', riseT T id = (x, T') := ⟨_, _, rfl⟩
  rw [show (does1 T ⟨7, n, id, k, v⟩).2 = T' by simp [does1, hx]]
  have HL : Hid (∀ wx, Both w1 b B r T T (addK K bx (OpB 7 n id k v)) wx → Calls Try.prog 15 #[.pointer (some ⟨b, 0, none⟩), .int .u64 id] wx (fun e w' => e = .returned (.int .i64 x) ∧ Both w1 b B r T' T (addK K bx (OpB 7 n id k v)) w')) := Lib.hid (fun wx hB => by have := hB.left (fun P hT => rise_any b B P T id hi1 hi2 wx hT); rwa [hx] at this)
  have HR : Hid (∀ wx, Both w1 b B r T' T (addK K bx (OpB 7 n id k v)) wx → Calls Try.prog 35 #[.pointer (some ⟨r, 0, none⟩), .int .u64 id] wx (fun e w' => e = .returned (.int .i64 x) ∧ Both w1 b B r T' T' (addK K bx (OpB 7 n id k v)) w')) := Lib.hid (fun wx hB => by have := hB.right (fun v' hR => rrise_any r v' T id wx hR hl8); rwa [hx] at this)
  have HA := Lib.hid hA
  have HAd := Lib.hid hA.drew
  clear h hA hF hl8 hx
  have xE : (x == x) = true := by simp
  go_enter Try.func19, Try.ntmps19
  go_upto_region 19 with (fail)
  obtain ⟨wA, hwA⟩ : ∃ wA, w.alloc (OpB 7 n id k v) = wA := ⟨_, rfl⟩
  rw [hwA] at HA HAd q0 q1 q2 q3 q4 ⊢
  clear hwA hbx
  go_region_held3 (fun w' => w'.cell? ⟨bx, 2, none⟩ = some (.int .u64 id)) ((assumption)) (first
    | (go_at_call 15; (with_reducible refine (HL.out _ HAd.out).mono ?_); rintro e_ w2 ⟨rfl, hB2⟩; have p2 := hB2.at HK0.out (j := 2) rfl; have HB2 := Lib.hid hB2; clear hB2)
    | (go_at_call 35; (with_reducible refine (HR.out _ HB2.out).mono ?_); rintro e_ w3 ⟨rfl, hB3⟩; have r2 := hB3.at HK0.out (j := 2) rfl; have HB3 := Lib.hid hB3; clear hB3))
  go_wp2
  go_ret
  exact ⟨rfl, HB3.out.less (fun k o h => .inl h)⟩
set_option maxRecDepth 100000 in
set_option maxHeartbeats 4000000 in
theorem does_tick (w1 w : World) (b B r : Nat) (T : Tb) (K : Nat → Obj → Prop) (n id k v : Int) (hi1 : 0 ≤ id) (hi2 : id < 18446744073709551616) (h : Both w1 b B r T T K w) :
    Calls Try.prog 19 #[.pointer (some ⟨b, 0, none⟩), .pointer (some ⟨r, 0, none⟩), .agg #[.int .i64 6, .int .i64 n, .int .u64 id, .int .i64 k, .int .i64 v]] w (fun e w' => e = .returned (.bool true) ∧ Both w1 b B r (does1 T ⟨6, n, id, k, v⟩).2 (does1 T ⟨6, n, id, k, v⟩).2 K w') := by
  have hF := h.fine
  have hl8 : T.L.length ≤ 8 := by have := hF.len; have := hF.s2; omega
  have hA := h.new (OpB 6 n id k v)
  obtain ⟨bx, hbx⟩ : ∃ bx, w.heap.size = bx := ⟨_, rfl⟩
  rw [hbx] at hA
  have HK0 : Hid (addK K bx (OpB 6 n id k v) bx (OpB 6 n id k v)) := Lib.hid (.inr ⟨rfl, rfl⟩)
  have q0 := hA.at HK0.out (j := 0) rfl
  have q1 := hA.at HK0.out (j := 1) rfl
  have q2 := hA.at HK0.out (j := 2) rfl
  have q3 := hA.at HK0.out (j := 3) rfl
  have q4 := hA.at HK0.out (j := 4) rfl
  rw [show (does1 T ⟨6, n, id, k, v⟩).2 = tickT T by simp [does1]]
  have HL := Lib.hid hA.tick
  have HR := Lib.hid (fun K' wx (hx : Both w1 b B r (tickT T) T K' wx) => hx.rtick hF)
  have hti : (tickIds T).length ≤ 8 := by
    rw [tick_ids hF.rise rfl]
    exact Nat.le_trans (tl_len _ _) hl8
  obtain ⟨ids, hids⟩ : ∃ ids, tickIds T = ids := ⟨_, rfl⟩
  rw [hids] at HL hti
  simp only [hids] at HR
  have HTI := Lib.hid hti
  clear h hA hF hl8 hti hids
  go_enter Try.func19, Try.ntmps19
  go_wp2_with (first
    | (go_at_call 13; (with_reducible refine HL.out.mono ?_); rintro e_ w2 ⟨A2, n2, c2, rfl, hn2, hnum2, hB2⟩; subst hn2)
    | (go_at_call 34; (with_reducible refine (HR.out _ _ hB2).mono ?_); rintro e_ w3 ⟨A3, n3, c3, rfl, hn3, hnum3, hB3⟩; subst hn3; have hsm := hnum2.same (fun a o ha ho => hB3.blk (.inr ⟨by rw [ha]; rfl, ho⟩)))
    | (go_at_call 33; (with_reducible refine (rsame_any _ _ _ _ ids ids w3 hsm hnum3 (by have := HTI.out; omega)).mono ?_); rintro e_ w4 ⟨rfl, hb4⟩))
  go_ret
  exact ⟨by simp, (hB3.below hb4).less (fun k o h => .inl (.inl h))⟩
set_option maxRecDepth 100000 in
set_option maxHeartbeats 4000000 in
theorem does_drop (w1 w : World) (b B r : Nat) (T : Tb) (K : Nat → Obj → Prop) (n id k v : Int) (hi1 : 0 ≤ id) (hi2 : id < 18446744073709551616) (h : Both w1 b B r T T K w) :
    Calls Try.prog 19 #[.pointer (some ⟨b, 0, none⟩), .pointer (some ⟨r, 0, none⟩), .agg #[.int .i64 8, .int .i64 n, .int .u64 id, .int .i64 k, .int .i64 v]] w (fun e w' => e = .returned (.bool true) ∧ Both w1 b B r (does1 T ⟨8, n, id, k, v⟩).2 (does1 T ⟨8, n, id, k, v⟩).2 K w') := by
  have hF := h.fine
  have hl8 : T.L.length ≤ 8 := by have := hF.len; have := hF.s2; omega
  have hA := h.new (OpB 8 n id k v)
  obtain ⟨bx, hbx⟩ : ∃ bx, w.heap.size = bx := ⟨_, rfl⟩
  rw [hbx] at hA
  have HK0 : Hid (addK K bx (OpB 8 n id k v) bx (OpB 8 n id k v)) := Lib.hid (.inr ⟨rfl, rfl⟩)
  have q0 := hA.at HK0.out (j := 0) rfl
  have q1 := hA.at HK0.out (j := 1) rfl
  have q2 := hA.at HK0.out (j := 2) rfl
  have q3 := hA.at HK0.out (j := 3) rfl
  have q4 := hA.at HK0.out (j := 4) rfl
  rw [show (does1 T ⟨8, n, id, k, v⟩).2 = dropT T by simp [does1]]
  have HL := Lib.hid (hA.left (fun P hT => drop_any b B P T _ hT))
  have HR := Lib.hid (fun K' wx (hx : Both w1 b B r (dropT T) T K' wx) => hx.right (fun v' hR => rdrop_any r v' T wx hR hl8))
  clear h hA hF hl8
  go_enter Try.func19, Try.ntmps19
  go_wp2_with (first
    | (go_at_call 24; (with_reducible refine HL.out.mono ?_); rintro e_ w2 ⟨rfl, hB2⟩)
    | (go_at_call 36; (with_reducible refine (HR.out _ _ hB2).mono ?_); rintro e_ w3 ⟨rfl, hB3⟩))
  go_ret
  exact ⟨rfl, hB3.less (fun k o h => .inl h)⟩
set_option maxRecDepth 100000 in
set_option maxHeartbeats 4000000 in
theorem does_ended (w1 w : World) (b B r : Nat) (T : Tb) (K : Nat → Obj → Prop) (n id k v : Int) (hi1 : 0 ≤ id) (hi2 : id < 18446744073709551616) (h : Both w1 b B r T T K w) :
    Calls Try.prog 19 #[.pointer (some ⟨b, 0, none⟩), .pointer (some ⟨r, 0, none⟩), .agg #[.int .i64 9, .int .i64 n, .int .u64 id, .int .i64 k, .int .i64 v]] w (fun e w' => e = .returned (.bool true) ∧ Both w1 b B r (does1 T ⟨9, n, id, k, v⟩).2 (does1 T ⟨9, n, id, k, v⟩).2 K w') := by
  have hF := h.fine
  have hl8 : T.L.length ≤ 8 := by have := hF.len; have := hF.s2; omega
  have hA := h.new (OpB 9 n id k v)
  obtain ⟨bx, hbx⟩ : ∃ bx, w.heap.size = bx := ⟨_, rfl⟩
  rw [hbx] at hA
  have HK0 : Hid (addK K bx (OpB 9 n id k v) bx (OpB 9 n id k v)) := Lib.hid (.inr ⟨rfl, rfl⟩)
  have q0 := hA.at HK0.out (j := 0) rfl
  have q1 := hA.at HK0.out (j := 1) rfl
  have q2 := hA.at HK0.out (j := 2) rfl
  have q3 := hA.at HK0.out (j := 3) rfl
  have q4 := hA.at HK0.out (j := 4) rfl
  obtain ⟨x, y, T', hx⟩ : ∃ x y T', endedT T n = (x, y, T') := ⟨_, _, _, rfl⟩
  rw [show (does1 T ⟨9, n, id, k, v⟩).2 = T' by simp [does1, hx]]
  have HL := Lib.hid (hA.left (fun P hT => ended_any b B P T n _ hT))
  have HR := Lib.hid (fun K' wx (hx : Both w1 b B r T' T K' wx) => hx.right (fun v' hR => rended_any r v' T n wx hR hF))
  rw [hx] at HL HR
  obtain ⟨xi, xt, xs, xl, xk, xv⟩ := x
  simp only [entV, Ent.cells] at HL HR
  clear h hA hF hl8 hx
  have yE : (y == y) = true := by simp
  go_enter Try.func19, Try.ntmps19
  subst hbx
  go_wp2_with (first
    | (go_at_call 12; (with_reducible refine HL.out.mono ?_); rintro e_ w2 ⟨rfl, hB2⟩; have hC2 := hB2.new (EntB ⟨xi, xt, xs, xl, xk, xv⟩); have p1 := hC2.at (.inl HK0.out) (j := 1) rfl)
    | (go_at_call 37; (with_reducible refine (HR.out _ _ hC2).mono ?_); rintro e_ w3 ⟨rfl, hB3⟩; have z0 := keep_cell (below_alloc w3 (EntB ⟨xi, xt, xs, xl, xk, xv⟩)) (hB3.at (g := w2.heap.size) (j := 0) (.inr ⟨rfl, rfl⟩) rfl); have z1 := keep_cell (below_alloc w3 (EntB ⟨xi, xt, xs, xl, xk, xv⟩)) (hB3.at (g := w2.heap.size) (j := 1) (.inr ⟨rfl, rfl⟩) rfl); have z2 := keep_cell (below_alloc w3 (EntB ⟨xi, xt, xs, xl, xk, xv⟩)) (hB3.at (g := w2.heap.size) (j := 2) (.inr ⟨rfl, rfl⟩) rfl); have z3 := keep_cell (below_alloc w3 (EntB ⟨xi, xt, xs, xl, xk, xv⟩)) (hB3.at (g := w2.heap.size) (j := 3) (.inr ⟨rfl, rfl⟩) rfl); have z4 := keep_cell (below_alloc w3 (EntB ⟨xi, xt, xs, xl, xk, xv⟩)) (hB3.at (g := w2.heap.size) (j := 4) (.inr ⟨rfl, rfl⟩) rfl); have z5 := keep_cell (below_alloc w3 (EntB ⟨xi, xt, xs, xl, xk, xv⟩)) (hB3.at (g := w2.heap.size) (j := 5) (.inr ⟨rfl, rfl⟩) rfl)))
  go_ret
  exact ⟨rfl, (hB3.below (below_alloc _ _)).less (fun k o h => .inl (.inl h))⟩
set_option maxRecDepth 100000 in
set_option maxHeartbeats 4000000 in
theorem does_valid (w1 w : World) (b B r : Nat) (T : Tb) (K : Nat → Obj → Prop) (n id k v : Int) (hi1 : 0 ≤ id) (hi2 : id < 18446744073709551616) (h : Both w1 b B r T T K w) :
    Calls Try.prog 19 #[.pointer (some ⟨b, 0, none⟩), .pointer (some ⟨r, 0, none⟩), .agg #[.int .i64 10, .int .i64 n, .int .u64 id, .int .i64 k, .int .i64 v]] w (fun e w' => e = .returned (.bool true) ∧ Both w1 b B r (does1 T ⟨10, n, id, k, v⟩).2 (does1 T ⟨10, n, id, k, v⟩).2 K w') := by
  have hF := h.fine
  have hl8 : T.L.length ≤ 8 := by have := hF.len; have := hF.s2; omega
  have hA := h.new (OpB 10 n id k v)
  obtain ⟨bx, hbx⟩ : ∃ bx, w.heap.size = bx := ⟨_, rfl⟩
  rw [hbx] at hA
  have HK0 : Hid (addK K bx (OpB 10 n id k v) bx (OpB 10 n id k v)) := Lib.hid (.inr ⟨rfl, rfl⟩)
  have q0 := hA.at HK0.out (j := 0) rfl
  have q1 := hA.at HK0.out (j := 1) rfl
  have q2 := hA.at HK0.out (j := 2) rfl
  have q3 := hA.at HK0.out (j := 3) rfl
  have q4 := hA.at HK0.out (j := 4) rfl
  have hd : does1 T ⟨10, n, id, k, v⟩ = ([], T) := by simp [does1]
  rw [hd]
  have HL := Lib.hid (hA.rget (id := id) hl8)
  have HR := Lib.hid (fun K' wx (hx : Both w1 b B r T T K' wx) => hx.valid (id := id) (U64.of hi1 hi2))
  clear h hA hF hl8 hd
  cases hg : getL T.L id with
  | none =>
    rw [hg] at HL HR
    simp only [Option.getD_none, Option.isSome_none, entV, Ent.cells, Ent.nil] at HL HR
    clear hg
    go_enter Try.func19, Try.ntmps19
    subst hbx
    go_wp2_with (first
    | (go_at_call 38; (with_reducible refine HL.out.mono ?_); rintro e_ w2 ⟨rfl, hB2⟩; have hC2 := hB2.new (EntB ⟨0, 0, 0, 0, 0, 0⟩); have p2 := hC2.at (.inl HK0.out) (j := 2) rfl)
    | (go_at_call 17; (with_reducible refine (HR.out _ _ hC2).mono ?_); rintro e_ w3 ⟨rfl, rfl⟩))
    go_ret
    exact ⟨rfl, hC2.less (fun k o h => .inl (.inl h))⟩
  | some x =>
    rw [hg] at HL HR
    obtain ⟨xi, xt, xs, xl, xk, xv⟩ := x
    simp only [Option.getD_some, Option.isSome_some, entV, Ent.cells] at HL HR
    clear hg
    by_cases h2 : xs = 2
    · subst h2
      go_enter Try.func19, Try.ntmps19
      subst hbx
      go_wp2_with (first
    | (go_at_call 38; (with_reducible refine HL.out.mono ?_); rintro e_ w2 ⟨rfl, hB2⟩; have hC2 := hB2.new (EntB ⟨xi, xt, 2, xl, xk, xv⟩); have p2 := hC2.at (.inl HK0.out) (j := 2) rfl)
    | (go_at_call 17; (with_reducible refine (HR.out _ _ hC2).mono ?_); rintro e_ w3 ⟨rfl, rfl⟩))
      go_ret
      exact ⟨rfl, hC2.less (fun k o h => .inl (.inl h))⟩
    · have h2E : (xs == 2) = false := by simpa using h2
      simp only [h2E] at HR
      go_enter Try.func19, Try.ntmps19
      subst hbx
      go_wp2_with (first
    | (go_at_call 38; (with_reducible refine HL.out.mono ?_); rintro e_ w2 ⟨rfl, hB2⟩; have hC2 := hB2.new (EntB ⟨xi, xt, xs, xl, xk, xv⟩); have p2 := hC2.at (.inl HK0.out) (j := 2) rfl)
    | (go_at_call 17; (with_reducible refine (HR.out _ _ hC2).mono ?_); rintro e_ w3 ⟨rfl, rfl⟩))
      go_ret
      exact ⟨rfl, hC2.less (fun k o h => .inl (.inl h))⟩
set_option maxRecDepth 100000 in
set_option maxHeartbeats 4000000 in
theorem does_else (w1 w : World) (b B r : Nat) (T : Tb) (K : Nat → Obj → Prop) (d : Int) (n id k v : Int) (hi1 : 0 ≤ id) (hi2 : id < 18446744073709551616) (hd : d < 0 ∨ 10 < d) (h : Both w1 b B r T T K w) :
    Calls Try.prog 19 #[.pointer (some ⟨b, 0, none⟩), .pointer (some ⟨r, 0, none⟩), .agg #[.int .i64 d, .int .i64 n, .int .u64 id, .int .i64 k, .int .i64 v]] w (fun e w' => e = .returned (.bool true) ∧ Both w1 b B r (does1 T ⟨d, n, id, k, v⟩).2 (does1 T ⟨d, n, id, k, v⟩).2 K w') := by
  have hF := h.fine
  have hl8 : T.L.length ≤ 8 := by have := hF.len; have := hF.s2; omega
  have hA := h.new (OpB d n id k v)
  obtain ⟨bx, hbx⟩ : ∃ bx, w.heap.size = bx := ⟨_, rfl⟩
  rw [hbx] at hA
  have HK0 : Hid (addK K bx (OpB d n id k v) bx (OpB d n id k v)) := Lib.hid (.inr ⟨rfl, rfl⟩)
  have q0 := hA.at HK0.out (j := 0) rfl
  have q1 := hA.at HK0.out (j := 1) rfl
  have q2 := hA.at HK0.out (j := 2) rfl
  have q3 := hA.at HK0.out (j := 3) rfl
  have q4 := hA.at HK0.out (j := 4) rfl
  have hd2 : does1 T ⟨d, n, id, k, v⟩ = ([], T) := dElse T d n id k v (by omega)
  rw [hd2]
  have d0 : (d == 0) = false := by simp; omega
  have d1 : (d == 1) = false := by simp; omega
  have d2 : (d == 2) = false := by simp; omega
  have d3 : (d == 3) = false := by simp; omega
  have d4 : (d == 4) = false := by simp; omega
  have d5 : (d == 5) = false := by simp; omega
  have d6 : (d == 6) = false := by simp; omega
  have d7 : (d == 7) = false := by simp; omega
  have d8 : (d == 8) = false := by simp; omega
  have d9 : (d == 9) = false := by simp; omega
  have d10 : (d == 10) = false := by simp; omega
  have HA := Lib.hid hA
  clear h hA hF hl8 hd hd2
  go_enter Try.func19, Try.ntmps19
  subst hbx
  go_wp2
  go_ret
  exact ⟨rfl, HA.out.less (fun k o h => .inl h)⟩
end Go.Proofs.Ytfknkkcpieaikaa
