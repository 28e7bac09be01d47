/- Instructions, as the world holds them; halves and places; load. No conditions. -/
import Derived.Test.YtjmmbadpknlmcaaNorm
import Derived.Test.YtjmmbadpknlmcaaWeigh
import Derived.Maps.OwnOps
import Derived.Maps.Views
section
namespace Go.Proofs.Ytjmmbadpknlmcaa
open Go.RowKit
set_option linter.unusedVariables false
set_option linter.unusedSimpArgs false

def lo (n : Int) : Int := n % 4294967296
def hi (n : Int) : Int := n / 4294967296 % 4294967296
set_option maxRecDepth 100000 in
theorem halves_any (n : Int) (w : World) : Calls Try.prog 58 #[.int .u64 n] w (fun e w' => e = .returned (.tuple #[.int .u32 (lo n), .int .u32 (hi n)]) ∧ w = w') := by
  go_enter Try.func58, Try.ntmps58
  go_wp2
  go_ret2
  exact ⟨rfl, rfl⟩
set_option maxRecDepth 100000 in
theorem place_any (a : Int) (h0 : 0 ≤ a) (h5 : a ≤ 5) (w : World) : Calls Try.prog 57 #[.int .i64 a] w (fun e w' => e = .returned (.tuple #[.int .u32 (16 + 8 * a), .int .u32 (16 + 8 * a + 4), .int .i64 0]) ∧ w = w') := by
  have e1 : (a < 0) = False := eq_false (by omega)
  have e2 : (5 < a) = False := eq_false (by omega)
  go_enter Try.func57, Try.ntmps57
  go_wp2
  exact bodyPost_ret (v := .tuple #[.int .u32 (16 + 8 * a), .int .u32 (16 + 8 * a + 4), .int .i64 0]) (by simp [results, Try.results57, go_sem]) rfl ⟨rfl, rfl⟩

/-- An instruction. -/
structure Ins where
  c : Int
  jt : Int
  jf : Int
  k : Int
  deriving Inhabited, DecidableEq
def Ins.cells (i : Ins) : Array Value := #[.int .u16 i.c, .int .u8 i.jt, .int .u8 i.jf, .int .u32 i.k]
def rowI (l : List Ins) : List Value := l.flatMap (fun i => i.cells.toList)
theorem info70 : (Try.prog.info? 70).map (fun i => (i.zero, i.size, i.bytes)) = some (some (.agg #[.int .u16 0, .int .u8 0, .int .u8 0, .int .u32 0]), 4, 8) := by kernel_rfl
theorem under29 : Try.prog.underlying 29 = some (.slice 70) := by kernel_rfl
theorem rowI_append (l m : List Ins) : rowI (l ++ m) = rowI l ++ rowI m := by unfold rowI; rw [List.flatMap_append]
theorem rowI_one (i : Ins) : rowI [i] = i.cells.toList := by simp [rowI]
theorem rowI_len (l : List Ins) : (rowI l).length = l.length * 4 := by
  unfold rowI
  induction l with
  | nil => rfl
  | cons a r ih => rw [List.flatMap_cons, List.length_append, ih, List.length_cons]; simp [Ins.cells]; omega
/-- v is a row of its own that holds l, laid at lo or behind. -/
def InsOwn (lo : Nat) (w : World) (v : Value) (l : List Ins) : Prop := w.ownsRow lo 70 4 v l.length (rowI l)
/-- A call that makes such a row, and turns nothing. -/
def InsPost (l : List Ins) (w : World) (e : Ending) (w' : World) : Prop := ∃ A c, e = .returned (.slice A l.length c) ∧ InsOwn w.heap.size w' (.slice A l.length c) l ∧ Below w.heap.size w w'
theorem owns_form {w : World} {b : Nat} {e : TypeId} {size n : Nat} {v : Value} {xs : List Value} (h : w.ownsRow b e size v n xs) : ∃ A c, v = .slice A n c := by
  rcases h.2 with ⟨rfl, h0⟩ | ⟨g, cap, cur, rfl, _⟩
  · exact ⟨none, 0, by rw [h0]⟩
  · exact ⟨_, _, rfl⟩
theorem cells_new (w : World) (cs : Array Value) (t : TypeId) : ∀ j u, cs.toList[j]? = some u → (w.alloc (.cells cs t)).cell? ((⟨w.heap.size, 0, none⟩ : Addr).add j) = some u := by
  intro j u hj
  have : cs[j]? = some u := by rw [← Array.getElem?_toList]; exact hj
  have := new_cell w cs t j this
  unfold Addr.add
  split
  · rename_i h
    have h : j = 0 := by simpa using h
    subst h
    exact this
  · simpa using this
/-- A new row of instructions. -/
theorem own_new {w : World} {lo b n : Nat} {l : List Ins} {cs : Array Value} (hb : w.heap.size = b) (hn : l.length = n) (hcs : cs.toList = rowI l) (hlo : lo ≤ w.heap.size) (hm : l.length ≤ 1000000) : InsOwn lo (w.alloc (.cells cs 70)) (.slice (some ⟨b, 0, none⟩) n n) l := by
  subst hb hn
  have hl := rowI_len l
  refine ⟨hl, .inr ⟨w.heap.size, l.length, cs, rfl, hlo, World.alloc_heap_new _ _, Nat.le_refl _, by unfold maxLen; omega, ?_, ?_⟩⟩
  · rw [← Array.length_toList, hcs, hl]
  · rw [hcs, ← hl, List.take_length]
/-! ### load -/
def loadL (a m : Int) : List Ins := if m = 4294967295 then [⟨32, 0, 0, a⟩] else [⟨32, 0, 0, a⟩, ⟨84, 0, 0, m⟩]
set_option maxRecDepth 100000 in
set_option maxHeartbeats 1000000 in
theorem load_any (a m v : Int) (w : World) : Calls Try.prog 59 #[.agg #[.int .u32 a, .int .u32 m, .int .u32 v]] w (InsPost (loadL a m) w) := by
  obtain ⟨i0, hi0, hz0, hz1, hz2⟩ := info_parts info70
  unfold loadL
  by_cases hm : m = 4294967295
  · subst hm
    rw [if_pos rfl]
    go_enter Try.func59, Try.ntmps59
    go_wp2
    go_ret
    exact ⟨_, 1, rfl, own_new (w := w.alloc _) (by simp) rfl rfl (by simp) (by simp), (below_alloc w _).trans ((below_alloc _ _).mono (by simp))⟩
  · rw [if_neg hm]
    have hmE : (m == 4294967295) = false := by simpa using hm
    have o1 : InsOwn w.heap.size ((w.alloc (.cells #[.int .u32 a, .int .u32 m, .int .u32 v] 120)).alloc (.cells #[.int .u16 32, .int .u8 0, .int .u8 0, .int .u32 a] 70)) (.slice (some ⟨w.heap.size + 1, 0, none⟩) 1 1) [⟨32, 0, 0, a⟩] := own_new (w := w.alloc _) (by simp) rfl rfl (by simp) (by simp)
    have O1 := Lib.hid o1
    have o1' : World.ownsRow _ w.heap.size 70 4 (.slice (some ⟨w.heap.size + 1, 0, none⟩) 1 1) 1 (rowI [⟨32, 0, 0, a⟩]) := o1
    clear o1
    go_enter Try.func59, Try.ntmps59
    go_wp2_with (at_builtin; refine wpList_append_own _ rfl _ _ 29 rfl w.heap.size 70 i0 _ 4 8 under29 hi0 hz0 hz1 hz2 rfl (by decide) _ _ _ rfl (o1'.alloc _) ⟨w.heap.size + 1 + 1, 0, none⟩ 1 1 [.int .u16 84, .int .u8 0, .int .u8 0, .int .u32 m] rfl rfl (by have := cells_new ((w.alloc (.cells #[.int .u32 a, .int .u32 m, .int .u32 v] 120)).alloc (.cells #[.int .u16 32, .int .u8 0, .int .u8 0, .int .u32 a] 70)) #[.int .u16 84, .int .u8 0, .int .u8 0, .int .u32 m] 70; simpa using this) (by simp [Value.oneCell']) (by unfold maxLen; omega) (by omega) (by simp; omega) ?_; intro v' w5 hown' hg5 hnil5; obtain ⟨A5, c5, rfl⟩ := owns_form hown'; go_frame)
    go_ret
    exact ⟨A5, c5, rfl, hown', (((below_alloc w _).trans ((below_alloc _ _).mono (by simp))).trans ((below_alloc _ _).mono (by simp; omega))).grown hg5 (by simp; omega) (fun k hk => by cases hk; show w.heap.size ≤ w.heap.size + 1; omega)⟩
end Go.Proofs.Ytjmmbadpknlmcaa
end
section
/- The map of a condition's form to its jump. No conditions. -/
namespace Go.Proofs.Ytjmmbadpknlmcaa
open Go.RowKit Go.WideShapes Go.Maps
set_option linter.unusedVariables false
set_option linter.unusedSimpArgs false
set_option maxRecDepth 100000

theorem under121 : Try.prog.underlying 121 = some (.map 3 68) := by kernel_rfl
theorem under3 : Try.prog.underlying 3 = some (.int .i64) := by kernel_rfl
theorem under68 : Try.prog.underlying 68 = some (.int .u16) := by kernel_rfl
theorem zero68 (w : World) : (zeroValue 68).run Try.prog w = .ok (.int .u16 0) w := by
  have h : (Try.prog.info? 68).map (·.zero) = some (some (.int .u16 0)) := by kernel_rfl
  cases hi : Try.prog.info? 68 with
  | none => simp [hi] at h
  | some i =>
    simp [hi] at h
    simp [zeroValue, typeInfo, Sem.run, hi, h]
def keyI (n : Int) : Lit := .int .i64 n
theorem keyI_ne {s t : Int} (h : s ≠ t) : keyI s ≠ keyI t := by
  intro h'
  unfold keyI at h'
  injection h' with _ h'
  exact h h'
theorem keyOf_i {x : Int} (h : (Lit.int .i64 x).wf = true) : keyOf Try.prog 3 (.int .i64 x) = some (keyI x) := by
  simp [keyOf, under3, mapKey, keyI, h]
/-- Block b is a map of ints to codes: what it tells. -/
def CodeIs (w : World) (b n : Nat) (f : Int → Int) : Prop :=
  ∃ D : DataW Unit, w.ownsMap Try.prog 3 (plainElem Try.prog 68) b n D ∧ IsMap D ∧ ∀ k, D.atKey (keyI k) (.lit (.int .u16 0)) = .lit (.int .u16 (f k))
theorem CodeIs.made (w : World) : CodeIs (w.alloc (.map #[] 0)) w.heap.size 0 (fun _ => 0) := ⟨.map [], World.ownsMap_made w _ _ _, isMap_empty, fun s => rfl⟩
theorem plain68 {x : Int} (h : (Lit.int .u16 x).wf = true) : plainElem (H := Unit) Try.prog 68 (.int .u16 x) = some (.lit (.int .u16 x), []) := by
  unfold plainElem
  rw [under68]
  simp [h]
theorem plain68_inv {v : Value} {x : Int} {ps : List MemPlace} (h : plainElem (H := Unit) Try.prog 68 v = some (.lit (.int .u16 x), ps)) : v = .int .u16 x := by
  unfold plainElem at h
  rw [under68] at h
  cases v <;> simp at h
  obtain ⟨h1, h2, h3⟩ := h
  simp_all
theorem CodeIs.look {w : World} {b n : Nat} {f : Int → Int} (h : CodeIs w b n f) (k : Int) (hk : (Lit.int .i64 k).wf = true) :
    (Instr.lookup 121 (.map (some b)) (.int .i64 k) false).run Try.prog w = .ok (.int .u16 (f k)) w := by
  obtain ⟨D, ho, hm, ha⟩ := h
  obtain ⟨v, ps, hrun, hv⟩ := ho.lookup (int_keyed under3) under121 (zero68 w) (plain68 (x := 0) (by decide)) (keyOf_i hk)
  rw [ha k] at hv
  rw [hrun, plain68_inv hv]
theorem CodeIs.add {w : World} {b n : Nat} {f : Int → Int} (h : CodeIs w b n f) (hn : n < 1000000) (k c : Int) (hk : (Lit.int .i64 k).wf = true) (hc : (Lit.int .u16 c).wf = true) :
    ∃ w', (Instr.mapUpdate 121 (.map (some b)) (.int .i64 k) (.int .u16 c)).run Try.prog w = .ok () w' ∧ CodeIs w' b (n + 1) (fun t => if t = k then c else f t) ∧ w.grownBy w' (some b) := by
  obtain ⟨D, ho, hm, ha⟩ := h
  obtain ⟨w', hrun, ho', hg⟩ := ho.update (int_keyed under3) under121 (by unfold maxLen; omega) (keyOf_i hk) (plain68 hc)
  refine ⟨w', hrun, ⟨_, ho', hm.put _ _, fun t => ?_⟩, hg⟩
  by_cases e : t = k
  · subst e
    rw [atKey_put_same hm (by unfold keyI; simp [WideAt.IsKeyLit])]
    simp
  · rw [atKey_put_other (keyI_ne e), ha]
    simp [e]
theorem wpList_ins {ops : Array Oper} {rest : List Oper} {o : Oper} {a : Act} {Q : Exit → Act → World → Prop} (w : World)
    (hg : o.guard = none) (m x v : Operand) (hop : o.op = Op.insert 121 m x v) (b n : Nat) (f : Int → Int)
    (hm : a.eval m = .map (some b)) (h : CodeIs w b n f) (hn : n < 1000000) (k c : Int) (hx : a.eval x = .int .i64 k) (hv : a.eval v = .int .u16 c) (hk : (Lit.int .i64 k).wf = true) (hc : (Lit.int .u16 c).wf = true)
    (hK : ∀ w', CodeIs w' b (n + 1) (fun t => if t = k then c else f t) → w.grownBy w' (some b) → wpList Try.prog ops Q rest (a.put o.dst undef) w') :
    wpList Try.prog ops Q (o :: rest) a w := by
  refine wpList_plain hg fun K' hK' => ?_
  obtain ⟨w', hrun, r1, r2⟩ := h.add hn k c hk hc
  unfold Oper.wp
  simp [execOp, hop, hm, hx, hv, hrun, Result.andThen]
  exact hK' _ _ (hK w' r1 r2)
end Go.Proofs.Ytjmmbadpknlmcaa
end
