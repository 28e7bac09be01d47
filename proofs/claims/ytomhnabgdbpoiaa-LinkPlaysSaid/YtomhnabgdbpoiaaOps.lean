/- The ops: what they are; few. No conditions. -/
import Derived.Test.YtomhnabgdbpoiaaOrder2
namespace Go.Proofs.Ytomhnabgdbpoiaa
open Go.ChangeShapes Go.WideShapes Go.RowKit
attribute [local go_sem ↓] Go.wp_at_zero Go.wp_at_succ
set_option linter.unusedVariables false
set_option linter.unusedSimpArgs false

theorem cells39 : Try.prog.cellsOf 39 = 5 := by kernel_rfl
theorem cells3 : Try.prog.cellsOf 3 = 1 := by kernel_rfl
def I64 (x : Int) : Prop := -9223372036854775808 ≤ x ∧ x < 9223372036854775808
theorem i64_wf {x : Int} (h : (Lit.int .i64 x).wf = true) : I64 x := by
  simp [Lit.wf, IntKind.min, IntKind.max, IntKind.signed, IntKind.bits] at h
  exact ⟨by omega, by omega⟩
/-- An op. -/
structure OpIs where
  do_ : Int
  n : Int
  bit : Int
  up : Bool
  sv : Value
  bs : List Int
def OpAt (w : World) (gl o : Nat) (x : OpIs) : Prop :=
  w.cell? ⟨gl, o, none⟩ = some (.int .i64 x.do_) ∧ w.cell? ⟨gl, o + 1, none⟩ = some (.int .i64 x.n) ∧ w.cell? ⟨gl, o + 2, none⟩ = some (.int .i64 x.bit) ∧ w.cell? ⟨gl, o + 3, none⟩ = some (.bool x.up) ∧ w.cell? ⟨gl, o + 4, none⟩ = some x.sv
def OpsArg (w : World) (v : Value) (n : Nat) (op : Nat → OpIs) : Prop :=
  ∃ A c, v = .slice A n c ∧ n ≤ 9223372036854775807 ∧ (0 < n → ∃ gl o, A = some ⟨gl, o, none⟩ ∧ ∀ i, i < n → OpAt w gl (o + i * 5) (op i)) ∧ ∀ i, i < n → SlArg w (op i).sv (op i).bs ∧ Bytes8 (op i).bs ∧ I64 (op i).n ∧ I64 (op i).bit
theorem SlArg.keep {w w1 : World} {v : Value} {bs : List Int} (h : SlArg w v bs) (hb : Below w.heap.size w w1) : SlArg w1 v bs := by
  obtain ⟨A, n, c, h1, h2, h3, h4⟩ := h
  refine ⟨A, n, c, h1, h2, h3, fun h0 => ?_⟩
  obtain ⟨gb, o, h5, h6⟩ := h4 h0
  exact ⟨gb, o, h5, h6.below hb⟩
theorem OpAt.below {w w1 : World} {gl o : Nat} {x : OpIs} (h : OpAt w gl o x) (hb : Below w.heap.size w w1) : OpAt w1 gl o x := by
  obtain ⟨h0, h1, h2, h3, h4⟩ := h
  have k : ∀ {p : Addr} {u : Value}, w.cell? p = some u → w1.cell? p = some u := fun h => (hb.cell (World.block_lt_of_cell? _ _ h)).trans h
  exact ⟨k h0, k h1, k h2, k h3, k h4⟩
theorem OpsArg.below {w w1 : World} {v : Value} {n : Nat} {op : Nat → OpIs} (h : OpsArg w v n op) (hb : Below w.heap.size w w1) : OpsArg w1 v n op := by
  obtain ⟨A, c, h1, h2, h3, h4⟩ := h
  refine ⟨A, c, h1, h2, fun h0 => ?_, fun i hi => ?_⟩
  · obtain ⟨gl, o, h5, h6⟩ := h3 h0
    exact ⟨gl, o, h5, fun i hi => (h6 i hi).below hb⟩
  · obtain ⟨h5, h6⟩ := h4 i hi
    exact ⟨h5.keep hb, h6⟩
instance : Inhabited OpIs := ⟨⟨0, 0, 0, false, .slice none 0 0, []⟩⟩

section
variable {H : Type} {enc : TypeId × Value → H} {w : World} {base : Nat} {held : Bool} {r : Reach} {b0 : Nat}
theorem BytesArg.sl {w : World} {v : Value} {bs : List Int} (h : BytesArg w v bs) : SlArg w v bs ∧ Bytes8 bs := by
  obtain ⟨A, n, c, h1, h2, h3, h4, h5⟩ := h
  exact ⟨⟨A, n, c, h1, h2, h3, h5⟩, h4⟩
theorem open_op {a : Addr} {n : Nat} {d : DataW H × List MemPlace} (h : ∃ cs', w.cells? base a 5 = some cs' ∧ DataW.trod enc Try.prog w base (fun _ => true) held n 39 cs' = some d) :
    ∃ gl o x, a = ⟨gl, o, none⟩ ∧ OpAt w gl o x ∧ SlArg w x.sv x.bs ∧ Bytes8 x.bs ∧ I64 x.n ∧ I64 x.bit := by
  obtain ⟨cs, hcs, hd⟩ := h
  obtain ⟨_, hlen, hcell⟩ := World.cells?_some hcs
  obtain ⟨xs, k, hk, hxy, _, hxl, hf⟩ := DataW.trod_struct Try.underlying39 hd
  match xs, hxl, cs, hlen with
  | [y0, y1, y2, y3, y4], _, [v0, v1, v2, v3, v4], _ =>
    have g0 := hf 0 _ rfl
    have g1 := hf 1 _ rfl
    have g2 := hf 2 _ rfl
    have g3 := hf 3 _ rfl
    have g4 := hf 4 _ rfl
    simp [cells3, cells4, cells30] at g0 g1 g2 g3 g4
    obtain ⟨x0, e0, _, w0⟩ := DataW.trod_int Try.underlying3 g0
    obtain ⟨x1, e1, _, w1⟩ := DataW.trod_int Try.underlying3 g1
    obtain ⟨x2, e2, _, w2⟩ := DataW.trod_int Try.underlying3 g2
    obtain ⟨x3, e3, _⟩ := DataW.trod_bool Try.underlying4 g3
    obtain ⟨bs, hb⟩ := bytes_of ⟨_, _, g4⟩
    simp at e0 e1 e2 e3
    subst e0 e1 e2 e3
    have c0 := hcell 0 (by omega)
    have c1 := hcell 1 (by omega)
    have c2 := hcell 2 (by omega)
    have c3 := hcell 3 (by omega)
    have c4 := hcell 4 (by omega)
    obtain ⟨b, o, rfl⟩ := plain_add c0
    rw [addr_add] at c0 c1 c2 c3 c4
    exact ⟨b, o, ⟨x0, x1, x2, x3, v4, bs⟩, rfl, ⟨c0, c1, c2, c3, c4⟩, hb.sl.1, hb.sl.2, i64_wf w1, i64_wf w2⟩
theorem open_ops {v : Value} {d : DataW H} {p : List MemPlace} (hv : Value.okWide Try.prog w r b0 36 v) (h : DataW.Trod enc Try.prog w base (fun _ => true) held 36 v d p) : ∃ n op, OpsArg w v n op := by
  obtain ⟨a, len, cap, rfl⟩ := okWide_slice Try.underlying36 hv
  obtain ⟨f, hf⟩ := h
  have hf' : DataW.trod enc Try.prog w base (fun _ => true) held f 36 [.slice a len cap] = some (d, p) := hf
  rcases Deep.open_slice Try.underlying36 hf' with ⟨hc, _⟩ | ⟨a, len, cap, m, n, D, Pl, hc, _, hl, hm, hmm, _, hr⟩
  · simp at hc
    obtain ⟨rfl, rfl, rfl⟩ := hc
    exact ⟨0, fun _ => default, none, 0, rfl, by omega, fun h => by omega, fun i hi => by omega⟩
  · simp at hc
    obtain ⟨rfl, rfl, rfl⟩ := hc
    simp only [if_true] at hmm
    subst hmm
    rw [cells39] at hr
    have each : ∀ i, i < m → ∃ x : OpIs, ∃ gl o, a.add (i * 5) = ⟨gl, o, none⟩ ∧ OpAt w gl o x ∧ SlArg w x.sv x.bs ∧ Bytes8 x.bs ∧ I64 x.n ∧ I64 x.bit := fun i hi => by
      obtain ⟨gl, o, x, h⟩ := open_op (hr i hi)
      exact ⟨x, gl, o, h⟩
    obtain ⟨op, hop⟩ := Deep.choose_lt each
    refine ⟨_, op, some a, _, rfl, by unfold maxLen at hm; omega, fun h0 => ?_, fun i hi => ?_⟩
    · obtain ⟨gl, o, h1, h2, _⟩ := hop 0 (by omega)
      have : ∃ b o, a = ⟨b, o, none⟩ := plain_add (u := .int .i64 (op 0).do_) (w := w) (by
        have := h2.1
        rw [← h1] at this
        simpa using this)
      obtain ⟨b, o', rfl⟩ := this
      refine ⟨b, o', rfl, fun i hi => ?_⟩
      obtain ⟨gl', o2, h3, h4, _⟩ := hop i (by omega)
      rw [addr_add] at h3
      injection h3 with e1 e2 _
      subst e1 e2
      exact h4
    · obtain ⟨_, _, _, _, h5, h6, h7, h8⟩ := hop i (by omega)
      exact ⟨h5, h6, h7, h8⟩
end

def Few (n : Nat) (op : Nat → OpIs) (w : World) (e : Ending) (w' : World) : Prop := ∃ b, e = .returned (.bool b) ∧ w = w' ∧ (b = true → n ≤ 200 ∧ ∀ i, i < n → (op i).bs.length ≤ 1100)
def FewRel (n : Nat) (op : Nat → OpIs) (u : Value) : Prop := ∃ k : Nat, k ≤ n ∧ u = .int .i64 k ∧ ∀ i, i < k → (op i).bs.length ≤ 1100
theorem few_any (v : Value) (n : Nat) (op : Nat → OpIs) (w : World) (h : OpsArg w v n op) : Calls Try.prog 12 #[v] w (Few n op w) := by
  obtain ⟨A, c, rfl, hm, hl, hf⟩ := h
  have Hl := Lib.hid hl
  have Hf := Lib.hid hf
  clear hl hf
  go_enter Try.func12, Try.ntmps12
  go_wp2
  go_loop [3] (fun u => FewRel n op u) (fun u => n - (intOf u).toNat)
  case atStart => exact ⟨0, Nat.zero_le _, rfl, fun i hi => by omega⟩
  case round =>
    obtain ⟨k, hk, rfl, hall⟩ := hrel
    have Hall := Lib.hid hall
    clear hall
    by_cases hlt : k < n
    · obtain ⟨gl, o, rfl, hop⟩ := Hl.out (by omega)
      obtain ⟨_, _, _, _, c4⟩ := hop k hlt
      obtain ⟨⟨A', m, c', hsv, hbl, hm', _⟩, _⟩ := Hf.out k hlt
      rw [hsv] at c4
      have Hbl := Lib.hid hbl
      clear hop hsv hbl
      by_cases hbig : m ≤ 1100
      · have x1 : ¬ (1100 : Int) < (m : Int) := by omega
        go_wp2
        go_round
        case rel => exact ⟨k + 1, by omega, by go_num, fun i hi => by
          by_cases hik : i = k
          · subst hik; rw [Hbl.out]; exact hbig
          · exact Hall.out i (by omega)⟩
        case measure => simp [intOf]; omega
      · have x1 : (1100 : Int) < (m : Int) := by omega
        go_wp2
        go_ret
        exact ⟨false, rfl, rfl, fun h => by cases h⟩
    · obtain rfl : n = k := by omega
      clear Hl
      by_cases h200 : n ≤ 200
      · have x1 : (n : Int) ≤ 200 := by omega
        go_wp2
        go_ret
        exact ⟨_, rfl, rfl, fun _ => ⟨h200, Hall.out⟩⟩
      · have x1 : decide ((n : Int) ≤ 200) = false := by simp; omega
        go_wp2
        go_ret
        exact ⟨_, rfl, rfl, fun h => by first | (cases h; done) | (simp at h; omega)⟩
end Go.Proofs.Ytomhnabgdbpoiaa
