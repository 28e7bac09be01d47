/- Arguments as they come in, with their numbers' kinds. No conditions. -/
import Derived.Test.YtjmmbadpknlmcaaSem
namespace Go.Proofs.Ytjmmbadpknlmcaa
open Go.ChangeShapes Go.WideShapes Go.RowKit Go.ChangeMaps
set_option linter.unusedVariables false
set_option maxRecDepth 100000

theorem wf64 {x : Int} (h : (Lit.int .u64 x).wf = true) : U64 x := by
  simp [Lit.wf, IntKind.has] at h
  have e1 : IntKind.min .u64 = 0 := by decide
  have e2 : IntKind.max .u64 = 18446744073709551615 := by decide
  simp only [e1, e2] at h
  exact ⟨h.1, by omega⟩
theorem wf32 {x : Int} (h : (Lit.int .u32 x).wf = true) : U32 x := by
  simp [Lit.wf, IntKind.has] at h
  have e1 : IntKind.min .u32 = 0 := by decide
  have e2 : IntKind.max .u32 = 4294967295 := by decide
  simp only [e1, e2] at h
  exact ⟨h.1, by omega⟩
def CndW (w : World) (g o : Nat) (c : Cnd) : Prop := CndQ w g o c ∧ WfC c
def RulW (w : World) (g o : Nat) (r : Rul) : Prop := RulQ w g o r ∧ ∀ c ∈ r.cs, WfC c
theorem list_part {α : Type} {sz : Nat} {Q : World → Nat → Nat → α → Prop} {P : α → Prop} {w : World} {v : Value} {L : List α} (h : ListAt sz (fun w g o x => Q w g o x ∧ P x) w v L) : ListAt sz Q w v L ∧ ∀ x ∈ L, P x := by
  obtain ⟨A, c, h1, h2, h3⟩ := h
  refine ⟨⟨A, c, h1, h2, fun h0 => ?_⟩, fun x hx => ?_⟩
  · obtain ⟨g, o, h5, h6⟩ := h3 h0
    exact ⟨g, o, h5, fun i x hx => (h6 i x hx).1⟩
  · obtain ⟨i, hi⟩ := List.getElem?_of_mem hx
    obtain ⟨g, o, h5, h6⟩ := h3 (List.length_pos_of_mem hx)
    exact (h6 i x hi).2
def DatQ (w : World) (g o : Nat) (d : Dat) : Prop := ∀ j v, d.arr[j]? = some v → w.cell? ⟨g, o + j, none⟩ = some v
section
variable {H : Type} {enc : TypeId × Value → H} {w : World} {base : Nat} {held : Bool} {r : Reach} {b0 : Nat}
theorem open_cndsW {c : Value} (h : ∃ n x, DataW.trod enc Try.prog w base (fun _ => true) held n 42 [c] = some x) : ∃ L, CndsAt w c L ∧ ∀ x ∈ L, WfC x := by
  refine Exists.elim (open_list (fun w g o x => CndQ w g o x ∧ WfC x) Try.underlying42 cells40 (fun a n d h => ?_) h) (fun L hL => ⟨L, (list_part hL).1, (list_part hL).2⟩)
  obtain ⟨cs, hcs, hd⟩ := h
  obtain ⟨_, hlen, hcell⟩ := World.cells?_some hcs
  obtain ⟨xs, k, hk, hxy, _, hxl, hf⟩ := DataW.trod_struct Try.underlying40 hd
  match xs, hxl, cs, hlen with
  | [y0, y1, y2, y3], _, [v0, v1, v2, v3], _ =>
    have g0 := hf 0 _ rfl
    have g1 := hf 1 _ rfl
    have g2 := hf 2 _ rfl
    have g3 := hf 3 _ rfl
    simp [cells3, cells38] at g0 g1 g2 g3
    obtain ⟨x0, rfl, _⟩ := int_of Try.underlying3 ⟨_, _, g0⟩
    obtain ⟨x1, rfl, _⟩ := int_of Try.underlying3 ⟨_, _, g1⟩
    obtain ⟨x2, rfl, w2⟩ := int_of Try.underlying38 ⟨_, _, g2⟩
    obtain ⟨x3, rfl, w3⟩ := int_of Try.underlying38 ⟨_, _, g3⟩
    have c0 := hcell 0 (by omega)
    have c1 := hcell 1 (by omega)
    have c2 := hcell 2 (by omega)
    have c3 := hcell 3 (by omega)
    obtain ⟨b, o, rfl⟩ := plain_add' c0
    rw [addr_add'] at c0 c1 c2 c3
    exact ⟨b, o, rfl, ⟨x0, x1, x2, x3⟩, ⟨c0, c1, c2, c3⟩, (wf64 w2).1, (wf64 w2).2, (wf64 w3).1, (wf64 w3).2⟩
theorem open_rulsW {c : Value} (h : ∃ n x, DataW.trod enc Try.prog w base (fun _ => true) held n 24 [c] = some x) : ∃ L, RulsAt w c L ∧ WfL L := by
  refine Exists.elim (open_list (fun w g o x => RulQ w g o x ∧ ∀ c ∈ x.cs, WfC c) Try.underlying24 cells44 (fun a n d h => ?_) h) (fun L hL => ⟨L, (list_part hL).1, (list_part hL).2⟩)
  obtain ⟨cs, hcs, hd⟩ := h
  obtain ⟨_, hlen, hcell⟩ := World.cells?_some hcs
  obtain ⟨xs, k, hk, hxy, _, hxl, hf⟩ := DataW.trod_struct Try.underlying44 hd
  match xs, hxl, cs, hlen with
  | [y0, y1, y2], _, [v0, v1, v2, v3], _ =>
    have g0 := hf 0 _ rfl
    have g1 := hf 1 _ rfl
    have g2 := hf 2 _ rfl
    simp [cells23, cells41, cells42] at g0 g1 g2
    obtain ⟨zs, k', _, _, _, hzl, hz⟩ := DataW.trod_struct Try.underlying23 g0
    match zs, hzl with
    | [z0, z1], _ =>
      have q0 := hz 0 _ rfl
      have q1 := hz 1 _ rfl
      simp [cells3] at q0 q1
      obtain ⟨x0, rfl, _⟩ := int_of Try.underlying3 ⟨_, _, q0⟩
      obtain ⟨x1, rfl, _⟩ := int_of Try.underlying3 ⟨_, _, q1⟩
      obtain ⟨ns, hns⟩ := open_strsAt ⟨_, _, g1⟩
      obtain ⟨cn, hcn, hwf⟩ := open_cndsW ⟨_, _, g2⟩
      have c0 := hcell 0 (by omega)
      have c1 := hcell 1 (by omega)
      have c2 := hcell 2 (by omega)
      have c3 := hcell 3 (by omega)
      obtain ⟨b, o, rfl⟩ := plain_add' c0
      rw [addr_add'] at c0 c1 c2 c3
      exact ⟨b, o, rfl, ⟨x0, x1, ns, cn⟩, ⟨v2, v3, c0, c1, c2, c3, hns, hcn⟩, hwf⟩
/-- Rules that came in. -/
theorem open_rulesW {v : Value} {d : DataW H} {p : List MemPlace} (hv : Value.okWide Try.prog w r b0 26 v) (h : DataW.Trod enc Try.prog w base (fun _ => true) held 26 v d p) :
    ∃ k a lv L, v = .agg #[.int .i64 k, .int .i64 a, lv] ∧ RulsAt w lv L ∧ WfL L := by
  obtain ⟨cs, rfl, hl, hf⟩ := open_struct Try.underlying26 hv h
  rw [cells26] at hl
  match cs, hl with
  | [v0, v1, v2], _ =>
    obtain ⟨n, x, g0⟩ := hf 0 23 0 2 rfl cells23
    obtain ⟨n2, x2, g1⟩ := hf 1 24 2 1 rfl cells24
    simp at g0 g1
    obtain ⟨zs, k', _, _, _, hzl, hz⟩ := DataW.trod_struct Try.underlying23 g0
    match zs, hzl with
    | [z0, z1], _ =>
      have q0 := hz 0 _ rfl
      have q1 := hz 1 _ rfl
      simp [cells3] at q0 q1
      obtain ⟨x0, rfl, _⟩ := int_of Try.underlying3 ⟨_, _, q0⟩
      obtain ⟨x1, rfl, _⟩ := int_of Try.underlying3 ⟨_, _, q1⟩
      obtain ⟨L, hL, hw⟩ := open_rulsW ⟨_, _, g1⟩
      exact ⟨x0, x1, v2, L, rfl, hL, hw⟩
theorem data_cells {cs : List Value} (hl : cs.length = 9)
    (hf : ∀ (i : Nat) (ty : TypeId) (off k : Nat), ([(45, 0, 1), (45, 1, 1), (38, 2, 1), (46, 3, 6)] : List (TypeId × Nat × Nat))[i]? = some (ty, off, k) → ∃ n x, DataW.trod enc Try.prog w base (fun _ => true) held n ty ((cs.drop off).take k) = some x) :
    ∃ d : Dat, WfD d ∧ cs = d.arr.toList := by
  match cs, hl with
  | [v0, v1, v2, v3, v4, v5, v6, v7, v8], _ =>
    obtain ⟨n0, y0, g0⟩ := hf 0 45 0 1 rfl
    obtain ⟨n1, y1, g1⟩ := hf 1 45 1 1 rfl
    obtain ⟨n2, y2, g2⟩ := hf 2 38 2 1 rfl
    obtain ⟨n, x, g3⟩ := hf 3 46 3 6 rfl
    simp at g0 g1 g2 g3
    obtain ⟨a0, rfl, w0⟩ := int_of Try.underlying45 ⟨_, _, g0⟩
    obtain ⟨a1, rfl, w1⟩ := int_of Try.underlying45 ⟨_, _, g1⟩
    obtain ⟨a2, rfl, w2⟩ := int_of Try.underlying38 ⟨_, _, g2⟩
    have E := open_array Try.underlying46 g3
    obtain ⟨m0, z0, e0⟩ := E 0 (by omega)
    obtain ⟨m1, z1, e1⟩ := E 1 (by omega)
    obtain ⟨m2, z2, e2⟩ := E 2 (by omega)
    obtain ⟨m3, z3, e3⟩ := E 3 (by omega)
    obtain ⟨m4, z4, e4⟩ := E 4 (by omega)
    obtain ⟨m5, z5, e5⟩ := E 5 (by omega)
    simp [cells38] at e0 e1 e2 e3 e4 e5
    obtain ⟨b0, rfl, u0⟩ := int_of Try.underlying38 ⟨_, _, e0⟩
    obtain ⟨b1, rfl, u1⟩ := int_of Try.underlying38 ⟨_, _, e1⟩
    obtain ⟨b2, rfl, u2⟩ := int_of Try.underlying38 ⟨_, _, e2⟩
    obtain ⟨b3, rfl, u3⟩ := int_of Try.underlying38 ⟨_, _, e3⟩
    obtain ⟨b4, rfl, u4⟩ := int_of Try.underlying38 ⟨_, _, e4⟩
    obtain ⟨b5, rfl, u5⟩ := int_of Try.underlying38 ⟨_, _, e5⟩
    refine ⟨⟨a0, a1, a2, b0, b1, b2, b3, b4, b5⟩, ⟨wf32 w0, wf32 w1, fun a => ?_⟩, rfl⟩
    unfold Dat.arg argI
    repeat' split
    · exact wf64 u0
    · exact wf64 u1
    · exact wf64 u2
    · exact wf64 u3
    · exact wf64 u4
    · exact wf64 u5
/-- A call that came in. -/
theorem open_dataW {v : Value} {d : DataW H} {p : List MemPlace} (hv : Value.okWide Try.prog w r b0 48 v) (h : DataW.Trod enc Try.prog w base (fun _ => true) held 48 v d p) :
    ∃ d : Dat, WfD d ∧ v = .agg d.arr := by
  obtain ⟨cs, rfl, hl, hf⟩ := open_struct Try.underlying48 hv h
  rw [cells48] at hl
  obtain ⟨d, hd, e⟩ := data_cells hl (fun i ty off k hi => by
    match i, hi with
    | 0, hi => cases hi; exact hf 0 45 0 1 rfl cells45
    | 1, hi => cases hi; exact hf 1 45 1 1 rfl cells45
    | 2, hi => cases hi; exact hf 2 38 2 1 rfl cells38
    | 3, hi => cases hi; exact hf 3 46 3 6 rfl cells46)
  exact ⟨d, hd, by rw [e]⟩
theorem open_datas {c : Value} (h : ∃ n x, DataW.trod enc Try.prog w base (fun _ => true) held n 53 [c] = some x) : ∃ L : List Dat, ListAt 9 DatQ w c L ∧ ∀ x ∈ L, WfD x := by
  haveI : Inhabited Dat := ⟨⟨0, 0, 0, 0, 0, 0, 0, 0, 0⟩⟩
  refine Exists.elim (open_list (fun w g o x => DatQ w g o x ∧ WfD x) Try.underlying53 cells48 (fun a n d h => ?_) h) (fun L hL => ⟨L, (list_part hL).1, (list_part hL).2⟩)
  obtain ⟨cs, hcs, hd⟩ := h
  obtain ⟨_, hlen, hcell⟩ := World.cells?_some hcs
  obtain ⟨xs, k, hk, hxy, _, hxl, hf⟩ := DataW.trod_struct Try.underlying48 hd
  have hdc : ∀ (i : Nat) (ty : TypeId) (off k : Nat), ([(45, 0, 1), (45, 1, 1), (38, 2, 1), (46, 3, 6)] : List (TypeId × Nat × Nat))[i]? = some (ty, off, k) → ∃ n x, DataW.trod enc Try.prog w base (fun _ => true) held n ty ((cs.drop off).take k) = some x := by
    match xs, hxl with
    | [y0, y1, y2, y3], _ =>
      intro i ty off k' hi
      match i, hi with
      | 0, hi =>
        cases hi
        have this : ∃ n x, DataW.trod enc Try.prog w base (fun _ => true) held n 45 ((cs.drop 0).take (Try.prog.cellsOf 45)) = some x := ⟨_, _, hf 0 _ rfl⟩
        rw [cells45] at this
        exact this
      | 1, hi =>
        cases hi
        have this : ∃ n x, DataW.trod enc Try.prog w base (fun _ => true) held n 45 ((cs.drop 1).take (Try.prog.cellsOf 45)) = some x := ⟨_, _, hf 1 _ rfl⟩
        rw [cells45] at this
        exact this
      | 2, hi =>
        cases hi
        have this : ∃ n x, DataW.trod enc Try.prog w base (fun _ => true) held n 38 ((cs.drop 2).take (Try.prog.cellsOf 38)) = some x := ⟨_, _, hf 2 _ rfl⟩
        rw [cells38] at this
        exact this
      | 3, hi =>
        cases hi
        have this : ∃ n x, DataW.trod enc Try.prog w base (fun _ => true) held n 46 ((cs.drop 3).take (Try.prog.cellsOf 46)) = some x := ⟨_, _, hf 3 _ rfl⟩
        rw [cells46] at this
        exact this
  obtain ⟨d, hwd, e⟩ := data_cells (enc := enc) (w := w) (base := base) (held := held) (cs := cs) hlen hdc
  subst e
  have c0 : w.cell? (a.add 0) = some (.int .u32 d.nr) := hcell 0 (by omega)
  obtain ⟨b, o, rfl⟩ := plain_add' c0
  refine ⟨b, o, rfl, d, fun j v hj => ?_, hwd⟩
  have hjl : j < 9 := by have := (Array.getElem?_eq_some_iff.1 hj).1; simpa [Dat.arr] using this
  have hcj := hcell j hjl
  rw [addr_add'] at hcj
  rw [hcj, Array.getElem?_toList]
  exact hj
end
end Go.Proofs.Ytjmmbadpknlmcaa
