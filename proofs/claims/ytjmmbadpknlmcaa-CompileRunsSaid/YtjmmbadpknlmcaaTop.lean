/- How a law's row follows from its walk: the call returns true, and below the heap's old size nothing has turned. No conditions: any program, any law of one bool. -/
import Derived.ProofKit
import Derived.Below
import Derived.OpenShut
namespace Go.Proofs.Ytjmmbadpknlmcaa
open Go.ChangeShapes Go.WideShapes Go.RowKit

section
variable {H : Type} {enc : TypeId × Value → H} {P : Program}

theorem trodAll_below (hl : laidOutB P = true) {W W' : World} (hb : Below W.heap.size W W') :
    ∀ {ts : List TypeId} {vs : List Value} {ds : List (DataW H)} {ps : List MemPlace},
      (∀ t ∈ ts, P.readableRec t = true ∧ t < P.types.size) → DataW.TrodAll enc P W 0 (fun _ => true) true ts vs ds ps → (∀ x ∈ ps, x.block < W.heap.size) →
      DataW.TrodAll enc P W' 0 (fun b => decide (b < W.heap.size)) true ts vs ds ps
  | [], [], [], _, _, h, _ => h
  | t :: ts, v :: vs, d :: ds, ps, hts, h, hlt => by
    obtain ⟨p, q, h1, h2, rfl⟩ := h
    have ht := hts t (List.mem_cons_self ..)
    exact ⟨p, q, Below.trod hl ht.1 ht.2 h1 hb (fun x hx => hlt x (List.mem_append_left _ hx)),
      trodAll_below hl hb (fun t' h' => hts t' (List.mem_cons_of_mem _ h')) h2 (fun x hx => hlt x (List.mem_append_right _ hx)), rfl⟩
  | [], _ :: _, _, _, _, h, _ => h.elim
  | [], [], _ :: _, _, _, h, _ => h.elim
  | _ :: _, [], _, _, _, h, _ => h.elim
  | _ :: _, _ :: _, [], _, _, h, _ => h.elim

theorem law_post {f : Func} {s : ChangeSpec} {W W' : World} {args : Array Value} {ds gs : List (DataW H)} {before : List MemPlace} {tb : TypeId}
    (hW : DataW.Whole enc P f.params.toList s.vars false W args.toList ds gs before) (hv : s.vars = []) (hr : f.resultTypes = #[tb]) (htb : P.underlying tb = some .bool)
    (hspec : s.fn H (ds ++ gs) = { results := [.lit (.bool true)], args := ds }) (hl : laidOutB P = true)
    (hts : ∀ t ∈ f.params.toList, P.readableRec t = true ∧ t < P.types.size) (hb : Below W.heap.size W W') :
    s.post enc P f false true false false W args (.bool true) W' := by
  have hlt : ∀ x ∈ before, x.block < W.heap.size := fun x hx => by simpa using hW.lt x hx
  have hW' := hW
  obtain ⟨p, q, hA, hV, rfl, _, _⟩ := hW
  rw [hv] at hV
  obtain ⟨rfl, rfl⟩ := trodVars_none hV
  refine ⟨ds, [], p ++ [], [], p, [], hW', ?_, ?_, ?_, hb.frame _, fun h => by cases h⟩
  · rw [hspec, hr]
    exact trodAll_mk1 (shut_bool htb true)
  · rw [hspec]
    exact trodAll_below hl hb hts hA (fun x hx => hlt x (List.mem_append_left _ hx))
  · rw [hspec, hv]
    rfl

section
variable {w : World} {base : Nat} {spare : Nat → Bool} {held : Bool} {r : Reach} {b0 : Nat}
/-- A struct by value: its cells, and each field's own reading. -/
theorem open_struct {t : TypeId} {fs : Array Field} {v : Value} {d : DataW H} {p : List MemPlace} (hs : P.underlying t = some (.struct fs)) (hv : Value.okWide P w r b0 t v) (h : DataW.Trod enc P w base spare held t v d p) :
    ∃ cs : List Value, v = .agg cs.toArray ∧ cs.length = P.cellsOf t ∧
      ∀ (i : Nat) (ty : TypeId) (off k : Nat), (fs[i]?).map (fun f => (f.type, f.offset)) = some (ty, off) → P.cellsOf ty = k → ∃ n x, DataW.trod enc P w base spare held n ty ((cs.drop off).take k) = some x := by
  obtain ⟨cs, rfl, hsz⟩ := okWide_struct hs hv
  obtain ⟨l⟩ := cs
  obtain ⟨fuel, hf⟩ := h
  obtain ⟨xs, n, _, _, _, hlen, hg⟩ := DataW.trod_struct hs hf
  refine ⟨l, rfl, by simpa using hsz, fun i ty off k hm hk => ?_⟩
  obtain ⟨f, hif, hm⟩ := Option.map_eq_some_iff.1 hm
  simp only [Prod.mk.injEq] at hm
  obtain ⟨rfl, rfl⟩ := hm
  subst hk
  have h1 := hg i f hif
  have hl : i < xs.length := by rw [hlen]; exact (Array.getElem?_eq_some_iff.1 hif).1
  refine ⟨n, xs[i], ?_⟩
  rw [← List.getElem?_eq_getElem hl, ← h1]
  simp [Value.cells]

theorem okWide_arr_val {t e : TypeId} {m : Nat} {v : Value} (ht : P.underlying t = some (.array m e)) (h : Value.okWide P w r b0 t v) : ∃ cs : Array Value, v = .agg cs ∧ cs.size = P.cellsOf t := by
  simp only [Value.okWide, ht] at h
  obtain ⟨cs, h1, h2, _⟩ := h
  exact ⟨cs, h1, h2⟩

/-- An array by value: each element's own reading. -/
theorem open_array {t e : TypeId} {m fuel : Nat} {cs : List Value} {x : DataW H × List MemPlace} (hs : P.underlying t = some (.array m e)) (h : DataW.trod enc P w base spare held fuel t cs = some x) :
    ∀ i, i < m → ∃ n y, DataW.trod enc P w base spare held n e ((cs.drop (i * P.cellsOf e)).take (P.cellsOf e)) = some y := by
  obtain ⟨xs, n, _, _, _, hlen, hg⟩ := DataW.trod_array hs h
  intro i hi
  have hl : i < xs.length := by omega
  refine ⟨n, xs[i], ?_⟩
  rw [← List.getElem?_eq_getElem hl, ← hg i hi]

/-- A field that is an integer. -/
theorem int_of {t : TypeId} {k : IntKind} {c : Value} (hs : P.underlying t = some (.int k)) (h : ∃ n x, DataW.trod enc P w base spare held n t [c] = some x) : ∃ a, c = .int k a ∧ (Lit.int k a).wf = true := by
  obtain ⟨n, x, h⟩ := h
  obtain ⟨a, hc, _, hw⟩ := DataW.trod_int hs h
  exact ⟨a, by simpa using hc, hw⟩
theorem bool_of {t : TypeId} {c : Value} (hs : P.underlying t = some .bool) (h : ∃ n x, DataW.trod enc P w base spare held n t [c] = some x) : ∃ b, c = .bool b := by
  obtain ⟨n, x, h⟩ := h
  obtain ⟨b, hc, _⟩ := DataW.trod_bool hs h
  exact ⟨b, by simpa using hc⟩
end
theorem list4 {α : Type} {l : List α} (h : l.length = 4) : ∃ a b c d, l = [a, b, c, d] := by
  match l, h with
  | [a, b, c, d], _ => exact ⟨a, b, c, d, rfl⟩
theorem list6 {α : Type} {l : List α} (h : l.length = 6) : ∃ a b c d e f, l = [a, b, c, d, e, f] := by
  match l, h with
  | [a, b, c, d, e, f], _ => exact ⟨a, b, c, d, e, f, rfl⟩
theorem list2 {α : Type} {l : List α} (h : l.length = 2) : ∃ a b, l = [a, b] := by
  match l, h with
  | [a, b], _ => exact ⟨a, b, rfl⟩
theorem list9 {α : Type} {l : List α} (h : l.length = 9) : ∃ a b c d e f g i j, l = [a, b, c, d, e, f, g, i, j] := by
  match l, h with
  | [a, b, c, d, e, f, g, i, j], _ => exact ⟨a, b, c, d, e, f, g, i, j, rfl⟩
end
end Go.Proofs.Ytjmmbadpknlmcaa
