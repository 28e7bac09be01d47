/- Collect: all that the iterator hands out, in a row of one's own. Condition: the iterator is a path's. -/
import Derived.Test.YtcmogmplfigikaaBools
namespace Go.Proofs.Ytcmogmplfigikaa
open Go.RowKit Go.Shelf
attribute [local go_sem] Oper.semAt_some
set_option linter.unusedVariables false
set_option linter.unusedSimpArgs false

def unS (pre : List ByteArray) : List (List UInt8) := pre.map (·.data.toList)
theorem unS_snoc (pre : List ByteArray) (x : ByteArray) : rowP (unS (pre ++ [x])) = rowP (unS pre) ++ [.string x] := by simp [rowP, unS, strL_of]
theorem unS_len (pre : List ByteArray) : (unS pre).length = pre.length := by simp [unS]
theorem unS_names (s : ByteArray) : unS (namesS s) = namesL s.data.toList := by
  unfold unS namesS
  rw [List.map_map]
  exact List.map_id'' (fun n => strL_data n) _

def CollI (w : World) (pre : List ByteArray) (W : World) : Prop :=
  (∃ v, Boxed W w.heap.size 38 v ∧ W.ownsRow w.heap.size 9 1 v pre.length (rowP (unS pre)) ∧ True) ∧ Below w.heap.size w W
theorem collI_own (w : World) (B : Nat) (hB : w.heap.size ≤ B) : OwnFrom B (CollI w) :=
  OwnFrom.and (Own.from (holdsRow_own w.heap.size w.heap.size 38 9 1 (fun pre : List ByteArray => pre.length) (fun pre : List ByteArray => rowP (unS pre)) (fun pre v => True)) _) (ownFrom_below (Nat.le_refl _) hB)

set_option maxRecDepth 100000 in
set_option maxHeartbeats 2000000 in
theorem appendSeq_in (s : ByteArray) (Bn : Nat) (w : World) (hBn : w.cell? ⟨Bn, 0, none⟩ = some (.string s)) :
    CallsIn Fence.wide 3 Try.prog 29 #[.slice none 0 0, .func (.func 30) #[] #[.pointer (some ⟨Bn, 0, none⟩)]] w fun e W' => ∃ v, e = .returned v ∧ W'.ownsRow w.heap.size 9 1 v (namesL s.data.toList).length (rowP (namesL s.data.toList)) ∧ Below w.heap.size w W' := by
  have hNl := namesS_len s
  have hlt := World.block_lt_of_cell? _ _ hBn
  obtain ⟨i0, hi, hz0, hz1, hz2⟩ := info_parts info9
  have hml : 1000 ≤ maxLen := by decide
  refine callsIn_of_wp_marks Try.func29 rfl trivial ?_ rfl
  simp only [Try.ntmps29, List.size_toArray, List.length_cons, List.length_nil, Nat.reduceAdd, Nat.reduceSub, Array.replicate_succ, Array.replicate_zero, List.push_toArray, List.append_toArray, List.nil_append, List.cons_append]
  gi_wp2
  have bO := Boxed.new w 38 (.slice none 0 0)
  have hB0 : Below w.heap.size w (w.alloc (.cells #[.slice none 0 0] 38)) := (Below.refl _ w).alloc (Nat.le_refl _) _
  have hc2 : (w.alloc (.cells #[.slice none 0 0] 38)).cell? ⟨Bn, 0, none⟩ = some (.string s) := (hB0.cell (p := ⟨Bn, 0, none⟩) hlt).trans hBn
  refine wpIn_rangeFunc_ownG rfl (by omega) (gf := 30) (lb := #[.pointer (some ⟨Bn, 0, none⟩)]) rfl trivial (enters_of Try.func30 (by kernel_rfl) rfl)
    (names_stops _ (by omega) Bn w.heap.size s (w.alloc (.cells #[.slice none 0 0] 38)) (by simp; have : Bn < w.heap.size := hlt; omega) hc2) belowK_t (belowK_b (by simp)) (Below.refl _ _) (fun _ => rfl)
    (CollI w) (fun _ _ _ => False) (collI_own _ _ (by simp)) (fun _ _ _ _ _ hs _ _ => hs)
    ⟨⟨_, bO, World.ownsRow_nil _ _ _ _, trivial⟩, hB0⟩
    (fun x => { tmps := #[.slice none 0 0, .func (.func 30) #[] #[.pointer (some ⟨Bn, 0, none⟩)], .pointer (some ⟨w.heap.size, 0, none⟩), undef, .slice none 0 0, .string x, .func (.func 30) #[] #[.pointer (some ⟨Bn, 0, none⟩)], .string x, undef, undef, undef, undef, undef], defers := [] }) ?assign ?body ?done ?stop
  case assign =>
    intro l x W K hK
    gi_wp2
    exact hK
  case body =>
    rintro l pre x W ⟨⟨v, hv, hrow, -⟩, hB⟩ hlt
    have hc := hv.cell
    gi_wp2_with (gi_at_builtin; refine wpListIn_append_own _ rfl _ _ 38 rfl w.heap.size 9 i0 (.string ⟨#[]⟩) 1 16 Try.underlying38 hi hz0 hz1 hz2 rfl (by decide) _ _ _ rfl (hrow.alloc _) ⟨W.heap.size, 0, none⟩ 1 1 [.string x] rfl rfl (cell_one_new _ _ _) (by simp [Value.oneCell']) (by omega) (by omega) (by have := hB.size; simp; omega) ?_; intro v' w1 hown' hgrow _; obtain ⟨g', cap', rfl⟩ := ownsRow_succ hown'; obtain ⟨hv1, hv2, hr2, hk2, hb2⟩ := hv.appended (by decide) hrow hB.size (Nat.le_refl _) hown' hgrow; have hc1 := hv1.cell; have hf1 := hv1.frozen)
    exact ⟨hk2.from _, hb2, ⟨_, hv2, by rw [unS_snoc, List.length_append]; exact hr2, trivial⟩, hB.trans hb2⟩
  case done =>
    rintro D ys W hD rfl ⟨⟨v, hv, hrow, -⟩, hB⟩ hK
    have hc := hv.cell
    have hl : (namesS s).length = (namesL s.data.toList).length := by rw [← unS_names, unS_len]
    rw [unS_names, hl] at hrow
    gi_wp2
    refine ⟨by simp, .inl ⟨_, _, rfl, run_takeDeferred hK, ?_⟩⟩
    exact ⟨_, results_tmp rfl _ _ _, v, rfl, ownsRow_putObj hrow _ hK rfl, hB.trans (belowK_b (w := w) (Nat.le_refl _) W D _ _ (by simp at hD; omega) hK rfl rfl)⟩
  case stop =>
    rintro D c pre W _ _ h _
    exact h.elim

set_option maxRecDepth 100000 in
theorem collect_any (s : ByteArray) (Bn : Nat) (w : World) (hBn : w.cell? ⟨Bn, 0, none⟩ = some (.string s)) :
    Calls Try.prog 19 #[.func (.func 30) #[] #[.pointer (some ⟨Bn, 0, none⟩)]] w (Gives (namesL s.data.toList) w) := by
  have A := callsIn_wide.1 (appendSeq_in s Bn w hBn)
  go_enter Try.func19, Try.ntmps19
  go_wp2_with (go_at_call 29; refine A.mono ?_; rintro e w1 ⟨v, rfl, hr, hb⟩)
  go_ret
  exact ⟨v, rfl, strsAt_of_row hr, hb⟩
theorem pathNames_any (s : ByteArray) (w : World) : Calls Try.prog 20 #[.string s] w fun e w' => e = .returned (.func (.func 30) #[] #[.pointer (some ⟨w.heap.size, 0, none⟩)]) ∧ w' = w.alloc (.cells #[.string s] 9) :=
  callsIn_wide.1 (all_in 3 s w)
end Go.Proofs.Ytcmogmplfigikaa
