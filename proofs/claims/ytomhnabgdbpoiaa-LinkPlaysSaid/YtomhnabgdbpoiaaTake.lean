/- cut and Take: what they do to the rows. Conditions: the link lies at its block. -/
import Derived.Test.YtomhnabgdbpoiaaChecked
import Derived.Test.YtomhnabgdbpoiaaSend
import Derived.WalkLawsBesides
import Derived.WalkSmall
import Derived.Deep.RegionHeld3
import Derived.Deep.RegionLaw
import Derived.Deep.DrawnRows
import Derived.Deep.QuietTactic
import Derived.BigQuiet
import Derived.Lib.Hide
namespace Go.Proofs.Ytomhnabgdbpoiaa
open Go.RowKit
attribute [local go_sem ↓] Go.wp_at_zero Go.wp_at_succ
set_option linter.unusedVariables false
set_option linter.unusedSimpArgs false

theorem owns_cap {w : World} {base : Nat} {e : TypeId} {size : Nat} {A : Option Addr} {n c : Nat} {xs : List Value} (h : w.ownsRow base e size (.slice A n c) n xs) : n ≤ c ∧ c ≤ maxLen := by
  rcases h.2 with ⟨h1, rfl⟩ | ⟨g, cap, cur, h1, _, _, h2, h3, _⟩
  · injection h1 with _ _ h1
    subst h1
    exact ⟨Nat.le_refl _, Nat.zero_le _⟩
  · injection h1 with _ _ h1
    subst h1
    exact ⟨h2, h3⟩
theorem take_some {α : Type} {l : List α} {k j : Nat} {u : α} (h : (l.take k)[j]? = some u) : l[j]? = some u := by
  rw [List.getElem?_take] at h
  split at h
  · exact h
  · cases h
theorem Frms.oneCell {w : World} : ∀ {vs : List Value} {gs : List Nat} {fs : List (List Int)}, Frms w vs gs fs → ∀ u ∈ vs, u.oneCell' = true
  | [], [], [], _, u, hu => by simp at hu
  | v :: _, _ :: _, _ :: _, ⟨h1, h3⟩, u, hu => by
    rcases List.mem_cons.1 hu with rfl | hu
    · obtain ⟨A, c, e⟩ := owns_form h1.1.1
      rw [e]; rfl
    · exact h3.oneCell u hu
  | [], [], _ :: _, h, _, _ => h.elim
  | [], _ :: _, _, h, _, _ => h.elim
  | _ :: _, [], _, h, _, _ => h.elim
  | _ :: _, _ :: _, [], h, _, _ => h.elim

theorem addr_add (b o j : Nat) : (⟨b, o, none⟩ : Addr).add j = ⟨b, o + j, none⟩ := by
  unfold Addr.add
  split
  · rename_i h
    have h : j = 0 := by simpa using h
    subst h
    rfl
  · rfl
theorem drop_cells {w w1 : World} {r n cu k : Nat} {xs : List Value} (hr : w.ownsRow 0 30 1 (.slice (some ⟨r, 0, none⟩) n cu) n xs) (hU : Upto (fun _ => False) w w1) :
    ∀ (j : Nat) u, (xs.drop (k + 1))[j]? = some u → w1.cell? ((⟨r, k + 1, none⟩ : Addr).add j) = some u := fun j u hu => by
  rw [addr_add]
  rw [List.getElem?_drop] at hu
  have := hr.cells (g := r) rfl (k + 1 + j) u hu
  rw [addr_add, Nat.zero_add] at this
  exact hU.cell (fun h => h.elim) this

/-- The frame at place k is no longer the link's. -/
def Gone (gb : Nat) : Nat → Prop := fun k => k = gb

theorem cut_close {w w2 : World} {g : Nat} {st : St} {F : Nat → Prop} {v : Bool → Value} {us : Bool → List Value} {gs : Bool → List Nat} (hP : Parts w g st F v us gs) (up : Bool) {k : Nat} {v2 : Value} {n2 : Nat} {xs2 : List Value}
    (hk : k < (st up).length) (U2 : Upto (fun _ => False) w w2) (hown2 : w2.ownsRow 0 30 1 v2 n2 xs2) (hxs : xs2 = (us up).take k ++ (us up).drop (k + 1)) (hn2 : n2 = xs2.length)
    (hat : ∀ b, v2.ownBlock = some b → w.heap.size ≤ b) (b2 : w2.heap[g]? = some (.cells #[v true, v false] 28 (0, 0))) (w3 : World) (hw3 : w3 = w2.setCell ⟨g, if up then 0 else 1, none⟩ v2) :
    ∃ gb, (gs up)[k]? = some gb ∧ LinkPost w g F (Gone gb) (upd st up ((st up).take k ++ (st up).drop (k + 1))) w3 ∧ Upto (fun k => k = g ∨ (v up).ownBlock = some k) w w3 := by
  subst hw3 hn2
  have hlen := hP.len up
  have hgl := (hP.frms up).lens.2
  have hfr := hP.frms up
  have hU2 : Upto (fun k => k = g ∨ (v up).ownBlock = some k) w w2 := U2.mono (fun _ h => h.elim)
  have hU3 := hU2.setCell (p := ⟨g, if up then 0 else 1, none⟩) (.inl (.inl rfl)) v2
  have hne : v2.ownBlock ≠ some g := fun e => by
    obtain ⟨cs, hc⟩ := own_block_type hown2 e
    exact cells_ne hc b2 (by decide) rfl
  have hsub : (gs up).take k ++ (gs up).drop (k + 1) = (gs up).eraseIdx k := (List.eraseIdx_eq_take_drop_succ _ _).symm
  refine ⟨(gs up)[k]'(by omega), List.getElem?_eq_getElem _, ?_, hU3⟩
  refine hP.update (Gone _) up v2 xs2 ((gs up).take k ++ (gs up).drop (k + 1)) _ hU3 ?_ ?_ ?_ ?_ ?_ ?_ ?_ ?_
  · rw [cells_set b2, Parts.set]
  · exact ownsRow_setCell_other hown2 hne _
  · rw [hxs]
    have hx : ∀ j ∈ (gs up).take k ++ (gs up).drop (k + 1), ¬ (j = g ∨ (v up).ownBlock = some j) := fun j hj h => by
      have hj' : j ∈ gs up := (List.mem_append.1 hj).elim List.mem_of_mem_take List.mem_of_mem_drop
      rcases h with h | h
      · exact hP.frm_ne_g up hj' h
      · exact hP.frm_ne_row up up hj' h rfl
    exact ((hfr.take_ k).append (hfr.drop_ (k + 1))).upto hU3 hx
  · rw [hsub]; exact (List.eraseIdx_sublist _ _).nodup (hP.nodup up)
  · have := hP.few up; simp; omega
  · intro j hj
    obtain ⟨cs, hc⟩ := own_block_type hown2 hj
    exact .inr ⟨hat j hj, by have := lt_of_block hc; simpa [World.setCell] using this⟩
  · intro j hj
    exact .inl ((List.mem_append.1 hj).elim List.mem_of_mem_take List.mem_of_mem_drop)
  · rintro j rfl
    refine ⟨List.getElem_mem _, ?_⟩
    rw [hsub]
    intro hm
    have hnd := hP.nodup up
    rw [List.mem_eraseIdx_iff_getElem] at hm
    obtain ⟨i, hi, hne', he⟩ := hm
    exact hne' ((List.getElem_inj hnd).1 he)

theorem at_ge {w : World} {v1 : Value} (h : v1.ownBlock = (Value.slice none 0 0).ownBlock ∨ v1.ownBlock = some w.heap.size) {b : Nat} (hb : v1.ownBlock = some b) : w.heap.size ≤ b := by
  rcases h with h | h
  · rw [h] at hb; simp [Value.ownBlock] at hb
  · rw [h] at hb; cases hb; exact Nat.le_refl _
theorem at_ge2 {w w1 : World} {v1 v2 : Value} (h : v1.ownBlock = (Value.slice none 0 0).ownBlock ∨ v1.ownBlock = some w.heap.size) (h2 : v2.ownBlock = v1.ownBlock ∨ v2.ownBlock = some w1.heap.size) (hs : w.heap.size ≤ w1.heap.size) :
    ∀ b, v2.ownBlock = some b → w.heap.size ≤ b := by
  intro b hb
  rcases h2 with h2 | h2
  · exact at_ge h (h2 ▸ hb)
  · rw [h2] at hb; cases hb; exact hs

/-- It returns nothing; the frame at place k is out. -/
def Cuts (w : World) (g : Nat) (F : Nat → Prop) (v : Bool → Value) (gs : Bool → List Nat) (st : St) (up : Bool) (k : Nat) (e : Ending) (w' : World) : Prop :=
  e = .returned (.tuple #[]) ∧ ∃ gb, (gs up)[k]? = some gb ∧ LinkPost w g F (Gone gb) (upd st up ((st up).take k ++ (st up).drop (k + 1))) w' ∧ Upto (fun k => k = g ∨ (v up).ownBlock = some k) w w'

set_option maxRecDepth 100000 in
theorem cut_true (g : Nat) (st : St) (F : Nat → Prop) (v : Bool → Value) (us : Bool → List Value) (gs : Bool → List Nat) (w : World) (hP : Parts w g st F v us gs) (k : Nat) (hk : k < (st true).length) :
    Calls Try.prog 20 #[.pointer (some ⟨g, 0, none⟩), .int .i64 k] w (Cuts w g F v gs st true k) := by
  have hr := hP.owns true
  have hlen := hP.len true
  obtain ⟨r, cu, hv, _, lr⟩ := hr.form (by omega)
  have hg := hP.blk
  rw [hv] at hg hr
  obtain ⟨n, hn⟩ : ∃ n, (us true).length = n := ⟨_, rfl⟩
  rw [hn] at hr hg hv hlen
  have hkn : k < n := by omega
  have hfew := hP.few true
  have hn64 : n ≤ 64 := by omega
  have lg : g < w.heap.size := lt_of_block hg
  obtain ⟨i30, hi30, hz30, hs30, hb30⟩ := info_parts info30
  have c0 : w.cell? ⟨g, 0, none⟩ = some (.slice (some ⟨r, 0, none⟩) n cu) := cell_of_row w g 0 _ _ _ hg
  obtain ⟨hcu, hmx⟩ := owns_cap hr
  have N0 : ∀ (j : Nat) u, ((us true).take k)[j]? = some u → w.cell? ((⟨r, 0, none⟩ : Addr).add j) = some u := fun j u hu => hr.cells (g := r) rfl j u (take_some hu)
  have O0 : ∀ u ∈ (us true).take k, u.oneCell' = true := fun u hu => (hP.frms true).oneCell u (List.mem_of_mem_take hu)
  replace N0 := Lib.hid N0
  replace O0 := Lib.hid O0
  have HP := Lib.hid hP
  have Hlen := Lib.hid hlen
  have Hn := Lib.hid hn
  have Hv := Lib.hid hv
  have Hg := Lib.hid hg
  clear hP hlen hn hv hg hfew
  go_enter Try.func20, Try.ntmps20
  by_cases hq : cu = k + 1
  · obtain rfl : n = k + 1 := by omega
    subst hq
    go_wp2_with (first | (at_builtin; refine wpList_append_own_at _ rfl (Operand.tmp 5) (Operand.tmp 10) _ rfl 0 30 i30 _ 1 24 Try.underlying26 hi30 hz30 hs30 hb30 rfl (by omega) (.slice none 0 0) 0 [] rfl (World.ownsRow_nil _ _ _ _) ⟨r, 0, none⟩ k (k + 1) ((us true).take k) rfl (by simp [Hn.out] <;> omega) N0.out O0.out (by unfold maxLen; omega) (by omega) (Nat.zero_le _) ?_; intro v1 w1 hown1 hgrow1 hnil1 hat1; have U1 : Upto (fun _ => False) w w1 := (Upto.refl _ w).grown hgrow1 (fun k hk => by simp [Value.ownBlock] at hk); have b1 : w1.heap[g]? = some (.cells #[.slice (some ⟨r, 0, none⟩) (k + 1) (k + 1), v false] 28 (0, 0)) := U1.blk (fun h => h.elim) Hg.out; have d0 : w1.cell? ⟨g, 0, none⟩ = some (.slice (some ⟨r, 0, none⟩) (k + 1) (k + 1)) := cell_of_row w1 g 0 _ _ _ b1; have own1 : w1.ownsRow 0 30 1 v1 k ((us true).take k) := (by simpa using hown1); replace b1 := Lib.hid b1; have at1 := Lib.hid hat1; clear hnil1 hat1 hown1) | (at_builtin; refine wpList_append_own_at _ rfl (Operand.tmp 13) (Operand.tmp 19) _ rfl 0 30 i30 _ 1 24 Try.underlying26 hi30 hz30 hs30 hb30 rfl (by omega) v1 k ((us true).take k) rfl own1 ⟨r, 0, none⟩ 0 0 [] rfl (by simp) (by simp) (by simp) (by unfold maxLen; omega) (by omega) (Nat.zero_le _) ?_; intro v2 w2 hown2 hgrow2 hnil2 hat2; have U2 : Upto (fun _ => False) w w2 := U1.grown hgrow2 (fun b hb => .inr (at_ge at1.out hb)); have hblk : ∀ b, v2.ownBlock = some b → w.heap.size ≤ b := (at_ge2 at1.out hat2 U1.size); have b2 : w2.heap[g]? = some (.cells #[.slice (some ⟨r, 0, none⟩) (k + 1) (k + 1), v false] 28 (0, 0)) := U2.blk (fun h => h.elim) Hg.out; have e0 : w2.cell? ⟨g, 0, none⟩ = some (.slice (some ⟨r, 0, none⟩) (k + 1) (k + 1)) := cell_of_row w2 g 0 _ _ _ b2; have f0 : w2.frozen? ⟨g, 0, none⟩ = false := frozen_of_row b2; replace b2 := Lib.hid b2; obtain ⟨A2, c2, rfl⟩ := owns_form hown2; replace hblk := Lib.hid hblk; clear hnil2 hat2))
    go_end0
    exact ⟨rfl, cut_close HP.out true hk U2 hown2 (by rw [List.drop_eq_nil_of_le (by rw [Hn.out]; omega)]) (by simp [Hn.out]) hblk.out (by have := b2.out; rw [← Hv.out] at this; exact this) _ rfl⟩
  · have hq' : k + 1 < cu := by omega
    go_wp2_with (first | (at_builtin; refine wpList_append_own_at _ rfl (Operand.tmp 5) (Operand.tmp 10) _ rfl 0 30 i30 _ 1 24 Try.underlying26 hi30 hz30 hs30 hb30 rfl (by omega) (.slice none 0 0) 0 [] rfl (World.ownsRow_nil _ _ _ _) ⟨r, 0, none⟩ k cu ((us true).take k) rfl (by simp [Hn.out] <;> omega) N0.out O0.out (by unfold maxLen; omega) (by omega) (Nat.zero_le _) ?_; intro v1 w1 hown1 hgrow1 hnil1 hat1; have U1 : Upto (fun _ => False) w w1 := (Upto.refl _ w).grown hgrow1 (fun k hk => by simp [Value.ownBlock] at hk); have b1 : w1.heap[g]? = some (.cells #[.slice (some ⟨r, 0, none⟩) n cu, v false] 28 (0, 0)) := U1.blk (fun h => h.elim) Hg.out; have d0 : w1.cell? ⟨g, 0, none⟩ = some (.slice (some ⟨r, 0, none⟩) n cu) := cell_of_row w1 g 0 _ _ _ b1; have own1 : w1.ownsRow 0 30 1 v1 k ((us true).take k) := (by simpa using hown1); replace b1 := Lib.hid b1; have at1 := Lib.hid hat1; clear hnil1 hat1 hown1) | (at_builtin; refine wpList_append_own_at _ rfl (Operand.tmp 13) (Operand.tmp 19) _ rfl 0 30 i30 _ 1 24 Try.underlying26 hi30 hz30 hs30 hb30 rfl (by omega) v1 k ((us true).take k) rfl own1 ⟨r, (k + 1), none⟩ (n - (k + 1)) (cu - (k + 1)) ((us true).drop (k + 1)) rfl (by simp [Hn.out]) (drop_cells hr U1) (fun u hu => (HP.out.frms true).oneCell u (List.mem_of_mem_drop hu)) (by unfold maxLen; omega) (by omega) (Nat.zero_le _) ?_; intro v2 w2 hown2 hgrow2 hnil2 hat2; have U2 : Upto (fun _ => False) w w2 := U1.grown hgrow2 (fun b hb => .inr (at_ge at1.out hb)); have hblk : ∀ b, v2.ownBlock = some b → w.heap.size ≤ b := (at_ge2 at1.out hat2 U1.size); have b2 : w2.heap[g]? = some (.cells #[.slice (some ⟨r, 0, none⟩) n cu, v false] 28 (0, 0)) := U2.blk (fun h => h.elim) Hg.out; have e0 : w2.cell? ⟨g, 0, none⟩ = some (.slice (some ⟨r, 0, none⟩) n cu) := cell_of_row w2 g 0 _ _ _ b2; have f0 : w2.frozen? ⟨g, 0, none⟩ = false := frozen_of_row b2; replace b2 := Lib.hid b2; obtain ⟨A2, c2, rfl⟩ := owns_form hown2; replace hblk := Lib.hid hblk; clear hnil2 hat2))
    go_end0
    exact ⟨rfl, cut_close HP.out true hk U2 hown2 rfl (by simp [Hn.out]; omega) hblk.out (by have := b2.out; rw [← Hv.out] at this; exact this) _ rfl⟩

set_option maxRecDepth 100000 in
theorem cut_false (g : Nat) (st : St) (F : Nat → Prop) (v : Bool → Value) (us : Bool → List Value) (gs : Bool → List Nat) (w : World) (hP : Parts w g st F v us gs) (k : Nat) (hk : k < (st false).length) :
    Calls Try.prog 20 #[.pointer (some ⟨g, 1, none⟩), .int .i64 k] w (Cuts w g F v gs st false k) := by
  have hr := hP.owns false
  have hlen := hP.len false
  obtain ⟨r, cu, hv, _, lr⟩ := hr.form (by omega)
  have hg := hP.blk
  rw [hv] at hg hr
  obtain ⟨n, hn⟩ : ∃ n, (us false).length = n := ⟨_, rfl⟩
  rw [hn] at hr hg hv hlen
  have hkn : k < n := by omega
  have hfew := hP.few false
  have hn64 : n ≤ 64 := by omega
  have lg : g < w.heap.size := lt_of_block hg
  obtain ⟨i30, hi30, hz30, hs30, hb30⟩ := info_parts info30
  have c0 : w.cell? ⟨g, 1, none⟩ = some (.slice (some ⟨r, 0, none⟩) n cu) := cell_of_row w g 1 _ _ _ hg
  obtain ⟨hcu, hmx⟩ := owns_cap hr
  have N0 : ∀ (j : Nat) u, ((us false).take k)[j]? = some u → w.cell? ((⟨r, 0, none⟩ : Addr).add j) = some u := fun j u hu => hr.cells (g := r) rfl j u (take_some hu)
  have O0 : ∀ u ∈ (us false).take k, u.oneCell' = true := fun u hu => (hP.frms false).oneCell u (List.mem_of_mem_take hu)
  replace N0 := Lib.hid N0
  replace O0 := Lib.hid O0
  have HP := Lib.hid hP
  have Hlen := Lib.hid hlen
  have Hn := Lib.hid hn
  have Hv := Lib.hid hv
  have Hg := Lib.hid hg
  clear hP hlen hn hv hg hfew
  go_enter Try.func20, Try.ntmps20
  by_cases hq : cu = k + 1
  · obtain rfl : n = k + 1 := by omega
    subst hq
    go_wp2_with (first | (at_builtin; refine wpList_append_own_at _ rfl (Operand.tmp 5) (Operand.tmp 10) _ rfl 0 30 i30 _ 1 24 Try.underlying26 hi30 hz30 hs30 hb30 rfl (by omega) (.slice none 0 0) 0 [] rfl (World.ownsRow_nil _ _ _ _) ⟨r, 0, none⟩ k (k + 1) ((us false).take k) rfl (by simp [Hn.out] <;> omega) N0.out O0.out (by unfold maxLen; omega) (by omega) (Nat.zero_le _) ?_; intro v1 w1 hown1 hgrow1 hnil1 hat1; have U1 : Upto (fun _ => False) w w1 := (Upto.refl _ w).grown hgrow1 (fun k hk => by simp [Value.ownBlock] at hk); have b1 : w1.heap[g]? = some (.cells #[v true, .slice (some ⟨r, 0, none⟩) (k + 1) (k + 1)] 28 (0, 0)) := U1.blk (fun h => h.elim) Hg.out; have d0 : w1.cell? ⟨g, 1, none⟩ = some (.slice (some ⟨r, 0, none⟩) (k + 1) (k + 1)) := cell_of_row w1 g 1 _ _ _ b1; have own1 : w1.ownsRow 0 30 1 v1 k ((us false).take k) := (by simpa using hown1); replace b1 := Lib.hid b1; have at1 := Lib.hid hat1; clear hnil1 hat1 hown1) | (at_builtin; refine wpList_append_own_at _ rfl (Operand.tmp 13) (Operand.tmp 19) _ rfl 0 30 i30 _ 1 24 Try.underlying26 hi30 hz30 hs30 hb30 rfl (by omega) v1 k ((us false).take k) rfl own1 ⟨r, 0, none⟩ 0 0 [] rfl (by simp) (by simp) (by simp) (by unfold maxLen; omega) (by omega) (Nat.zero_le _) ?_; intro v2 w2 hown2 hgrow2 hnil2 hat2; have U2 : Upto (fun _ => False) w w2 := U1.grown hgrow2 (fun b hb => .inr (at_ge at1.out hb)); have hblk : ∀ b, v2.ownBlock = some b → w.heap.size ≤ b := (at_ge2 at1.out hat2 U1.size); have b2 : w2.heap[g]? = some (.cells #[v true, .slice (some ⟨r, 0, none⟩) (k + 1) (k + 1)] 28 (0, 0)) := U2.blk (fun h => h.elim) Hg.out; have e0 : w2.cell? ⟨g, 1, none⟩ = some (.slice (some ⟨r, 0, none⟩) (k + 1) (k + 1)) := cell_of_row w2 g 1 _ _ _ b2; have f0 : w2.frozen? ⟨g, 1, none⟩ = false := frozen_of_row b2; replace b2 := Lib.hid b2; obtain ⟨A2, c2, rfl⟩ := owns_form hown2; replace hblk := Lib.hid hblk; clear hnil2 hat2))
    go_end0
    exact ⟨rfl, cut_close HP.out false hk U2 hown2 (by rw [List.drop_eq_nil_of_le (by rw [Hn.out]; omega)]) (by simp [Hn.out]) hblk.out (by have := b2.out; rw [← Hv.out] at this; exact this) _ rfl⟩
  · have hq' : k + 1 < cu := by omega
    go_wp2_with (first | (at_builtin; refine wpList_append_own_at _ rfl (Operand.tmp 5) (Operand.tmp 10) _ rfl 0 30 i30 _ 1 24 Try.underlying26 hi30 hz30 hs30 hb30 rfl (by omega) (.slice none 0 0) 0 [] rfl (World.ownsRow_nil _ _ _ _) ⟨r, 0, none⟩ k cu ((us false).take k) rfl (by simp [Hn.out] <;> omega) N0.out O0.out (by unfold maxLen; omega) (by omega) (Nat.zero_le _) ?_; intro v1 w1 hown1 hgrow1 hnil1 hat1; have U1 : Upto (fun _ => False) w w1 := (Upto.refl _ w).grown hgrow1 (fun k hk => by simp [Value.ownBlock] at hk); have b1 : w1.heap[g]? = some (.cells #[v true, .slice (some ⟨r, 0, none⟩) n cu] 28 (0, 0)) := U1.blk (fun h => h.elim) Hg.out; have d0 : w1.cell? ⟨g, 1, none⟩ = some (.slice (some ⟨r, 0, none⟩) n cu) := cell_of_row w1 g 1 _ _ _ b1; have own1 : w1.ownsRow 0 30 1 v1 k ((us false).take k) := (by simpa using hown1); replace b1 := Lib.hid b1; have at1 := Lib.hid hat1; clear hnil1 hat1 hown1) | (at_builtin; refine wpList_append_own_at _ rfl (Operand.tmp 13) (Operand.tmp 19) _ rfl 0 30 i30 _ 1 24 Try.underlying26 hi30 hz30 hs30 hb30 rfl (by omega) v1 k ((us false).take k) rfl own1 ⟨r, (k + 1), none⟩ (n - (k + 1)) (cu - (k + 1)) ((us false).drop (k + 1)) rfl (by simp [Hn.out]) (drop_cells hr U1) (fun u hu => (HP.out.frms false).oneCell u (List.mem_of_mem_drop hu)) (by unfold maxLen; omega) (by omega) (Nat.zero_le _) ?_; intro v2 w2 hown2 hgrow2 hnil2 hat2; have U2 : Upto (fun _ => False) w w2 := U1.grown hgrow2 (fun b hb => .inr (at_ge at1.out hb)); have hblk : ∀ b, v2.ownBlock = some b → w.heap.size ≤ b := (at_ge2 at1.out hat2 U1.size); have b2 : w2.heap[g]? = some (.cells #[v true, .slice (some ⟨r, 0, none⟩) n cu] 28 (0, 0)) := U2.blk (fun h => h.elim) Hg.out; have e0 : w2.cell? ⟨g, 1, none⟩ = some (.slice (some ⟨r, 0, none⟩) n cu) := cell_of_row w2 g 1 _ _ _ b2; have f0 : w2.frozen? ⟨g, 1, none⟩ = false := frozen_of_row b2; replace b2 := Lib.hid b2; obtain ⟨A2, c2, rfl⟩ := owns_form hown2; replace hblk := Lib.hid hblk; clear hnil2 hat2))
    go_end0
    exact ⟨rfl, cut_close HP.out false hk U2 hown2 rfl (by simp [Hn.out]; omega) hblk.out (by have := b2.out; rw [← Hv.out] at this; exact this) _ rfl⟩

/-- What Take tells where there is such a frame. -/
def Takes (w : World) (g : Nat) (F : Nat → Prop) (st : St) (up : Bool) (k : Nat) (e : Ending) (w' : World) : Prop :=
  ∃ (fv : Value) (gb : Nat) (bs : List Int), e = .returned (.tuple #[fv, .bool true]) ∧ (st up)[k]? = some bs ∧ Frm w' fv gb bs ∧ 0 < bs.length ∧ bs.length ≤ 1024 ∧ F gb ∧ LinkPost w g F (Gone gb) (upd st up ((st up).take k ++ (st up).drop (k + 1))) w'

set_option maxRecDepth 100000 in
theorem take_true (g : Nat) (st : St) (F : Nat → Prop) (v : Bool → Value) (us : Bool → List Value) (gs : Bool → List Nat) (w : World) (hP : Parts w g st F v us gs) (k : Nat) (hk : k < (st true).length) :
    Calls Try.prog 10 #[.pointer (some ⟨g, 0, none⟩), .bool true, .int .i64 k] w (Takes w g F st true k) := by
  have hr := hP.owns true
  have hlen := hP.len true
  obtain ⟨r, cu, hv, _, lr⟩ := hr.form (by omega)
  have hg := hP.blk
  rw [hv] at hg hr
  obtain ⟨fv, gb, bs, hu, hgb, hbs, hF, h0, h1⟩ := (hP.frms true).at_ k hk
  obtain ⟨n, hn⟩ : ∃ n, (us true).length = n := ⟨_, rfl⟩
  rw [hn] at hr hg hv hlen
  have hkn : k < n := by omega
  have hfew := hP.few true
  have hn64 : n ≤ 64 := by omega
  have hki : (k : Int) < (n : Int) := by omega
  have c0 : w.cell? ⟨g, 0, none⟩ = some (.slice (some ⟨r, 0, none⟩) n cu) := cell_of_row w g 0 _ _ _ hg
  have c1 : w.cell? ⟨r, k, none⟩ = some fv := by
    have := hr.cells (g := r) rfl k fv hu
    rw [addr_add, Nat.zero_add] at this
    exact this
  have HC := Lib.hid (cut_true g st F v us gs w hP k hk)
  have HP := Lib.hid hP
  have HF := Lib.hid hF
  have Hgb := Lib.hid hgb
  have Hbs := Lib.hid hbs
  clear hP hlen hn hv hg hfew hF hgb hbs hu hr
  go_enter Try.func10, Try.ntmps10
  go_wp2_with (first | (go_at_call 19; refine (of_true _ _).mono ?_; rintro e w' ⟨rfl, rfl⟩) | (go_at_call 20; refine HC.out.mono ?_; rintro e w1 ⟨rfl, gb', hgb', hLP, hU⟩; have HL := Lib.hid hLP; have HU := Lib.hid hU; have Hgb' := Lib.hid hgb'; clear hLP hU hgb'))
  go_ret2
  obtain rfl : gb' = gb := Option.some.inj (Hgb'.out.symm.trans Hgb.out)
  refine ⟨fv, gb', bs, rfl, Hbs.out, HF.out.upto HU.out ?_, h0, h1, HP.out.frmF true gb' (List.mem_of_getElem? Hgb.out), HL.out⟩
  rintro (h | h)
  · exact HP.out.frm_ne_g true (List.mem_of_getElem? Hgb.out) h
  · exact HP.out.frm_ne_row true true (List.mem_of_getElem? Hgb.out) h rfl

set_option maxRecDepth 100000 in
theorem take_no_true (g : Nat) (st : St) (F : Nat → Prop) (v : Bool → Value) (us : Bool → List Value) (gs : Bool → List Nat) (w : World) (hP : Parts w g st F v us gs) (k : Int) (hk : k < 0 ∨ (st true).length ≤ k) :
    Calls Try.prog 10 #[.pointer (some ⟨g, 0, none⟩), .bool true, .int .i64 k] w (Same (.tuple #[.slice none 0 0, .bool false]) w) := by
  obtain ⟨Au, cu, hv⟩ := owns_form (hP.owns true)
  have hg := hP.blk
  rw [hv] at hg
  have hlen := hP.len true
  rw [hlen] at hg
  obtain ⟨n, hn⟩ : ∃ n, (st true).length = n := ⟨_, rfl⟩
  rw [hn] at hg hk
  have c0 : w.cell? ⟨g, 0, none⟩ = some (.slice Au n cu) := cell_of_row w g 0 _ _ _ hg
  clear hg hv hn hlen hP
  rcases hk with hk | hk
  · go_enter Try.func10, Try.ntmps10
    go_wp2_with (first | (go_at_call 19; refine (of_true _ _).mono ?_; rintro e w' ⟨rfl, rfl⟩))
    go_ret2
    exact ⟨rfl, rfl⟩
  · have h0 : ¬ k < 0 := by omega
    go_enter Try.func10, Try.ntmps10
    go_wp2_with (first | (go_at_call 19; refine (of_true _ _).mono ?_; rintro e w' ⟨rfl, rfl⟩))
    go_ret2
    exact ⟨rfl, rfl⟩

set_option maxRecDepth 100000 in
theorem take_false (g : Nat) (st : St) (F : Nat → Prop) (v : Bool → Value) (us : Bool → List Value) (gs : Bool → List Nat) (w : World) (hP : Parts w g st F v us gs) (k : Nat) (hk : k < (st false).length) :
    Calls Try.prog 10 #[.pointer (some ⟨g, 0, none⟩), .bool false, .int .i64 k] w (Takes w g F st false k) := by
  have hr := hP.owns false
  have hlen := hP.len false
  obtain ⟨r, cu, hv, _, lr⟩ := hr.form (by omega)
  have hg := hP.blk
  rw [hv] at hg hr
  obtain ⟨fv, gb, bs, hu, hgb, hbs, hF, h0, h1⟩ := (hP.frms false).at_ k hk
  obtain ⟨n, hn⟩ : ∃ n, (us false).length = n := ⟨_, rfl⟩
  rw [hn] at hr hg hv hlen
  have hkn : k < n := by omega
  have hfew := hP.few false
  have hn64 : n ≤ 64 := by omega
  have hki : (k : Int) < (n : Int) := by omega
  have c0 : w.cell? ⟨g, 1, none⟩ = some (.slice (some ⟨r, 0, none⟩) n cu) := cell_of_row w g 1 _ _ _ hg
  have c1 : w.cell? ⟨r, k, none⟩ = some fv := by
    have := hr.cells (g := r) rfl k fv hu
    rw [addr_add, Nat.zero_add] at this
    exact this
  have HC := Lib.hid (cut_false g st F v us gs w hP k hk)
  have HP := Lib.hid hP
  have HF := Lib.hid hF
  have Hgb := Lib.hid hgb
  have Hbs := Lib.hid hbs
  clear hP hlen hn hv hg hfew hF hgb hbs hu hr
  go_enter Try.func10, Try.ntmps10
  go_wp2_with (first | (go_at_call 19; refine (of_false _ _).mono ?_; rintro e w' ⟨rfl, rfl⟩) | (go_at_call 20; refine HC.out.mono ?_; rintro e w1 ⟨rfl, gb', hgb', hLP, hU⟩; have HL := Lib.hid hLP; have HU := Lib.hid hU; have Hgb' := Lib.hid hgb'; clear hLP hU hgb'))
  go_ret2
  obtain rfl : gb' = gb := Option.some.inj (Hgb'.out.symm.trans Hgb.out)
  refine ⟨fv, gb', bs, rfl, Hbs.out, HF.out.upto HU.out ?_, h0, h1, HP.out.frmF false gb' (List.mem_of_getElem? Hgb.out), HL.out⟩
  rintro (h | h)
  · exact HP.out.frm_ne_g false (List.mem_of_getElem? Hgb.out) h
  · exact HP.out.frm_ne_row false false (List.mem_of_getElem? Hgb.out) h rfl

set_option maxRecDepth 100000 in
theorem take_no_false (g : Nat) (st : St) (F : Nat → Prop) (v : Bool → Value) (us : Bool → List Value) (gs : Bool → List Nat) (w : World) (hP : Parts w g st F v us gs) (k : Int) (hk : k < 0 ∨ (st false).length ≤ k) :
    Calls Try.prog 10 #[.pointer (some ⟨g, 0, none⟩), .bool false, .int .i64 k] w (Same (.tuple #[.slice none 0 0, .bool false]) w) := by
  obtain ⟨Au, cu, hv⟩ := owns_form (hP.owns false)
  have hg := hP.blk
  rw [hv] at hg
  have hlen := hP.len false
  rw [hlen] at hg
  obtain ⟨n, hn⟩ : ∃ n, (st false).length = n := ⟨_, rfl⟩
  rw [hn] at hg hk
  have c0 : w.cell? ⟨g, 1, none⟩ = some (.slice Au n cu) := cell_of_row w g 1 _ _ _ hg
  clear hg hv hn hlen hP
  rcases hk with hk | hk
  · go_enter Try.func10, Try.ntmps10
    go_wp2_with (first | (go_at_call 19; refine (of_false _ _).mono ?_; rintro e w' ⟨rfl, rfl⟩))
    go_ret2
    exact ⟨rfl, rfl⟩
  · have h0 : ¬ k < 0 := by omega
    go_enter Try.func10, Try.ntmps10
    go_wp2_with (first | (go_at_call 19; refine (of_false _ _).mono ?_; rintro e w' ⟨rfl, rfl⟩))
    go_ret2
    exact ⟨rfl, rfl⟩
end Go.Proofs.Ytomhnabgdbpoiaa
