/- The reference's Send. Conditions: the link lies at its block; the frame can be read. -/
import Derived.Test.YtomhnabgdbpoiaaRMem
import Derived.Test.YtomhnabgdbpoiaaSend
namespace Go.Proofs.Ytomhnabgdbpoiaa
open Go.RowKit
attribute [local go_sem ↓] Go.wp_at_zero Go.wp_at_succ
set_option linter.unusedVariables false
set_option linter.unusedSimpArgs false
namespace R
theorem row_true (w : World) : Calls Try.prog 28 #[.bool true] w (Same (.int .i64 0) w) := by
  go_enter Try.func28, Try.ntmps28
  go_wp2
  go_ret
  exact ⟨rfl, rfl⟩
theorem row_false (w : World) : Calls Try.prog 28 #[.bool false] w (Same (.int .i64 1) w) := by
  go_enter Try.func28, Try.ntmps28
  go_wp2
  go_ret
  exact ⟨rfl, rfl⟩

theorem sent_close {w w1 w2 : World} {g : Nat} {st : St} {F : Nat → Prop} {v : Bool → Value} {us : Bool → List Value} {gs : Bool → List Nat} (hP : Parts w g st F v us gs) (up : Bool) {Au : Option Addr} {n cu m cap1 cap2 g1 g2 : Nat} {bs : List Int} {o : Obj} {row : Option Nat}
    (hv : v up = .slice Au n cu) (hn : (us up).length = n) (hl : n < 64) (U1 : Upto (fun _ => False) w w1) (hown1 : w1.ownsRow 0 5 1 (.slice (some ⟨g1, 0, none⟩) (0 + m) cap1) (0 + m) ([] ++ bs.map (Value.int .u8)))
    (hm : bs.length = m) (h0 : 0 < m) (h1 : m ≤ 1024) (hg1 : w.heap.size ≤ g1) (hlt1 : g1 < w1.heap.size) (hrow : row = (Value.slice Au n cu).ownBlock) (hgrow2 : (w1.alloc o).grownBy w2 row)
    (hown2 : w2.ownsRow 0 30 1 (.slice (some ⟨g2, 0, none⟩) (n + 1) cap2) (n + 1) (us up ++ [.slice (some ⟨g1, 0, none⟩) m cap1])) (hat2 : (Value.slice Au n cu).ownBlock = some g2 ∨ g2 = w1.heap.size + 1) (hlt2 : g2 < w2.heap.size)
    (b2 : w2.heap[g]? = some (.cells #[v true, v false] 46 (0, 0))) (w3 : World) (hw3 : w3 = w2.setCell ⟨g, if up then 0 else 1, none⟩ (.slice (some ⟨g2, 0, none⟩) (n + 1) cap2)) :
    LinkPost w g F Nought (upd st up (st up ++ [bs])) w3 := by
  subst hw3 hrow
  have hlen := hP.len up
  have hfr := hP.frms up
  have hU2 : Upto (fun k => k = g ∨ (v up).ownBlock = some k) w w2 := by
    refine ((U1.mono (fun _ h => h.elim)).alloc o).grown hgrow2 (fun k hk => .inl (.inr ?_))
    rw [hv]; exact hk
  have hU3 := hU2.setCell (p := ⟨g, if up then 0 else 1, none⟩) (.inl (.inl rfl)) (.slice (some ⟨g2, 0, none⟩) (n + 1) cap2)
  have hg2 : g2 ≠ g := by
    obtain ⟨cs, hc⟩ := own_block_type hown2 rfl
    exact cells_ne hc b2 (by decide)
  have hsz := U1.size
  have hsz2 : w1.heap.size + 1 ≤ w2.heap.size := by have := hgrow2.size; simpa using this
  refine hP.update Nought up (.slice (some ⟨g2, 0, none⟩) (n + 1) cap2) (us up ++ [.slice (some ⟨g1, 0, none⟩) m cap1]) (gs up ++ [g1]) (st up ++ [bs]) hU3 ?_ ?_ ?_ ?_ ?_ ?_ ?_ (fun _ h => h.elim)
  · rw [cells_set b2, Parts.set]
  · have hlen' : (us up ++ [Value.slice (some ⟨g1, 0, none⟩) m cap1]).length = n + 1 := by simp [hn]
    rw [hlen']
    exact ownsRow_setCell_other hown2 (by simp [Value.ownBlock]; exact hg2) _
  · have hx : ∀ k ∈ gs up, ¬ (k = g ∨ (v up).ownBlock = some k) := fun k hk h => by
      rcases h with h | h
      · exact hP.frm_ne_g up hk h
      · exact hP.frm_ne_row up up hk h rfl
    refine (hfr.upto hU3 hx).append ⟨⟨⟨?_, rfl⟩, by omega, by omega⟩, trivial⟩
    simp only [Nat.zero_add, List.nil_append] at hown1
    rw [hm]
    have h2 : (w1.alloc o).ownsRow 0 5 1 (.slice (some ⟨g1, 0, none⟩) m cap1) m (bs.map (Value.int .u8)) := hown1.alloc o
    have h3 : w2.ownsRow 0 5 1 (.slice (some ⟨g1, 0, none⟩) m cap1) m (bs.map (Value.int .u8)) := h2.kept hgrow2 (.inr (fun e => by
      have hlt := (own_block_type (hP.owns up) (k := g1) (by rw [hv]; exact e.symm))
      obtain ⟨cs, hc⟩ := hlt
      have := lt_of_block hc
      omega))
    refine ownsRow_setCell_other h3 ?_ _
    simp only [Value.ownBlock, ne_eq, Option.some.injEq]
    intro e
    have := lt_of_block hP.blk
    omega
  · rw [List.nodup_append]
    refine ⟨hP.nodup up, by simp, fun a ha b hb e => ?_⟩
    simp at hb
    subst hb e
    obtain ⟨cs, hc⟩ := hfr.block a ha
    have := lt_of_block hc
    omega
  · have := (hP.few up); simp; omega
  · intro k hk
    simp [Value.ownBlock] at hk
    subst hk
    rcases hat2 with h | h
    · left; rw [hv]; exact h
    · right; exact ⟨by omega, by simpa [World.setCell] using hlt2⟩
  · intro k hk
    rcases List.mem_append.1 hk with h | h
    · exact .inl h
    · simp at h; subst h; exact .inr ⟨hg1, by simp [World.setCell]; omega⟩

/-- It returns v; the reference's link goes on as s. -/
def Turns (v : Value) (w : World) (g : Nat) (F : Nat → Prop) (s : St) (e : Ending) (w' : World) : Prop := e = .returned v ∧ LinkPost w g F Nought s w'

set_option maxRecDepth 100000 in
theorem send_true (g : Nat) (st : St) (F : Nat → Prop) (v : Bool → Value) (us : Bool → List Value) (gs : Bool → List Nat) (w : World) (hP : Parts w g st F v us gs)
    (hl : (st true).length < 64) (c : Nat) (bs : List Int) (h0 : 0 < bs.length) (h1 : bs.length ≤ 1024) (ad : Addr) (hb : ∀ (j : Nat) u, (bs.map (Value.int .u8))[j]? = some u → w.cell? (ad.add j) = some u) :
    Calls Try.prog 22 #[.pointer (some ⟨g, 0, none⟩), .bool true, .slice (some ad) bs.length c] w (Turns (.bool true) w g F (upd st true (st true ++ [bs]))) := by
  obtain ⟨Au, cu, hv⟩ := owns_form (hP.owns true)
  have hg := hP.blk
  have hr := hP.owns true
  rw [hv] at hg hr
  have hlen := hP.len true
  have hfr := hP.frms true
  obtain ⟨n, hn⟩ : ∃ n, (us true).length = n := ⟨_, rfl⟩
  obtain ⟨m, hm⟩ : ∃ m, bs.length = m := ⟨_, rfl⟩
  rw [hn] at hr hg hv
  rw [hm] at h0 h1 ⊢
  have hl : n < 64 := by omega
  have lg : g < w.heap.size := lt_of_block hg
  obtain ⟨i5, hi5, hz5, hs5, hb5⟩ := info_parts info5
  obtain ⟨i30, hi30, hz30, hs30, hb30⟩ := info_parts info30
  have U0 : Upto (fun _ => False) w (w.drew.alloc (.cells #[] 5)) := (Upto.refl _ w).drew.alloc _
  have O0 : (w.drew.alloc (.cells #[] 5)).ownsRow 0 5 1 (.slice (some ⟨w.heap.size, 0, none⟩) 0 0) 0 [] := World.ownsRow_made (base := 0) (e := 5) (size := 1) w.drew #[] 0 (Nat.zero_le _) (Nat.zero_le _) rfl
  have N0 : ∀ (j : Nat) u, (bs.map (Value.int .u8))[j]? = some u → (w.drew.alloc (.cells #[] 5)).cell? (ad.add j) = some u := fun j u hu => U0.cell (fun h => h.elim) (hb j u hu)
  have c0 : w.cell? ⟨g, 0, none⟩ = some (.slice Au n cu) := cell_of_row w g 0 _ _ _ hg
  replace U0 := Lib.hid U0
  replace O0 := Lib.hid O0
  replace N0 := Lib.hid N0
  have HP := Lib.hid hP
  have Hlen := Lib.hid hlen
  have Hm := Lib.hid hm
  have Hn := Lib.hid hn
  have Hv := Lib.hid hv
  have Hg := Lib.hid hg
  have Hb := Lib.hid hb
  clear hP hlen hm hn hv hg hb
  have k1 : (m == 0) = false := by simp; omega
  have k2 : ((m : Int) == 0) = false := by simp; omega
  have hl' : decide ((64 : Int) ≤ (n : Int)) = false := by simp; omega
  have hl2 : decide ((1024 : Int) < (m : Int)) = false := by simp; omega
  go_enter Try.func22, Try.ntmps22
  go_wp2_with (first | (go_at_call 28; refine (row_true _).mono ?_; rintro e w' ⟨rfl, rfl⟩))
  go_region_law (first
      | ((refine step_append_lies _ (by rfl) (Operand.tmp 36) (Operand.tmp 37) _ (by rfl) 0 5 i5 _ 1 1 Try.underlying30 hi5 hz5 hs5 hb5 rfl (by omega) (.slice (some ⟨w.heap.size, 0, none⟩) 0 0) 0 [] (by rfl) O0.out ad m c (bs.map (Value.int .u8)) (by rfl) (by simp [Hm.out]) N0.out (ints_oneCell _ _) h0 (by unfold maxLen; omega) (by omega) (Nat.zero_le _) (w.heap.size + 1) (by simp) ?_; intro g1 cap1 w1 hown1 hgrow hat hlt; have U1 : Upto (fun _ => False) w w1 := (((Upto.refl _ w).alloc _).drew).grown hgrow (fun k hk => .inr (by simp [Value.ownBlock] at hk; omega)); have b1 : w1.heap[g]? = some (.cells #[.slice Au n cu, v false] 46 (0, 0)) := U1.blk (fun h => h.elim) Hg.out; have d0 : w1.cell? ⟨g, 0, none⟩ = some (.slice Au n cu) := cell_of_row w1 g 0 _ _ _ b1; have lg1 : g < w1.heap.size := lt_of_block b1; replace b1 := Lib.hid b1))
      | ((refine step_append_lies _ (by rfl) (Operand.tmp 35) (Operand.tmp 39) _ (by rfl) 0 30 i30 _ 1 24 Try.underlying22 hi30 hz30 hs30 hb30 rfl (by omega) (.slice Au n cu) n (us true) (by rfl) ((U1.alloc _).owns hr (fun _ _ h => h.elim)) ⟨w1.heap.size, 0, none⟩ 1 1 [.slice (some ⟨g1, 0, none⟩) m cap1] (by rfl) (by rfl) (World.news_of_block (heap_alloc_new w1 _)) (by simp [Value.oneCell']) (by omega) (by unfold maxLen; omega) (by omega) (Nat.zero_le _) (w1.heap.size + 1) (by simp) ?_; intro g2 cap2 w2 hown2 hgrow2 hat2 hlt2; have b2 : w2.heap[g]? = some (.cells #[.slice Au n cu, v false] 46 (0, 0)) := ((Upto.refl (fun k => (Value.slice Au n cu).ownBlock = some k) (w1.alloc _)).grown hgrow2 (fun k hk => .inl hk)).blk (fun hk => HP.out.row_ne_g true (by rw [Hv.out]; exact hk) rfl) ((Below.heap_alloc w1 _ g lg1).trans b1.out); have e0 : w2.cell? ⟨g, 0, none⟩ = some (.slice Au n cu) := cell_of_row w2 g 0 _ _ _ b2; have f0 : w2.frozen? ⟨g, 0, none⟩ = false := frozen_of_row b2; replace b2 := Lib.hid b2)))
  all_goals
    go_wp2
    go_ret
    exact ⟨rfl, sent_close HP.out true Hv.out Hn.out hl U1 hown1 Hm.out h0 h1 (by rcases hat with h | h; (simp [Value.ownBlock] at h; omega); omega) hlt rfl hgrow2 hown2 hat2 hlt2 (by have := b2.out; rw [← Hv.out] at this; exact this) _ rfl⟩

set_option maxRecDepth 100000 in
theorem send_false (g : Nat) (st : St) (F : Nat → Prop) (v : Bool → Value) (us : Bool → List Value) (gs : Bool → List Nat) (w : World) (hP : Parts w g st F v us gs)
    (hl : (st false).length < 64) (c : Nat) (bs : List Int) (h0 : 0 < bs.length) (h1 : bs.length ≤ 1024) (ad : Addr) (hb : ∀ (j : Nat) u, (bs.map (Value.int .u8))[j]? = some u → w.cell? (ad.add j) = some u) :
    Calls Try.prog 22 #[.pointer (some ⟨g, 0, none⟩), .bool false, .slice (some ad) bs.length c] w (Turns (.bool true) w g F (upd st false (st false ++ [bs]))) := by
  obtain ⟨Au, cu, hv⟩ := owns_form (hP.owns false)
  have hg := hP.blk
  have hr := hP.owns false
  rw [hv] at hg hr
  have hlen := hP.len false
  have hfr := hP.frms false
  obtain ⟨n, hn⟩ : ∃ n, (us false).length = n := ⟨_, rfl⟩
  obtain ⟨m, hm⟩ : ∃ m, bs.length = m := ⟨_, rfl⟩
  rw [hn] at hr hg hv
  rw [hm] at h0 h1 ⊢
  have hl : n < 64 := by omega
  have lg : g < w.heap.size := lt_of_block hg
  obtain ⟨i5, hi5, hz5, hs5, hb5⟩ := info_parts info5
  obtain ⟨i30, hi30, hz30, hs30, hb30⟩ := info_parts info30
  have U0 : Upto (fun _ => False) w (w.drew.alloc (.cells #[] 5)) := (Upto.refl _ w).drew.alloc _
  have O0 : (w.drew.alloc (.cells #[] 5)).ownsRow 0 5 1 (.slice (some ⟨w.heap.size, 0, none⟩) 0 0) 0 [] := World.ownsRow_made (base := 0) (e := 5) (size := 1) w.drew #[] 0 (Nat.zero_le _) (Nat.zero_le _) rfl
  have N0 : ∀ (j : Nat) u, (bs.map (Value.int .u8))[j]? = some u → (w.drew.alloc (.cells #[] 5)).cell? (ad.add j) = some u := fun j u hu => U0.cell (fun h => h.elim) (hb j u hu)
  have c0 : w.cell? ⟨g, 1, none⟩ = some (.slice Au n cu) := cell_of_row w g 1 _ _ _ hg
  replace U0 := Lib.hid U0
  replace O0 := Lib.hid O0
  replace N0 := Lib.hid N0
  have HP := Lib.hid hP
  have Hlen := Lib.hid hlen
  have Hm := Lib.hid hm
  have Hn := Lib.hid hn
  have Hv := Lib.hid hv
  have Hg := Lib.hid hg
  have Hb := Lib.hid hb
  clear hP hlen hm hn hv hg hb
  have k1 : (m == 0) = false := by simp; omega
  have k2 : ((m : Int) == 0) = false := by simp; omega
  have hl' : decide ((64 : Int) ≤ (n : Int)) = false := by simp; omega
  have hl2 : decide ((1024 : Int) < (m : Int)) = false := by simp; omega
  go_enter Try.func22, Try.ntmps22
  go_wp2_with (first | (go_at_call 28; refine (row_false _).mono ?_; rintro e w' ⟨rfl, rfl⟩))
  go_region_law (first
      | ((refine step_append_lies _ (by rfl) (Operand.tmp 36) (Operand.tmp 37) _ (by rfl) 0 5 i5 _ 1 1 Try.underlying30 hi5 hz5 hs5 hb5 rfl (by omega) (.slice (some ⟨w.heap.size, 0, none⟩) 0 0) 0 [] (by rfl) O0.out ad m c (bs.map (Value.int .u8)) (by rfl) (by simp [Hm.out]) N0.out (ints_oneCell _ _) h0 (by unfold maxLen; omega) (by omega) (Nat.zero_le _) (w.heap.size + 1) (by simp) ?_; intro g1 cap1 w1 hown1 hgrow hat hlt; have U1 : Upto (fun _ => False) w w1 := (((Upto.refl _ w).alloc _).drew).grown hgrow (fun k hk => .inr (by simp [Value.ownBlock] at hk; omega)); have b1 : w1.heap[g]? = some (.cells #[v true, .slice Au n cu] 46 (0, 0)) := U1.blk (fun h => h.elim) Hg.out; have d0 : w1.cell? ⟨g, 1, none⟩ = some (.slice Au n cu) := cell_of_row w1 g 1 _ _ _ b1; have lg1 : g < w1.heap.size := lt_of_block b1; replace b1 := Lib.hid b1))
      | ((refine step_append_lies _ (by rfl) (Operand.tmp 35) (Operand.tmp 39) _ (by rfl) 0 30 i30 _ 1 24 Try.underlying22 hi30 hz30 hs30 hb30 rfl (by omega) (.slice Au n cu) n (us false) (by rfl) ((U1.alloc _).owns hr (fun _ _ h => h.elim)) ⟨w1.heap.size, 0, none⟩ 1 1 [.slice (some ⟨g1, 0, none⟩) m cap1] (by rfl) (by rfl) (World.news_of_block (heap_alloc_new w1 _)) (by simp [Value.oneCell']) (by omega) (by unfold maxLen; omega) (by omega) (Nat.zero_le _) (w1.heap.size + 1) (by simp) ?_; intro g2 cap2 w2 hown2 hgrow2 hat2 hlt2; have b2 : w2.heap[g]? = some (.cells #[v true, .slice Au n cu] 46 (0, 0)) := ((Upto.refl (fun k => (Value.slice Au n cu).ownBlock = some k) (w1.alloc _)).grown hgrow2 (fun k hk => .inl hk)).blk (fun hk => HP.out.row_ne_g false (by rw [Hv.out]; exact hk) rfl) ((Below.heap_alloc w1 _ g lg1).trans b1.out); have e0 : w2.cell? ⟨g, 1, none⟩ = some (.slice Au n cu) := cell_of_row w2 g 1 _ _ _ b2; have f0 : w2.frozen? ⟨g, 1, none⟩ = false := frozen_of_row b2; replace b2 := Lib.hid b2)))
  all_goals
    go_wp2
    go_ret
    exact ⟨rfl, sent_close HP.out false Hv.out Hn.out hl U1 hown1 Hm.out h0 h1 (by rcases hat with h | h; (simp [Value.ownBlock] at h; omega); omega) hlt rfl hgrow2 hown2 hat2 hlt2 (by have := b2.out; rw [← Hv.out] at this; exact this) _ rfl⟩

set_option maxRecDepth 100000 in
theorem send_no_true (g : Nat) (st : St) (F : Nat → Prop) (v : Bool → Value) (us : Bool → List Value) (gs : Bool → List Nat) (w : World) (hP : Parts w g st F v us gs)
    (A : Option Addr) (m c : Nat) (h : 64 ≤ (st true).length ∨ m = 0 ∨ 1024 < m) :
    Calls Try.prog 22 #[.pointer (some ⟨g, 0, none⟩), .bool true, .slice A m c] w (Same (.bool false) w) := by
  obtain ⟨Au, cu, hv⟩ := owns_form (hP.owns true)
  have hg := hP.blk
  rw [hv] at hg
  have hlen := hP.len true
  obtain ⟨n, hn⟩ : ∃ n, (us true).length = n := ⟨_, rfl⟩
  rw [hn] at hg
  have c0 : w.cell? ⟨g, 0, none⟩ = some (.slice Au n cu) := cell_of_row w g 0 _ _ _ hg
  have h' : 64 ≤ n ∨ m = 0 ∨ 1024 < m := by rw [← hn, hlen]; exact h
  clear h hg hv hn hlen hP
  by_cases q1 : 64 ≤ n
  · have l1 : decide ((64 : Int) ≤ (n : Int)) = true := by simp; omega
    clear h'
    go_enter Try.func22, Try.ntmps22
    go_wp2_with (first | (go_at_call 28; refine (row_true _).mono ?_; rintro e w' ⟨rfl, rfl⟩))
    go_ret
    exact ⟨rfl, rfl⟩
  · have l1 : decide ((64 : Int) ≤ (n : Int)) = false := by simp; omega
    by_cases q2 : m = 0
    · subst q2
      clear h'
      go_enter Try.func22, Try.ntmps22
      go_wp2_with (first | (go_at_call 28; refine (row_true _).mono ?_; rintro e w' ⟨rfl, rfl⟩))
      go_ret
      exact ⟨rfl, rfl⟩
    · have q3 : 1024 < m := by omega
      have l2 : decide ((1024 : Int) < (m : Int)) = true := by simp; omega
      have k1 : (m == 0) = false := by simp; omega
      have k2 : ((m : Int) == 0) = false := by simp; omega
      clear h' q2
      go_enter Try.func22, Try.ntmps22
      go_wp2_with (first | (go_at_call 28; refine (row_true _).mono ?_; rintro e w' ⟨rfl, rfl⟩))
      go_ret
      exact ⟨rfl, rfl⟩

set_option maxRecDepth 100000 in
theorem send_no_false (g : Nat) (st : St) (F : Nat → Prop) (v : Bool → Value) (us : Bool → List Value) (gs : Bool → List Nat) (w : World) (hP : Parts w g st F v us gs)
    (A : Option Addr) (m c : Nat) (h : 64 ≤ (st false).length ∨ m = 0 ∨ 1024 < m) :
    Calls Try.prog 22 #[.pointer (some ⟨g, 0, none⟩), .bool false, .slice A m c] w (Same (.bool false) w) := by
  obtain ⟨Au, cu, hv⟩ := owns_form (hP.owns false)
  have hg := hP.blk
  rw [hv] at hg
  have hlen := hP.len false
  obtain ⟨n, hn⟩ : ∃ n, (us false).length = n := ⟨_, rfl⟩
  rw [hn] at hg
  have c0 : w.cell? ⟨g, 1, none⟩ = some (.slice Au n cu) := cell_of_row w g 1 _ _ _ hg
  have h' : 64 ≤ n ∨ m = 0 ∨ 1024 < m := by rw [← hn, hlen]; exact h
  clear h hg hv hn hlen hP
  by_cases q1 : 64 ≤ n
  · have l1 : decide ((64 : Int) ≤ (n : Int)) = true := by simp; omega
    clear h'
    go_enter Try.func22, Try.ntmps22
    go_wp2_with (first | (go_at_call 28; refine (row_false _).mono ?_; rintro e w' ⟨rfl, rfl⟩))
    go_ret
    exact ⟨rfl, rfl⟩
  · have l1 : decide ((64 : Int) ≤ (n : Int)) = false := by simp; omega
    by_cases q2 : m = 0
    · subst q2
      clear h'
      go_enter Try.func22, Try.ntmps22
      go_wp2_with (first | (go_at_call 28; refine (row_false _).mono ?_; rintro e w' ⟨rfl, rfl⟩))
      go_ret
      exact ⟨rfl, rfl⟩
    · have q3 : 1024 < m := by omega
      have l2 : decide ((1024 : Int) < (m : Int)) = true := by simp; omega
      have k1 : (m == 0) = false := by simp; omega
      have k2 : ((m : Int) == 0) = false := by simp; omega
      clear h' q2
      go_enter Try.func22, Try.ntmps22
      go_wp2_with (first | (go_at_call 28; refine (row_false _).mono ?_; rintro e w' ⟨rfl, rfl⟩))
      go_ret
      exact ⟨rfl, rfl⟩

theorem send_any (g : Nat) (st : St) (F : Nat → Prop) (up : Bool) (bv : Value) (bs : List Int) (w : World) (hL : LinkAt w g st F) (hb : BytesIn w bv bs) :
    Calls Try.prog 22 #[.pointer (some ⟨g, 0, none⟩), .bool up, bv] w (Turns (.bool (sendOk (st up) bs)) w g F (sendP st up bs)) := by
  have hL' := hL
  obtain ⟨v, us, gs, hP⟩ := hL
  obtain ⟨A, c, rfl, hc⟩ := hb
  unfold sendP
  by_cases ho : (st up).length < 64 ∧ 0 < bs.length ∧ bs.length ≤ 1024
  · have e : sendOk (st up) bs = true := by unfold sendOk; exact decide_eq_true ho
    rw [e, if_pos rfl]
    obtain ⟨ad, rfl, hcell⟩ := hc ho.2.1
    cases up with
    | true => exact send_true g st F v us gs w hP ho.1 c bs ho.2.1 ho.2.2 ad hcell
    | false => exact send_false g st F v us gs w hP ho.1 c bs ho.2.1 ho.2.2 ad hcell
  · have e : sendOk (st up) bs = false := by unfold sendOk; exact decide_eq_false ho
    rw [e, if_neg (by decide)]
    have h : 64 ≤ (st up).length ∨ bs.length = 0 ∨ 1024 < bs.length := by omega
    cases up with
    | true => exact (send_no_true g st F v us gs w hP A bs.length c h).mono fun e w' ⟨h1, h2⟩ => ⟨h1, h2 ▸ hL'.stays⟩
    | false => exact (send_no_false g st F v us gs w hP A bs.length c h).mono fun e w' ⟨h1, h2⟩ => ⟨h1, h2 ▸ hL'.stays⟩

end R
end Go.Proofs.Ytomhnabgdbpoiaa
