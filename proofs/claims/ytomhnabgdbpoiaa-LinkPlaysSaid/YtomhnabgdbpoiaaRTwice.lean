/- The reference's Twice and Clear. Conditions: the link lies at its block. -/
import Derived.Test.YtomhnabgdbpoiaaRDrop
namespace Go.Proofs.Ytomhnabgdbpoiaa
open Go.RowKit
attribute [local go_sem ↓] Go.wp_at_zero Go.wp_at_succ
set_option linter.unusedVariables false
set_option linter.unusedSimpArgs false
namespace R

set_option maxRecDepth 100000 in
set_option maxHeartbeats 8000000 in
theorem twice_true (g : Nat) (st : St) (F : Nat → Prop) (v : Bool → Value) (us : Bool → List Value) (gs : Bool → List Nat) (w : World) (hP : Parts w g st F v us gs) (k : Nat) (hk : k < (st true).length) (hfull : (st true).length < 64) (j : Int) (hj : j = k) :
    Calls Try.prog 25 #[.pointer (some ⟨g, 0, none⟩), .int .i64 j] w (Turns (.bool true) w g F (upd st true (st true ++ [(st true)[k]]))) := by
  have Wh := where_yes_true g st F v us gs w hP k hk j hj
  have hr := hP.owns true
  have hlen := hP.len true
  obtain ⟨r, cu, hv, _, lr⟩ := hr.form (by omega)
  obtain ⟨Ao, co, hvo⟩ := owns_form (hP.owns false)
  have hg := hP.blk
  rw [hv, hvo] at hg
  rw [hv] at hr
  obtain ⟨fv, gb, bs, hu, hgb, hbs, hF, h0, h1⟩ := (hP.frms true).at_ k hk
  obtain ⟨cb, rfl, lgb⟩ := frm_form hF
  obtain ⟨n, hn⟩ : ∃ n, (us true).length = n := ⟨_, rfl⟩
  obtain ⟨no, hno⟩ : ∃ n, (us false).length = n := ⟨_, rfl⟩
  obtain ⟨m, hm⟩ : ∃ m, bs.length = m := ⟨_, rfl⟩
  rw [hn] at hr hg hv hlen
  rw [hno] at hg hvo
  rw [hm] at hu hF h0 h1
  have hkn : k < n := by omega
  have hki : (k : Int) < (n : Int) := by omega
  have hk0 : (0 : Int) ≤ (k : Int) := by omega
  have c0 : w.cell? ⟨g, 0, none⟩ = some (.slice (some ⟨r, 0, none⟩) n cu) := cell_of_row w g 0 _ _ _ hg
  have c2 : w.cell? ⟨r, k, none⟩ = some (.slice (some ⟨gb, 0, none⟩) m cb) := by
    have := hr.cells (g := r) rfl k _ hu
    rw [addr_add, Nat.zero_add] at this
    exact this
  have lg : g < w.heap.size := lt_of_block hg
  have hbs' : (st true)[k] = bs := by rw [List.getElem?_eq_getElem hk] at hbs; exact Option.some.inj hbs
  rw [hbs']
  have hl : n < 64 := by omega
  have l1 : decide ((64 : Int) ≤ (n : Int)) = false := by simp; omega
  obtain ⟨i5, hi5, hz5, hs5, hb5⟩ := info_parts info5
  obtain ⟨i30, hi30, hz30, hs30, hb30⟩ := info_parts info30
  have U0 : ∀ q : Nat, Upto (fun _ => False) w ((w.drewN q).alloc (.cells #[] 5)) := fun q => ((Upto.refl _ w).drewN q).alloc _
  have O0 : ∀ q : Nat, ((w.drewN q).alloc (.cells #[] 5)).ownsRow 0 5 1 (.slice (some ⟨w.heap.size, 0, none⟩) 0 0) 0 [] := fun q => World.ownsRow_made (base := 0) (e := 5) (size := 1) (w.drewN q) #[] 0 (Nat.zero_le _) (Nat.zero_le _) rfl
  have N0 : ∀ (q : Nat) (j : Nat) u, (bs.map (Value.int .u8))[j]? = some u → ((w.drewN q).alloc (.cells #[] 5)).cell? ((⟨gb, 0, none⟩ : Addr).add j) = some u := fun q j u hu => (U0 q).cell (fun h => h.elim) (hF.1.cells (g := gb) rfl j u hu)
  replace U0 := Lib.hid U0
  replace O0 := Lib.hid O0
  replace N0 := Lib.hid N0
  have HP := Lib.hid hP
  have Hlen := Lib.hid hlen
  have Hm := Lib.hid hm
  have Hn := Lib.hid hn
  have Hv := Lib.hid hv
  have Hvo := Lib.hid hvo
  have Hg := Lib.hid hg
  have Wh' := Lib.hid Wh
  have ne0 : ∀ q : Nat, ((w.drewN q).alloc (.cells #[] 5)).cell? ⟨g, 0, none⟩ = some (.slice (some ⟨r, 0, none⟩) n cu) := fun q => (U0.out q).cell (fun h => h.elim) c0
  have ne2 : ∀ q : Nat, ((w.drewN q).alloc (.cells #[] 5)).cell? ⟨r, k, none⟩ = some (.slice (some ⟨gb, 0, none⟩) m cb) := fun q => (U0.out q).cell (fun h => h.elim) c2
  clear hP hm hn hno hv hvo hg hF hgb hbs hbs' hu hlen hj Wh
  go_enter Try.func25, Try.ntmps25
  go_wp2_with (go_at_call 30; refine Wh'.out.mono ?_; rintro e w' ⟨rfl, mm, rfl⟩)
  go_region_law (first
      | ((refine step_append_lies _ (by rfl) (Operand.tmp 35) (Operand.tmp 44) _ (by rfl) 0 5 i5 _ 1 1 Try.underlying30 hi5 hz5 hs5 hb5 rfl (by omega) (.slice (some ⟨w.heap.size, 0, none⟩) 0 0) 0 [] (by rfl) (O0.out (mm + 1)) ⟨gb, 0, none⟩ m cb (bs.map (Value.int .u8)) (by rfl) (by simp [Hm.out]) (N0.out (mm + 1)) (ints_oneCell _ _) h0 (by unfold maxLen; omega) (by omega) (Nat.zero_le _) (w.heap.size + 1) (by simp) ?_; intro g1 cap1 w1 hown1 hgrow hat hlt; have U1 : Upto (fun _ => False) w w1 := (U0.out (mm + 1)).grown hgrow (fun k hk => .inr (by simp [Value.ownBlock] at hk; omega)); have b1 : w1.heap[g]? = some (.cells #[.slice (some ⟨r, 0, none⟩) n cu, .slice Ao no co] 46 (0, 0)) := U1.blk (fun h => h.elim) Hg.out; have d0 : w1.cell? ⟨g, 0, none⟩ = some (.slice (some ⟨r, 0, none⟩) n cu) := cell_of_row w1 g 0 _ _ _ b1; have lg1 : g < w1.heap.size := lt_of_block b1; replace b1 := Lib.hid b1))
      | ((refine step_append_lies _ (by rfl) (Operand.tmp 34) (Operand.tmp 46) _ (by rfl) 0 30 i30 _ 1 24 Try.underlying22 hi30 hz30 hs30 hb30 rfl (by omega) (.slice (some ⟨r, 0, none⟩) n cu) n (us true) (by rfl) ((U1.alloc _).owns hr (fun _ _ h => h.elim)) ⟨w1.heap.size, 0, none⟩ 1 1 [.slice (some ⟨g1, 0, none⟩) m cap1] (by rfl) (by rfl) (World.news_of_block (heap_alloc_new w1 _)) (by simp [Value.oneCell']) (by omega) (by unfold maxLen; omega) (by omega) (Nat.zero_le _) (w1.heap.size + 1) (by simp) ?_; intro g2 cap2 w2 hown2 hgrow2 hat2 hlt2; have b2 : w2.heap[g]? = some (.cells #[.slice (some ⟨r, 0, none⟩) n cu, .slice Ao no co] 46 (0, 0)) := ((Upto.refl (fun k => (Value.slice (some ⟨r, 0, none⟩) n cu).ownBlock = some k) (w1.alloc _)).grown hgrow2 (fun k hk => .inl hk)).blk (fun hk => HP.out.row_ne_g true (by rw [Hv.out]; exact hk) rfl) ((Below.heap_alloc w1 _ g lg1).trans b1.out); have e0 : w2.cell? ⟨g, 0, none⟩ = some (.slice (some ⟨r, 0, none⟩) n cu) := cell_of_row w2 g 0 _ _ _ b2; have f0 : w2.frozen? ⟨g, 0, none⟩ = false := frozen_of_row b2; replace b2 := Lib.hid b2)))
  all_goals
    go_wp2
    go_ret
    exact ⟨rfl, sent_close HP.out true Hv.out Hn.out hl U1 hown1 Hm.out h0 h1 (by rcases hat with h | h; (simp [Value.ownBlock] at h; omega); omega) hlt rfl hgrow2 hown2 hat2 hlt2 (by have := b2.out; rw [← Hv.out, ← Hvo.out] at this; exact this) _ rfl⟩

set_option maxRecDepth 100000 in
theorem twice_full_true (g : Nat) (st : St) (F : Nat → Prop) (w : World) (hL : LinkAt w g st F) (k : Nat) (hk : k < (st true).length) (hfull : 64 ≤ (st true).length) (j : Int) (hj : j = k) :
    Calls Try.prog 25 #[.pointer (some ⟨g, 0, none⟩), .int .i64 j] w (Turns (.bool false) w g F st) := by
  obtain ⟨v, us, gs, hP⟩ := id hL
  have Wh := where_yes_true g st F v us gs w hP k hk j hj
  obtain ⟨Au, cu, hv⟩ := owns_form (hP.owns true)
  have hg := hP.blk
  rw [hv, hP.len true] at hg
  have c0 := cell_of_row w g 0 _ _ _ hg
  obtain ⟨n, hn⟩ : ∃ n, (st true).length = n := ⟨_, rfl⟩
  rw [hn] at c0 hfull
  have c0' : w.cell? ⟨g, 0, none⟩ = some (.slice Au n cu) := c0
  have l1 : decide ((64 : Int) ≤ (n : Int)) = true := by simp; omega
  have Wh' := Lib.hid Wh
  clear hP Wh hj hg hv hn c0
  go_enter Try.func25, Try.ntmps25
  go_wp2_with (go_at_call 30; refine Wh'.out.mono ?_; rintro e w' ⟨rfl, mm, rfl⟩)
  go_ret
  exact ⟨rfl, hL.goes ((Upto.refl _ w).drewN mm)⟩

set_option maxRecDepth 100000 in
set_option maxHeartbeats 8000000 in
theorem twice_false (g : Nat) (st : St) (F : Nat → Prop) (v : Bool → Value) (us : Bool → List Value) (gs : Bool → List Nat) (w : World) (hP : Parts w g st F v us gs) (k : Nat) (hk : k < (st false).length) (hfull : (st false).length < 64) (j : Int) (hj : j = (st true).length + k) :
    Calls Try.prog 25 #[.pointer (some ⟨g, 0, none⟩), .int .i64 j] w (Turns (.bool true) w g F (upd st false (st false ++ [(st false)[k]]))) := by
  have Wh := where_yes_false g st F v us gs w hP k hk j hj
  have hr := hP.owns false
  have hlen := hP.len false
  obtain ⟨r, cu, hv, _, lr⟩ := hr.form (by omega)
  obtain ⟨Ao, co, hvo⟩ := owns_form (hP.owns true)
  have hg := hP.blk
  rw [hv, hvo] at hg
  rw [hv] at hr
  obtain ⟨fv, gb, bs, hu, hgb, hbs, hF, h0, h1⟩ := (hP.frms false).at_ k hk
  obtain ⟨cb, rfl, lgb⟩ := frm_form hF
  obtain ⟨n, hn⟩ : ∃ n, (us false).length = n := ⟨_, rfl⟩
  obtain ⟨no, hno⟩ : ∃ n, (us true).length = n := ⟨_, rfl⟩
  obtain ⟨m, hm⟩ : ∃ m, bs.length = m := ⟨_, rfl⟩
  rw [hn] at hr hg hv hlen
  rw [hno] at hg hvo
  rw [hm] at hu hF h0 h1
  have hkn : k < n := by omega
  have hki : (k : Int) < (n : Int) := by omega
  have hk0 : (0 : Int) ≤ (k : Int) := by omega
  have c0 : w.cell? ⟨g, 1, none⟩ = some (.slice (some ⟨r, 0, none⟩) n cu) := cell_of_row w g 1 _ _ _ hg
  have c2 : w.cell? ⟨r, k, none⟩ = some (.slice (some ⟨gb, 0, none⟩) m cb) := by
    have := hr.cells (g := r) rfl k _ hu
    rw [addr_add, Nat.zero_add] at this
    exact this
  have lg : g < w.heap.size := lt_of_block hg
  have hbs' : (st false)[k] = bs := by rw [List.getElem?_eq_getElem hk] at hbs; exact Option.some.inj hbs
  rw [hbs']
  have hl : n < 64 := by omega
  have l1 : decide ((64 : Int) ≤ (n : Int)) = false := by simp; omega
  obtain ⟨i5, hi5, hz5, hs5, hb5⟩ := info_parts info5
  obtain ⟨i30, hi30, hz30, hs30, hb30⟩ := info_parts info30
  have U0 : ∀ q : Nat, Upto (fun _ => False) w ((w.drewN q).alloc (.cells #[] 5)) := fun q => ((Upto.refl _ w).drewN q).alloc _
  have O0 : ∀ q : Nat, ((w.drewN q).alloc (.cells #[] 5)).ownsRow 0 5 1 (.slice (some ⟨w.heap.size, 0, none⟩) 0 0) 0 [] := fun q => World.ownsRow_made (base := 0) (e := 5) (size := 1) (w.drewN q) #[] 0 (Nat.zero_le _) (Nat.zero_le _) rfl
  have N0 : ∀ (q : Nat) (j : Nat) u, (bs.map (Value.int .u8))[j]? = some u → ((w.drewN q).alloc (.cells #[] 5)).cell? ((⟨gb, 0, none⟩ : Addr).add j) = some u := fun q j u hu => (U0 q).cell (fun h => h.elim) (hF.1.cells (g := gb) rfl j u hu)
  replace U0 := Lib.hid U0
  replace O0 := Lib.hid O0
  replace N0 := Lib.hid N0
  have HP := Lib.hid hP
  have Hlen := Lib.hid hlen
  have Hm := Lib.hid hm
  have Hn := Lib.hid hn
  have Hv := Lib.hid hv
  have Hvo := Lib.hid hvo
  have Hg := Lib.hid hg
  have Wh' := Lib.hid Wh
  have ne0 : ∀ q : Nat, ((w.drewN q).alloc (.cells #[] 5)).cell? ⟨g, 1, none⟩ = some (.slice (some ⟨r, 0, none⟩) n cu) := fun q => (U0.out q).cell (fun h => h.elim) c0
  have ne2 : ∀ q : Nat, ((w.drewN q).alloc (.cells #[] 5)).cell? ⟨r, k, none⟩ = some (.slice (some ⟨gb, 0, none⟩) m cb) := fun q => (U0.out q).cell (fun h => h.elim) c2
  clear hP hm hn hno hv hvo hg hF hgb hbs hbs' hu hlen hj Wh
  go_enter Try.func25, Try.ntmps25
  go_wp2_with (go_at_call 30; refine Wh'.out.mono ?_; rintro e w' ⟨rfl, mm, rfl⟩)
  go_region_law (first
      | ((refine step_append_lies _ (by rfl) (Operand.tmp 35) (Operand.tmp 44) _ (by rfl) 0 5 i5 _ 1 1 Try.underlying30 hi5 hz5 hs5 hb5 rfl (by omega) (.slice (some ⟨w.heap.size, 0, none⟩) 0 0) 0 [] (by rfl) (O0.out (mm + 1)) ⟨gb, 0, none⟩ m cb (bs.map (Value.int .u8)) (by rfl) (by simp [Hm.out]) (N0.out (mm + 1)) (ints_oneCell _ _) h0 (by unfold maxLen; omega) (by omega) (Nat.zero_le _) (w.heap.size + 1) (by simp) ?_; intro g1 cap1 w1 hown1 hgrow hat hlt; have U1 : Upto (fun _ => False) w w1 := (U0.out (mm + 1)).grown hgrow (fun k hk => .inr (by simp [Value.ownBlock] at hk; omega)); have b1 : w1.heap[g]? = some (.cells #[.slice Ao no co, .slice (some ⟨r, 0, none⟩) n cu] 46 (0, 0)) := U1.blk (fun h => h.elim) Hg.out; have d0 : w1.cell? ⟨g, 1, none⟩ = some (.slice (some ⟨r, 0, none⟩) n cu) := cell_of_row w1 g 1 _ _ _ b1; have lg1 : g < w1.heap.size := lt_of_block b1; replace b1 := Lib.hid b1))
      | ((refine step_append_lies _ (by rfl) (Operand.tmp 34) (Operand.tmp 46) _ (by rfl) 0 30 i30 _ 1 24 Try.underlying22 hi30 hz30 hs30 hb30 rfl (by omega) (.slice (some ⟨r, 0, none⟩) n cu) n (us false) (by rfl) ((U1.alloc _).owns hr (fun _ _ h => h.elim)) ⟨w1.heap.size, 0, none⟩ 1 1 [.slice (some ⟨g1, 0, none⟩) m cap1] (by rfl) (by rfl) (World.news_of_block (heap_alloc_new w1 _)) (by simp [Value.oneCell']) (by omega) (by unfold maxLen; omega) (by omega) (Nat.zero_le _) (w1.heap.size + 1) (by simp) ?_; intro g2 cap2 w2 hown2 hgrow2 hat2 hlt2; have b2 : w2.heap[g]? = some (.cells #[.slice Ao no co, .slice (some ⟨r, 0, none⟩) n cu] 46 (0, 0)) := ((Upto.refl (fun k => (Value.slice (some ⟨r, 0, none⟩) n cu).ownBlock = some k) (w1.alloc _)).grown hgrow2 (fun k hk => .inl hk)).blk (fun hk => HP.out.row_ne_g false (by rw [Hv.out]; exact hk) rfl) ((Below.heap_alloc w1 _ g lg1).trans b1.out); have e0 : w2.cell? ⟨g, 1, none⟩ = some (.slice (some ⟨r, 0, none⟩) n cu) := cell_of_row w2 g 1 _ _ _ b2; have f0 : w2.frozen? ⟨g, 1, none⟩ = false := frozen_of_row b2; replace b2 := Lib.hid b2)))
  all_goals
    go_wp2
    go_ret
    exact ⟨rfl, sent_close HP.out false Hv.out Hn.out hl U1 hown1 Hm.out h0 h1 (by rcases hat with h | h; (simp [Value.ownBlock] at h; omega); omega) hlt rfl hgrow2 hown2 hat2 hlt2 (by have := b2.out; rw [← Hv.out, ← Hvo.out] at this; exact this) _ rfl⟩

set_option maxRecDepth 100000 in
theorem twice_full_false (g : Nat) (st : St) (F : Nat → Prop) (w : World) (hL : LinkAt w g st F) (k : Nat) (hk : k < (st false).length) (hfull : 64 ≤ (st false).length) (j : Int) (hj : j = (st true).length + k) :
    Calls Try.prog 25 #[.pointer (some ⟨g, 0, none⟩), .int .i64 j] w (Turns (.bool false) w g F st) := by
  obtain ⟨v, us, gs, hP⟩ := id hL
  have Wh := where_yes_false g st F v us gs w hP k hk j hj
  obtain ⟨Au, cu, hv⟩ := owns_form (hP.owns false)
  have hg := hP.blk
  rw [hv, hP.len false] at hg
  have c0 := cell_of_row w g 1 _ _ _ hg
  obtain ⟨n, hn⟩ : ∃ n, (st false).length = n := ⟨_, rfl⟩
  rw [hn] at c0 hfull
  have c0' : w.cell? ⟨g, 1, none⟩ = some (.slice Au n cu) := c0
  have l1 : decide ((64 : Int) ≤ (n : Int)) = true := by simp; omega
  have Wh' := Lib.hid Wh
  clear hP Wh hj hg hv hn c0
  go_enter Try.func25, Try.ntmps25
  go_wp2_with (go_at_call 30; refine Wh'.out.mono ?_; rintro e w' ⟨rfl, mm, rfl⟩)
  go_ret
  exact ⟨rfl, hL.goes ((Upto.refl _ w).drewN mm)⟩

set_option maxRecDepth 100000 in
theorem twice_no (g : Nat) (st : St) (F : Nat → Prop) (w : World) (hL : LinkAt w g st F) (j : Int) (jr : j < 9223372036854775808) (hj : j < 0 ∨ ((st true).length : Int) + (st false).length ≤ j) :
    Calls Try.prog 25 #[.pointer (some ⟨g, 0, none⟩), .int .i64 j] w (Turns (.bool false) w g F st) := by
  obtain ⟨v, us, gs, hP⟩ := id hL
  have Wh := where_no g st F v us gs w hP j jr hj
  have Wh' := Lib.hid Wh
  clear hP Wh hj
  go_enter Try.func25, Try.ntmps25
  go_wp2_with (go_at_call 30; refine Wh'.out.mono ?_; rintro e w' ⟨rfl, mm, rfl⟩)
  go_ret
  exact ⟨rfl, hL.goes ((Upto.refl _ w).drewN mm)⟩
theorem twice_any (g : Nat) (st : St) (F : Nat → Prop) (w : World) (hL : LinkAt w g st F) (j : Int) (jr : j < 9223372036854775808) :
    Calls Try.prog 25 #[.pointer (some ⟨g, 0, none⟩), .int .i64 j] w (Turns (.bool (twiceB st j)) w g F (twiceP st j)) := by
  unfold twiceB twiceP
  rcases at_cases st j with ⟨h, hj⟩ | ⟨k, h, hj, hk⟩ | ⟨k, h, hj, hk⟩
  · rw [h]; exact twice_no g st F w hL j jr hj
  · rw [h]
    show Calls _ _ _ _ (Turns (.bool (decide ((st true).length < 64))) w g F (if (st true).length < 64 then _ else _))
    by_cases hf : (st true).length < 64
    · rw [if_pos hf, decide_eq_true hf, List.getElem?_eq_getElem hk]
      obtain ⟨v, us, gs, hP⟩ := hL; exact twice_true g st F v us gs w hP k hk hf j hj
    · rw [if_neg hf, decide_eq_false hf]; exact twice_full_true g st F w hL k hk (by omega) j hj
  · rw [h]
    show Calls _ _ _ _ (Turns (.bool (decide ((st false).length < 64))) w g F (if (st false).length < 64 then _ else _))
    by_cases hf : (st false).length < 64
    · rw [if_pos hf, decide_eq_true hf, List.getElem?_eq_getElem hk]
      obtain ⟨v, us, gs, hP⟩ := hL; exact twice_false g st F v us gs w hP k hk hf j hj
    · rw [if_neg hf, decide_eq_false hf]; exact twice_full_false g st F w hL k hk (by omega) j hj
end R
end Go.Proofs.Ytomhnabgdbpoiaa
