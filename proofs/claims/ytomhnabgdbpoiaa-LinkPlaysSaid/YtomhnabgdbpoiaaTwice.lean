/- Twice: what it does to the rows. Conditions: the link lies at its block. -/
import Derived.Test.YtomhnabgdbpoiaaChecked
import Derived.Test.YtomhnabgdbpoiaaFall
import Derived.WalkLawsBesides
import Derived.WalkSmall
import Derived.Deep.RegionHeld3
import Derived.Deep.RegionLaw
import Derived.Deep.DrawnRows
import Derived.Deep.QuietTactic
import Derived.BigQuiet
import Derived.Lib.Hide
namespace Go.Proofs.Ytomhnabgdbpoiaa
open Go.RowKit
attribute [local go_sem ↓] Go.wp_at_zero Go.wp_at_succ
set_option linter.unusedVariables false
set_option linter.unusedSimpArgs false

set_option maxRecDepth 100000 in
set_option maxHeartbeats 8000000 in
theorem twice_true (g : Nat) (st : St) (F : Nat → Prop) (v : Bool → Value) (us : Bool → List Value) (gs : Bool → List Nat) (w : World) (hP : Parts w g st F v us gs) (k : Nat) (hk : k < (st true).length) (hfull : (st true).length < 64) (j : Int) (hj : j = k) :
    Calls Try.prog 14 #[.pointer (some ⟨g, 0, none⟩), .int .i64 j] w (Turns (.bool true) w g F (upd st true (st true ++ [(st true)[k]]))) := by
  have hr := hP.owns true
  have hlen := hP.len true
  obtain ⟨r, cu, hv, _, lr⟩ := hr.form (by omega)
  obtain ⟨Ao, co, hvo⟩ := owns_form (hP.owns false)
  have hg := hP.blk
  rw [hv, hvo] at hg
  rw [hv] at hr
  obtain ⟨fv, gb, bs, hu, hgb, hbs, hF, h0, h1⟩ := (hP.frms true).at_ k hk
  obtain ⟨cb, rfl, lgb⟩ := frm_form hF
  obtain ⟨n, hn⟩ : ∃ n, (us true).length = n := ⟨_, rfl⟩
  obtain ⟨no, hno⟩ : ∃ n, (us false).length = n := ⟨_, rfl⟩
  obtain ⟨m, hm⟩ : ∃ m, bs.length = m := ⟨_, rfl⟩
  rw [hn] at hr hg hv hlen
  rw [hno] at hg hvo
  rw [hm] at hu hF h0 h1
  have hfew := hP.few true
  have hfewo := hP.few false
  have hleno := hP.len false
  rw [hno] at hleno
  have hkn : k < n := by omega
  have hn64 : n ≤ 64 := by omega
  have hno64 : no ≤ 64 := by omega
  have hki : (k : Int) < (n : Int) := by omega
  have hk0 : (0 : Int) ≤ (k : Int) := by omega
  have c0 : w.cell? ⟨g, 0, none⟩ = some (.slice (some ⟨r, 0, none⟩) n cu) := cell_of_row w g 0 _ _ _ hg
  have c1 : w.cell? ⟨g, 1, none⟩ = some (.slice Ao no co) := cell_of_row w g 1 _ _ _ hg
  have c2 : w.cell? ⟨r, k, none⟩ = some (.slice (some ⟨gb, 0, none⟩) m cb) := by
    have := hr.cells (g := r) rfl k _ hu
    rw [addr_add, Nat.zero_add] at this
    exact this
  have lg : g < w.heap.size := lt_of_block hg
  have hbs' : (st true)[k] = bs := by rw [List.getElem?_eq_getElem hk] at hbs; exact Option.some.inj hbs
  rw [hbs']
  have hl : n < 64 := by omega
  have l1 : decide ((64 : Int) ≤ (n : Int)) = false := by simp; omega
  have t1 := ta_td
  have t2 := ta_tt
  obtain ⟨i5, hi5, hz5, hs5, hb5⟩ := info_parts info5
  obtain ⟨i30, hi30, hz30, hs30, hb30⟩ := info_parts info30
  have U0 : Upto (fun _ => False) w ((w.alloc (.cells #[] 55)).drew.alloc (.cells #[] 5)) := ((Upto.refl _ w).alloc _).drew.alloc _
  have O0 : ((w.alloc (.cells #[] 55)).drew.alloc (.cells #[] 5)).ownsRow 0 5 1 (.slice (some ⟨w.heap.size + 1, 0, none⟩) 0 0) 0 [] := by
    have := World.ownsRow_made (base := 0) (e := 5) (size := 1) (w.alloc (.cells #[] 55)).drew #[] 0 (Nat.zero_le _) (Nat.zero_le _) rfl
    simpa using this
  have N0 : ∀ (j : Nat) u, (bs.map (Value.int .u8))[j]? = some u → ((w.alloc (.cells #[] 55)).drew.alloc (.cells #[] 5)).cell? ((⟨gb, 0, none⟩ : Addr).add j) = some u := fun j u hu => U0.cell (fun h => h.elim) (hF.1.cells (g := gb) rfl j u hu)
  replace U0 := Lib.hid U0
  replace O0 := Lib.hid O0
  replace N0 := Lib.hid N0
  have HP := Lib.hid hP
  have Hlen := Lib.hid hlen
  have Hm := Lib.hid hm
  have Hn := Lib.hid hn
  have Hv := Lib.hid hv
  have Hvo := Lib.hid hvo
  have Hg := Lib.hid hg
  have hjj : j = k := by exact hj
  clear hj
  have hj1 : 0 ≤ j := by omega
  have hj2 : j < n := by omega
  have hj3 : 0 ≤ j := by omega
  have hj4 : 0 ≤ j := by omega
  subst hjj
  clear hP hm hn hno hv hvo hg hF hgb hbs hbs' hu hlen hleno hfew hfewo
  go_enter Try.func14, Try.ntmps14
  go_wp2
  go_region_law (first
      | ((refine step_append_lies _ (by rfl) (Operand.tmp 62) (Operand.tmp 68) _ (by rfl) 0 5 i5 _ 1 1 Try.underlying30 hi5 hz5 hs5 hb5 rfl (by omega) (.slice (some ⟨w.heap.size + 1, 0, none⟩) 0 0) 0 [] (by rfl) O0.out ⟨gb, 0, none⟩ m cb (bs.map (Value.int .u8)) (by rfl) (by simp [Hm.out]) N0.out (ints_oneCell _ _) h0 (by unfold maxLen; omega) (by omega) (Nat.zero_le _) (w.heap.size + 1 + 1) (by simp) ?_; intro g1 cap1 w1 hown1 hgrow hat hlt; have U1 : Upto (fun _ => False) w w1 := (((Upto.refl _ w).alloc _).drew.alloc _).grown hgrow (fun k hk => .inr (by simp [Value.ownBlock] at hk; omega)); have b1 : w1.heap[g]? = some (.cells #[.slice (some ⟨r, 0, none⟩) n cu, .slice Ao no co] 28 (0, 0)) := U1.blk (fun h => h.elim) Hg.out; have d0 : w1.cell? ⟨g, 0, none⟩ = some (.slice (some ⟨r, 0, none⟩) n cu) := cell_of_row w1 g 0 _ _ _ b1; have d1 : w1.cell? ⟨g, 1, none⟩ = some (.slice Ao no co) := cell_of_row w1 g 1 _ _ _ b1; have lg1 : g < w1.heap.size := lt_of_block b1; replace b1 := Lib.hid b1))
      | ((refine step_append_lies _ (by rfl) (Operand.tmp 61) (Operand.tmp 70) _ (by rfl) 0 30 i30 _ 1 24 Try.underlying26 hi30 hz30 hs30 hb30 rfl (by omega) (.slice (some ⟨r, 0, none⟩) n cu) n (us true) (by rfl) ((U1.alloc _).owns hr (fun _ _ h => h.elim)) ⟨w1.heap.size, 0, none⟩ 1 1 [.slice (some ⟨g1, 0, none⟩) m cap1] (by rfl) (by rfl) (World.news_of_block (heap_alloc_new w1 _)) (by simp [Value.oneCell']) (by omega) (by unfold maxLen; omega) (by omega) (Nat.zero_le _) (w1.heap.size + 1) (by simp) ?_; intro g2 cap2 w2 hown2 hgrow2 hat2 hlt2; have b2 : w2.heap[g]? = some (.cells #[.slice (some ⟨r, 0, none⟩) n cu, .slice Ao no co] 28 (0, 0)) := ((Upto.refl (fun k => (Value.slice (some ⟨r, 0, none⟩) n cu).ownBlock = some k) (w1.alloc _)).grown hgrow2 (fun k hk => .inl hk)).blk (fun hk => HP.out.row_ne_g true (by rw [Hv.out]; exact hk) rfl) ((Below.heap_alloc w1 _ g lg1).trans b1.out); have e0 : w2.cell? ⟨g, 0, none⟩ = some (.slice (some ⟨r, 0, none⟩) n cu) := cell_of_row w2 g 0 _ _ _ b2; have f0 : w2.frozen? ⟨g, 0, none⟩ = false := frozen_of_row b2; replace b2 := Lib.hid b2)))
  all_goals
    go_wp2
    go_ret
    exact ⟨rfl, sent_close HP.out true Hv.out Hn.out hl U1 hown1 Hm.out h0 h1 (by rcases hat with h | h; (simp [Value.ownBlock] at h; omega); omega) hlt rfl hgrow2 hown2 hat2 hlt2 (by have := b2.out; rw [← Hv.out, ← Hvo.out] at this; exact this) _ rfl⟩

set_option maxRecDepth 100000 in
set_option maxHeartbeats 8000000 in
theorem twice_false (g : Nat) (st : St) (F : Nat → Prop) (v : Bool → Value) (us : Bool → List Value) (gs : Bool → List Nat) (w : World) (hP : Parts w g st F v us gs) (k : Nat) (hk : k < (st false).length) (hfull : (st false).length < 64) (j : Int) (hj : j = (st true).length + k) :
    Calls Try.prog 14 #[.pointer (some ⟨g, 0, none⟩), .int .i64 j] w (Turns (.bool true) w g F (upd st false (st false ++ [(st false)[k]]))) := by
  have hr := hP.owns false
  have hlen := hP.len false
  obtain ⟨r, cu, hv, _, lr⟩ := hr.form (by omega)
  obtain ⟨Ao, co, hvo⟩ := owns_form (hP.owns true)
  have hg := hP.blk
  rw [hv, hvo] at hg
  rw [hv] at hr
  obtain ⟨fv, gb, bs, hu, hgb, hbs, hF, h0, h1⟩ := (hP.frms false).at_ k hk
  obtain ⟨cb, rfl, lgb⟩ := frm_form hF
  obtain ⟨n, hn⟩ : ∃ n, (us false).length = n := ⟨_, rfl⟩
  obtain ⟨no, hno⟩ : ∃ n, (us true).length = n := ⟨_, rfl⟩
  obtain ⟨m, hm⟩ : ∃ m, bs.length = m := ⟨_, rfl⟩
  rw [hn] at hr hg hv hlen
  rw [hno] at hg hvo
  rw [hm] at hu hF h0 h1
  have hfew := hP.few false
  have hfewo := hP.few true
  have hleno := hP.len true
  rw [hno] at hleno
  have hkn : k < n := by omega
  have hn64 : n ≤ 64 := by omega
  have hno64 : no ≤ 64 := by omega
  have hki : (k : Int) < (n : Int) := by omega
  have hk0 : (0 : Int) ≤ (k : Int) := by omega
  have c0 : w.cell? ⟨g, 0, none⟩ = some (.slice Ao no co) := cell_of_row w g 0 _ _ _ hg
  have c1 : w.cell? ⟨g, 1, none⟩ = some (.slice (some ⟨r, 0, none⟩) n cu) := cell_of_row w g 1 _ _ _ hg
  have c2 : w.cell? ⟨r, k, none⟩ = some (.slice (some ⟨gb, 0, none⟩) m cb) := by
    have := hr.cells (g := r) rfl k _ hu
    rw [addr_add, Nat.zero_add] at this
    exact this
  have lg : g < w.heap.size := lt_of_block hg
  have hbs' : (st false)[k] = bs := by rw [List.getElem?_eq_getElem hk] at hbs; exact Option.some.inj hbs
  rw [hbs']
  have hl : n < 64 := by omega
  have l1 : decide ((64 : Int) ≤ (n : Int)) = false := by simp; omega
  have t1 := ta_td
  have t2 := ta_tt
  obtain ⟨i5, hi5, hz5, hs5, hb5⟩ := info_parts info5
  obtain ⟨i30, hi30, hz30, hs30, hb30⟩ := info_parts info30
  have U0 : Upto (fun _ => False) w ((w.alloc (.cells #[] 55)).drew.alloc (.cells #[] 5)) := ((Upto.refl _ w).alloc _).drew.alloc _
  have O0 : ((w.alloc (.cells #[] 55)).drew.alloc (.cells #[] 5)).ownsRow 0 5 1 (.slice (some ⟨w.heap.size + 1, 0, none⟩) 0 0) 0 [] := by
    have := World.ownsRow_made (base := 0) (e := 5) (size := 1) (w.alloc (.cells #[] 55)).drew #[] 0 (Nat.zero_le _) (Nat.zero_le _) rfl
    simpa using this
  have N0 : ∀ (j : Nat) u, (bs.map (Value.int .u8))[j]? = some u → ((w.alloc (.cells #[] 55)).drew.alloc (.cells #[] 5)).cell? ((⟨gb, 0, none⟩ : Addr).add j) = some u := fun j u hu => U0.cell (fun h => h.elim) (hF.1.cells (g := gb) rfl j u hu)
  replace U0 := Lib.hid U0
  replace O0 := Lib.hid O0
  replace N0 := Lib.hid N0
  have HP := Lib.hid hP
  have Hlen := Lib.hid hlen
  have Hm := Lib.hid hm
  have Hn := Lib.hid hn
  have Hv := Lib.hid hv
  have Hvo := Lib.hid hvo
  have Hg := Lib.hid hg
  have hjj : j = no + k := by rw [hj]; omega
  clear hj
  have hj1 : 0 ≤ j := by omega
  have hj2 : (no : Int) ≤ j := by omega
  have hj3 : j - no < n := by omega
  have hj4 : 0 ≤ j - no := by omega
  obtain rfl : j = (k : Int) + no := by omega
  clear hjj
  clear hP hm hn hno hv hvo hg hF hgb hbs hbs' hu hlen hleno hfew hfewo
  go_enter Try.func14, Try.ntmps14
  go_wp2
  go_region_law (first
      | ((refine step_append_lies _ (by rfl) (Operand.tmp 62) (Operand.tmp 68) _ (by rfl) 0 5 i5 _ 1 1 Try.underlying30 hi5 hz5 hs5 hb5 rfl (by omega) (.slice (some ⟨w.heap.size + 1, 0, none⟩) 0 0) 0 [] (by rfl) O0.out ⟨gb, 0, none⟩ m cb (bs.map (Value.int .u8)) (by rfl) (by simp [Hm.out]) N0.out (ints_oneCell _ _) h0 (by unfold maxLen; omega) (by omega) (Nat.zero_le _) (w.heap.size + 1 + 1) (by simp) ?_; intro g1 cap1 w1 hown1 hgrow hat hlt; have U1 : Upto (fun _ => False) w w1 := (((Upto.refl _ w).alloc _).drew.alloc _).grown hgrow (fun k hk => .inr (by simp [Value.ownBlock] at hk; omega)); have b1 : w1.heap[g]? = some (.cells #[.slice Ao no co, .slice (some ⟨r, 0, none⟩) n cu] 28 (0, 0)) := U1.blk (fun h => h.elim) Hg.out; have d0 : w1.cell? ⟨g, 0, none⟩ = some (.slice Ao no co) := cell_of_row w1 g 0 _ _ _ b1; have d1 : w1.cell? ⟨g, 1, none⟩ = some (.slice (some ⟨r, 0, none⟩) n cu) := cell_of_row w1 g 1 _ _ _ b1; have lg1 : g < w1.heap.size := lt_of_block b1; replace b1 := Lib.hid b1))
      | ((refine step_append_lies _ (by rfl) (Operand.tmp 61) (Operand.tmp 70) _ (by rfl) 0 30 i30 _ 1 24 Try.underlying26 hi30 hz30 hs30 hb30 rfl (by omega) (.slice (some ⟨r, 0, none⟩) n cu) n (us false) (by rfl) ((U1.alloc _).owns hr (fun _ _ h => h.elim)) ⟨w1.heap.size, 0, none⟩ 1 1 [.slice (some ⟨g1, 0, none⟩) m cap1] (by rfl) (by rfl) (World.news_of_block (heap_alloc_new w1 _)) (by simp [Value.oneCell']) (by omega) (by unfold maxLen; omega) (by omega) (Nat.zero_le _) (w1.heap.size + 1) (by simp) ?_; intro g2 cap2 w2 hown2 hgrow2 hat2 hlt2; have b2 : w2.heap[g]? = some (.cells #[.slice Ao no co, .slice (some ⟨r, 0, none⟩) n cu] 28 (0, 0)) := ((Upto.refl (fun k => (Value.slice (some ⟨r, 0, none⟩) n cu).ownBlock = some k) (w1.alloc _)).grown hgrow2 (fun k hk => .inl hk)).blk (fun hk => HP.out.row_ne_g false (by rw [Hv.out]; exact hk) rfl) ((Below.heap_alloc w1 _ g lg1).trans b1.out); have e0 : w2.cell? ⟨g, 1, none⟩ = some (.slice (some ⟨r, 0, none⟩) n cu) := cell_of_row w2 g 1 _ _ _ b2; have f0 : w2.frozen? ⟨g, 1, none⟩ = false := frozen_of_row b2; replace b2 := Lib.hid b2)))
  all_goals
    go_wp2
    go_ret
    exact ⟨rfl, sent_close HP.out false Hv.out Hn.out hl U1 hown1 Hm.out h0 h1 (by rcases hat with h | h; (simp [Value.ownBlock] at h; omega); omega) hlt rfl hgrow2 hown2 hat2 hlt2 (by have := b2.out; rw [← Hv.out, ← Hvo.out] at this; exact this) _ rfl⟩
end Go.Proofs.Ytomhnabgdbpoiaa
