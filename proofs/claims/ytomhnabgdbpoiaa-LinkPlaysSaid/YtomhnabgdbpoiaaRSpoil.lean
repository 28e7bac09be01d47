/- The reference's Spoil and Clear. Conditions: the link lies at its block. -/
import Derived.Test.YtomhnabgdbpoiaaRDrop
import Derived.Test.YtomhnabgdbpoiaaSpoil
namespace Go.Proofs.Ytomhnabgdbpoiaa
open Go.RowKit
attribute [local go_sem ↓] Go.wp_at_zero Go.wp_at_succ
set_option linter.unusedVariables false
set_option linter.unusedSimpArgs false
namespace R
theorem frms_put {w : World} {v : Value} {g : Nat} {b : List Int} (hf : Frm w v g b) (h0 : 0 < b.length) (h1 : b.length ≤ 1024) : ∀ {vs : List Value} {gs : List Nat} {fs : List (List Int)}, Frms w vs gs fs → ∀ k, Frms w (vs.set k v) (gs.set k g) (fs.set k b)
  | [], [], [], _, _ => by simp [Frms]
  | _ :: _, _ :: _, _ :: _, ⟨_, h3⟩, 0 => ⟨⟨hf, h0, h1⟩, h3⟩
  | _ :: _, _ :: _, _ :: _, ⟨h2, h3⟩, k + 1 => ⟨h2, frms_put hf h0 h1 h3 k⟩
  | [], [], _ :: _, h, _ => h.elim
  | [], _ :: _, _, h, _ => h.elim
  | _ :: _, [], _, h, _ => h.elim
  | _ :: _, _ :: _, [], h, _ => h.elim
theorem nodup_put {x : Nat} : ∀ {l : List Nat} (k : Nat), l.Nodup → x ∉ l → (l.set k x).Nodup
  | [], _, _, _ => by simp
  | a :: l, 0, h, hx => by
    simp only [List.set_cons_zero, List.nodup_cons] at h ⊢
    exact ⟨fun h' => hx (List.mem_cons_of_mem _ h'), h.2⟩
  | a :: l, k + 1, h, hx => by
    simp only [List.set_cons_succ, List.nodup_cons] at h ⊢
    refine ⟨fun h' => ?_, nodup_put k h.2 (fun h' => hx (List.mem_cons_of_mem _ h'))⟩
    rcases List.mem_or_eq_of_mem_set h' with h'' | rfl
    · exact h.1 h''
    · exact hx (List.mem_cons_self ..)
theorem spoil_close {w w1 : World} {g : Nat} {st : St} {F : Nat → Prop} {v : Bool → Value} {us : Bool → List Value} {gs : Bool → List Nat} (hP : Parts w g st F v us gs) (up : Bool) {k r n cu g1 cap1 m : Nat} {bs bs' : List Int}
    (hv : v up = .slice (some ⟨r, 0, none⟩) n cu) (hn : (us up).length = n) (U1 : Upto (fun _ => False) w w1) (hown1 : w1.ownsRow 0 5 1 (.slice (some ⟨g1, 0, none⟩) (0 + m) cap1) (0 + m) ([] ++ bs.map (Value.int .u8)))
    (hm : bs.length = m) (h0 : 0 < m) (h1 : m ≤ 1024) (hg1 : w.heap.size ≤ g1) (hlt1 : g1 < w1.heap.size) (i : Nat) (x : Int) (hx : bs' = bs.set i x) (w3 : World)
    (hw3 : w3 = ((w1.setCell ⟨g1, i, none⟩ (.int .u8 x)).drew.setCell ⟨r, k, none⟩ (.slice (some ⟨g1, 0, none⟩) m cap1))) : LinkPost w g F Nought (upd st up ((st up).set k bs')) w3 := by
  subst hw3 hx
  have hlg : g < w.heap.size := lt_of_block hP.blk
  have hrb : (v up).ownBlock = some r := by rw [hv]; rfl
  have hgr : r ≠ g := hP.row_ne_g up hrb
  have hlr : r < w.heap.size := by
    obtain ⟨cs, hc⟩ := own_block_type (hP.owns up) hrb
    exact lt_of_block hc
  have Ur : Upto (fun q => q = r) w ((w1.setCell ⟨g1, i, none⟩ (.int .u8 x)).drew.setCell ⟨r, k, none⟩ (.slice (some ⟨g1, 0, none⟩) m cap1)) :=
    ((((U1.mono (T := fun q => q = r) (fun _ h => h.elim)).setCell (p := ⟨g1, i, none⟩) (.inr hg1) _).drew).setCell (p := ⟨r, k, none⟩) (.inl rfl) _)
  have U2 : Upto (fun _ => False) w (w1.setCell ⟨g1, i, none⟩ (.int .u8 x)).drew := ((U1.setCell (p := ⟨g1, i, none⟩) (.inr hg1) _).drew)
  have hr2 := U2.owns (hP.owns up) (fun _ _ h => h.elim)
  rw [hv, hn] at hr2
  have hF1 : Frm w1 (.slice (some ⟨g1, 0, none⟩) m cap1) g1 bs := by
    refine ⟨?_, rfl⟩
    simp only [Nat.zero_add, List.nil_append] at hown1
    rw [hm]
    exact hown1
  have hF2 : Frm (w1.setCell ⟨g1, i, none⟩ (.int .u8 x)) (.slice (some ⟨g1, 0, none⟩) m cap1) g1 (bs.set i x) := hF1.set_ i x
  have hF3 : Frm ((w1.setCell ⟨g1, i, none⟩ (.int .u8 x)).drew.setCell ⟨r, k, none⟩ (.slice (some ⟨g1, 0, none⟩) m cap1)) (.slice (some ⟨g1, 0, none⟩) m cap1) g1 (bs.set i x) :=
    hF2.upto (((Upto.refl (fun q => q = r) _).drew).setCell (p := ⟨r, k, none⟩) (.inl rfl) _) (by omega)
  refine hP.update Nought up (v up) ((us up).set k (.slice (some ⟨g1, 0, none⟩) m cap1)) ((gs up).set k g1) ((st up).set k (bs.set i x)) (Ur.mono (fun q hq => .inl (.inr (by rw [hq]; exact hrb)))) ?_ ?_ ?_ ?_ ?_ ?_ ?_ (fun _ h => h.elim)
  · have e : upd v up (v up) = v := by funext b; unfold upd; split <;> simp_all
    rw [e]
    exact Ur.blk (fun e => hgr e.symm) hP.blk
  · have := (hr2.stored k (.slice (some ⟨g1, 0, none⟩) m cap1)).1
    rw [List.length_set, hn, hv]
    exact this
  · refine frms_put hF3 (by simp; omega) (by simp; omega) ((hP.frms up).upto Ur (fun q hq e => ?_)) k
    subst e
    exact hP.frm_ne_row up up hq hrb rfl
  · refine nodup_put k (hP.nodup up) (fun h => ?_)
    obtain ⟨cs, hc⟩ := (hP.frms up).block g1 h
    have := lt_of_block hc
    omega
  · rw [List.length_set]; exact hP.few up
  · exact fun q hq => .inl hq
  · intro q hq
    rcases List.mem_or_eq_of_mem_set hq with h | rfl
    · exact .inl h
    · exact .inr ⟨hg1, by have := U2.size; simp [World.setCell]; omega⟩

set_option maxRecDepth 100000 in
set_option maxHeartbeats 8000000 in
theorem spoil0_true (g : Nat) (st : St) (F : Nat → Prop) (v : Bool → Value) (us : Bool → List Value) (gs : Bool → List Nat) (w : World) (hP : Parts w g st F v us gs) (k : Nat) (hk : k < (st true).length) (j bit : Int) (hj : j = k) (hbit : bit < 0) :
    Calls Try.prog 26 #[.pointer (some ⟨g, 0, none⟩), .int .i64 j, .int .i64 bit] w (Turns (.bool true) w g F (upd st true ((st true).set k (spoilB (st true)[k] bit)))) := by
  have Wh := where_yes_true g st F v us gs w hP k hk j hj
  have hr := hP.owns true
  have hlen := hP.len true
  obtain ⟨r, cu, hv, _, lr⟩ := hr.form (by omega)
  obtain ⟨Ao, co, hvo⟩ := owns_form (hP.owns false)
  have hg := hP.blk
  rw [hv, hvo] at hg
  rw [hv] at hr
  obtain ⟨fv, gb, bs, hu, hgb, hbs, hF, h0, h1⟩ := (hP.frms true).at_ k hk
  obtain ⟨cb, rfl, lgb⟩ := frm_form hF
  obtain ⟨n, hn⟩ : ∃ n, (us true).length = n := ⟨_, rfl⟩
  obtain ⟨no, hno⟩ : ∃ n, (us false).length = n := ⟨_, rfl⟩
  obtain ⟨m, hm⟩ : ∃ m, bs.length = m := ⟨_, rfl⟩
  rw [hn] at hr hg hv hlen
  rw [hno] at hg hvo
  rw [hm] at hu hF h0 h1
  have hkn : k < n := by omega
  have hki : (k : Int) < (n : Int) := by omega
  have hk0 : (0 : Int) ≤ (k : Int) := by omega
  have c0 : w.cell? ⟨g, 0, none⟩ = some (.slice (some ⟨r, 0, none⟩) n cu) := cell_of_row w g 0 _ _ _ hg
  have c2 : w.cell? ⟨r, k, none⟩ = some (.slice (some ⟨gb, 0, none⟩) m cb) := by
    have := hr.cells (g := r) rfl k _ hu
    rw [addr_add, Nat.zero_add] at this
    exact this
  have lg : g < w.heap.size := lt_of_block hg
  have hfr : w.frozen? ⟨r, k, none⟩ = false := by
    obtain ⟨cs, hc⟩ := own_block_type hr rfl
    exact frozen_of_row hc
  have hbs' : (st true)[k] = bs := by rw [List.getElem?_eq_getElem hk] at hbs; exact Option.some.inj hbs
  rw [hbs']
  obtain ⟨i5, hi5, hz5, hs5, hb5⟩ := info_parts info5
  have hnew : (bs.map (Value.int .u8))[0]? = some (.int .u8 (bs.getD 0 0)) := by
    have hlt : 0 < bs.length := by omega
    simp [List.getElem?_eq_getElem hlt, List.getD_eq_getElem?_getD]
  have U0 : ∀ q : Nat, Upto (fun _ => False) w ((w.drewN q).alloc (.cells #[] 5)) := fun q => ((Upto.refl _ w).drewN q).alloc _
  have O0 : ∀ q : Nat, ((w.drewN q).alloc (.cells #[] 5)).ownsRow 0 5 1 (.slice (some ⟨w.heap.size, 0, none⟩) 0 0) 0 [] := fun q => World.ownsRow_made (base := 0) (e := 5) (size := 1) (w.drewN q) #[] 0 (Nat.zero_le _) (Nat.zero_le _) rfl
  have N0 : ∀ (q : Nat) (j : Nat) u, (bs.map (Value.int .u8))[j]? = some u → ((w.drewN q).alloc (.cells #[] 5)).cell? ((⟨gb, 0, none⟩ : Addr).add j) = some u := fun q j u hu => (U0 q).cell (fun h => h.elim) (hF.1.cells (g := gb) rfl j u hu)
  replace U0 := Lib.hid U0
  replace O0 := Lib.hid O0
  replace N0 := Lib.hid N0
  have HP := Lib.hid hP
  have Hm := Lib.hid hm
  have Hn := Lib.hid hn
  have Hv := Lib.hid hv
  have Hr := Lib.hid hr
  have Hnew := Lib.hid hnew
  have Wh' := Lib.hid Wh
  have ne0 : ∀ q : Nat, ((w.drewN q).alloc (.cells #[] 5)).cell? ⟨g, 0, none⟩ = some (.slice (some ⟨r, 0, none⟩) n cu) := fun q => (U0.out q).cell (fun h => h.elim) c0
  have ne2 : ∀ q : Nat, ((w.drewN q).alloc (.cells #[] 5)).cell? ⟨r, k, none⟩ = some (.slice (some ⟨gb, 0, none⟩) m cb) := fun q => (U0.out q).cell (fun h => h.elim) c2
  clear hP hm hn hno hv hvo hg hF hgb hbs hbs' hu hlen hj Wh hr hnew
  go_enter Try.func26, Try.ntmps26
  go_wp2_with (first
    | (go_at_call 30; refine Wh'.out.mono ?_; rintro e w' ⟨rfl, mm, rfl⟩)
    | (at_builtin; refine wpList_append_lies _ rfl (Operand.tmp 35) (Operand.tmp 44) _ rfl 0 5 i5 _ 1 1 Try.underlying30 hi5 hz5 hs5 hb5 rfl (by omega) (.slice (some ⟨w.heap.size, 0, none⟩) 0 0) 0 [] rfl (O0.out mm) ⟨gb, 0, none⟩ m cb (bs.map (Value.int .u8)) rfl (by simp [Hm.out]) (N0.out mm) (ints_oneCell _ _) h0 (by unfold maxLen; omega) (by omega) (Nat.zero_le _) (w.heap.size + 1) (by simp) ?_; intro g1 cap1 w1 hown1 hgrow hat hlt; have U1 : Upto (fun _ => False) w w1 := (U0.out mm).grown hgrow (fun k hk => .inr (by simp [Value.ownBlock] at hk; omega)); have hg1 : w.heap.size ≤ g1 := (by rcases hat with h | h; (simp [Value.ownBlock] at h; omega); omega); have d0 : w1.cell? ⟨g, 0, none⟩ = some (.slice (some ⟨r, 0, none⟩) n cu) := U1.cell (fun h => h.elim) c0; have d2 : w1.cell? ⟨r, k, none⟩ = some (.slice (some ⟨gb, 0, none⟩) m cb) := U1.cell (fun h => h.elim) c2; have d3 : w1.cell? ⟨g1, 0, none⟩ = some (.int .u8 (bs.getD 0 0)) := (by have := hown1.cells (g := g1) rfl 0 _ (by rw [List.nil_append]; exact Hnew.out); rwa [addr_add, Nat.zero_add] at this); have f3 : w1.frozen? ⟨g1, 0, none⟩ = false := (by obtain ⟨cs, hc⟩ := own_block_type hown1 rfl; exact frozen_of_row hc); have hz : ∀ X, (w1.setCell ⟨g1, 0, none⟩ X).cell? ⟨g, 0, none⟩ = some (.slice (some ⟨r, 0, none⟩) n cu) := (fun X => (World.cell?_setCell_other w1 _ _ X (by intro e; injection e with e; omega)).trans d0); have hy : ∀ X, (w1.setCell ⟨g1, 0, none⟩ X).cell? ⟨r, k, none⟩ = some (.slice (some ⟨gb, 0, none⟩) m cb) := (fun X => (World.cell?_setCell_other w1 _ _ X (by intro e; injection e with e; omega)).trans d2); have fr : ∀ X, (w1.setCell ⟨g1, 0, none⟩ X).frozen? ⟨r, k, none⟩ = false := (fun X => (by obtain ⟨cs, hc⟩ := own_block_type (U1.owns Hr.out (fun _ _ h => h.elim)) rfl; rw [World.frozen?_setCell]; exact frozen_of_row hc)); replace hown1 := Lib.hid hown1))
  go_region
  go_wp2
  go_ret
  refine ⟨rfl, ?_⟩
  exact spoil_close HP.out true Hv.out Hn.out U1 hown1.out Hm.out h0 h1 hg1 hlt 0 _ (by exact spoil0B bs bit hbit) _ rfl

set_option maxRecDepth 100000 in
set_option maxHeartbeats 8000000 in
theorem spoil1_true (g : Nat) (st : St) (F : Nat → Prop) (v : Bool → Value) (us : Bool → List Value) (gs : Bool → List Nat) (w : World) (hP : Parts w g st F v us gs) (k : Nat) (hk : k < (st true).length) (j bit : Int) (hj : j = k) (hbit : 0 ≤ bit) :
    Calls Try.prog 26 #[.pointer (some ⟨g, 0, none⟩), .int .i64 j, .int .i64 bit] w (Turns (.bool true) w g F (upd st true ((st true).set k (spoilB (st true)[k] bit)))) := by
  have Wh := where_yes_true g st F v us gs w hP k hk j hj
  have hr := hP.owns true
  have hlen := hP.len true
  obtain ⟨r, cu, hv, _, lr⟩ := hr.form (by omega)
  obtain ⟨Ao, co, hvo⟩ := owns_form (hP.owns false)
  have hg := hP.blk
  rw [hv, hvo] at hg
  rw [hv] at hr
  obtain ⟨fv, gb, bs, hu, hgb, hbs, hF, h0, h1⟩ := (hP.frms true).at_ k hk
  obtain ⟨cb, rfl, lgb⟩ := frm_form hF
  obtain ⟨n, hn⟩ : ∃ n, (us true).length = n := ⟨_, rfl⟩
  obtain ⟨no, hno⟩ : ∃ n, (us false).length = n := ⟨_, rfl⟩
  obtain ⟨m, hm⟩ : ∃ m, bs.length = m := ⟨_, rfl⟩
  rw [hn] at hr hg hv hlen
  rw [hno] at hg hvo
  rw [hm] at hu hF h0 h1
  have hkn : k < n := by omega
  have hki : (k : Int) < (n : Int) := by omega
  have hk0 : (0 : Int) ≤ (k : Int) := by omega
  have c0 : w.cell? ⟨g, 0, none⟩ = some (.slice (some ⟨r, 0, none⟩) n cu) := cell_of_row w g 0 _ _ _ hg
  have c2 : w.cell? ⟨r, k, none⟩ = some (.slice (some ⟨gb, 0, none⟩) m cb) := by
    have := hr.cells (g := r) rfl k _ hu
    rw [addr_add, Nat.zero_add] at this
    exact this
  have lg : g < w.heap.size := lt_of_block hg
  have hfr : w.frozen? ⟨r, k, none⟩ = false := by
    obtain ⟨cs, hc⟩ := own_block_type hr rfl
    exact frozen_of_row hc
  have hbs' : (st true)[k] = bs := by rw [List.getElem?_eq_getElem hk] at hbs; exact Option.some.inj hbs
  rw [hbs']
  obtain ⟨i5, hi5, hz5, hs5, hb5⟩ := info_parts info5
  have q1 : 0 ≤ bit % (8 * (m : Int)) := Int.emod_nonneg _ (by omega)
  have q2 : bit % (8 * (m : Int)) < 8 * (m : Int) := Int.emod_lt_of_pos _ (by omega)
  have q3 : 0 ≤ bit % (8 * (m : Int)) / 8 := by omega
  have q4 : bit % (8 * (m : Int)) / 8 < (m : Int) := by omega
  have hnew : (bs.map (Value.int .u8))[(bit % (8 * (m : Int)) / 8).toNat]? = some (.int .u8 (bs.getD (bit % (8 * (m : Int)) / 8).toNat 0)) := by
    have hlt : (bit % (8 * (m : Int)) / 8).toNat < bs.length := by omega
    simp [List.getElem?_eq_getElem hlt, List.getD_eq_getElem?_getD]
  have U0 : ∀ q : Nat, Upto (fun _ => False) w ((w.drewN q).alloc (.cells #[] 5)) := fun q => ((Upto.refl _ w).drewN q).alloc _
  have O0 : ∀ q : Nat, ((w.drewN q).alloc (.cells #[] 5)).ownsRow 0 5 1 (.slice (some ⟨w.heap.size, 0, none⟩) 0 0) 0 [] := fun q => World.ownsRow_made (base := 0) (e := 5) (size := 1) (w.drewN q) #[] 0 (Nat.zero_le _) (Nat.zero_le _) rfl
  have N0 : ∀ (q : Nat) (j : Nat) u, (bs.map (Value.int .u8))[j]? = some u → ((w.drewN q).alloc (.cells #[] 5)).cell? ((⟨gb, 0, none⟩ : Addr).add j) = some u := fun q j u hu => (U0 q).cell (fun h => h.elim) (hF.1.cells (g := gb) rfl j u hu)
  replace U0 := Lib.hid U0
  replace O0 := Lib.hid O0
  replace N0 := Lib.hid N0
  have HP := Lib.hid hP
  have Hm := Lib.hid hm
  have Hn := Lib.hid hn
  have Hv := Lib.hid hv
  have Hr := Lib.hid hr
  have Hnew := Lib.hid hnew
  have Wh' := Lib.hid Wh
  have ne0 : ∀ q : Nat, ((w.drewN q).alloc (.cells #[] 5)).cell? ⟨g, 0, none⟩ = some (.slice (some ⟨r, 0, none⟩) n cu) := fun q => (U0.out q).cell (fun h => h.elim) c0
  have ne2 : ∀ q : Nat, ((w.drewN q).alloc (.cells #[] 5)).cell? ⟨r, k, none⟩ = some (.slice (some ⟨gb, 0, none⟩) m cb) := fun q => (U0.out q).cell (fun h => h.elim) c2
  clear hP hm hn hno hv hvo hg hF hgb hbs hbs' hu hlen hj Wh hr hnew
  go_enter Try.func26, Try.ntmps26
  go_wp2_with (first
    | (go_at_call 30; refine Wh'.out.mono ?_; rintro e w' ⟨rfl, mm, rfl⟩)
    | (at_builtin; refine wpList_append_lies _ rfl (Operand.tmp 35) (Operand.tmp 44) _ rfl 0 5 i5 _ 1 1 Try.underlying30 hi5 hz5 hs5 hb5 rfl (by omega) (.slice (some ⟨w.heap.size, 0, none⟩) 0 0) 0 [] rfl (O0.out mm) ⟨gb, 0, none⟩ m cb (bs.map (Value.int .u8)) rfl (by simp [Hm.out]) (N0.out mm) (ints_oneCell _ _) h0 (by unfold maxLen; omega) (by omega) (Nat.zero_le _) (w.heap.size + 1) (by simp) ?_; intro g1 cap1 w1 hown1 hgrow hat hlt; have U1 : Upto (fun _ => False) w w1 := (U0.out mm).grown hgrow (fun k hk => .inr (by simp [Value.ownBlock] at hk; omega)); have hg1 : w.heap.size ≤ g1 := (by rcases hat with h | h; (simp [Value.ownBlock] at h; omega); omega); have d0 : w1.cell? ⟨g, 0, none⟩ = some (.slice (some ⟨r, 0, none⟩) n cu) := U1.cell (fun h => h.elim) c0; have d2 : w1.cell? ⟨r, k, none⟩ = some (.slice (some ⟨gb, 0, none⟩) m cb) := U1.cell (fun h => h.elim) c2; have d3 : w1.cell? ⟨g1, (bit % (8 * (m : Int)) / 8).toNat, none⟩ = some (.int .u8 (bs.getD (bit % (8 * (m : Int)) / 8).toNat 0)) := (by have := hown1.cells (g := g1) rfl (bit % (8 * (m : Int)) / 8).toNat _ (by rw [List.nil_append]; exact Hnew.out); rwa [addr_add, Nat.zero_add] at this); have f3 : w1.frozen? ⟨g1, (bit % (8 * (m : Int)) / 8).toNat, none⟩ = false := (by obtain ⟨cs, hc⟩ := own_block_type hown1 rfl; exact frozen_of_row hc); have hz : ∀ X, (w1.setCell ⟨g1, (bit % (8 * (m : Int)) / 8).toNat, none⟩ X).cell? ⟨g, 0, none⟩ = some (.slice (some ⟨r, 0, none⟩) n cu) := (fun X => (World.cell?_setCell_other w1 _ _ X (by intro e; injection e with e; omega)).trans d0); have hy : ∀ X, (w1.setCell ⟨g1, (bit % (8 * (m : Int)) / 8).toNat, none⟩ X).cell? ⟨r, k, none⟩ = some (.slice (some ⟨gb, 0, none⟩) m cb) := (fun X => (World.cell?_setCell_other w1 _ _ X (by intro e; injection e with e; omega)).trans d2); have fr : ∀ X, (w1.setCell ⟨g1, (bit % (8 * (m : Int)) / 8).toNat, none⟩ X).frozen? ⟨r, k, none⟩ = false := (fun X => (by obtain ⟨cs, hc⟩ := own_block_type (U1.owns Hr.out (fun _ _ h => h.elim)) rfl; rw [World.frozen?_setCell]; exact frozen_of_row hc)); replace hown1 := Lib.hid hown1))
  go_region
  go_wp2
  go_ret
  refine ⟨rfl, ?_⟩
  exact spoil_close HP.out true Hv.out Hn.out U1 hown1.out Hm.out h0 h1 hg1 hlt (bit % (8 * (m : Int)) / 8).toNat _ (by rw [spoil1B bs bit hbit, Hm.out]) _ rfl

set_option maxRecDepth 100000 in
set_option maxHeartbeats 8000000 in
theorem spoil0_false (g : Nat) (st : St) (F : Nat → Prop) (v : Bool → Value) (us : Bool → List Value) (gs : Bool → List Nat) (w : World) (hP : Parts w g st F v us gs) (k : Nat) (hk : k < (st false).length) (j bit : Int) (hj : j = (st true).length + k) (hbit : bit < 0) :
    Calls Try.prog 26 #[.pointer (some ⟨g, 0, none⟩), .int .i64 j, .int .i64 bit] w (Turns (.bool true) w g F (upd st false ((st false).set k (spoilB (st false)[k] bit)))) := by
  have Wh := where_yes_false g st F v us gs w hP k hk j hj
  have hr := hP.owns false
  have hlen := hP.len false
  obtain ⟨r, cu, hv, _, lr⟩ := hr.form (by omega)
  obtain ⟨Ao, co, hvo⟩ := owns_form (hP.owns true)
  have hg := hP.blk
  rw [hv, hvo] at hg
  rw [hv] at hr
  obtain ⟨fv, gb, bs, hu, hgb, hbs, hF, h0, h1⟩ := (hP.frms false).at_ k hk
  obtain ⟨cb, rfl, lgb⟩ := frm_form hF
  obtain ⟨n, hn⟩ : ∃ n, (us false).length = n := ⟨_, rfl⟩
  obtain ⟨no, hno⟩ : ∃ n, (us true).length = n := ⟨_, rfl⟩
  obtain ⟨m, hm⟩ : ∃ m, bs.length = m := ⟨_, rfl⟩
  rw [hn] at hr hg hv hlen
  rw [hno] at hg hvo
  rw [hm] at hu hF h0 h1
  have hkn : k < n := by omega
  have hki : (k : Int) < (n : Int) := by omega
  have hk0 : (0 : Int) ≤ (k : Int) := by omega
  have c0 : w.cell? ⟨g, 1, none⟩ = some (.slice (some ⟨r, 0, none⟩) n cu) := cell_of_row w g 1 _ _ _ hg
  have c2 : w.cell? ⟨r, k, none⟩ = some (.slice (some ⟨gb, 0, none⟩) m cb) := by
    have := hr.cells (g := r) rfl k _ hu
    rw [addr_add, Nat.zero_add] at this
    exact this
  have lg : g < w.heap.size := lt_of_block hg
  have hfr : w.frozen? ⟨r, k, none⟩ = false := by
    obtain ⟨cs, hc⟩ := own_block_type hr rfl
    exact frozen_of_row hc
  have hbs' : (st false)[k] = bs := by rw [List.getElem?_eq_getElem hk] at hbs; exact Option.some.inj hbs
  rw [hbs']
  obtain ⟨i5, hi5, hz5, hs5, hb5⟩ := info_parts info5
  have hnew : (bs.map (Value.int .u8))[0]? = some (.int .u8 (bs.getD 0 0)) := by
    have hlt : 0 < bs.length := by omega
    simp [List.getElem?_eq_getElem hlt, List.getD_eq_getElem?_getD]
  have U0 : ∀ q : Nat, Upto (fun _ => False) w ((w.drewN q).alloc (.cells #[] 5)) := fun q => ((Upto.refl _ w).drewN q).alloc _
  have O0 : ∀ q : Nat, ((w.drewN q).alloc (.cells #[] 5)).ownsRow 0 5 1 (.slice (some ⟨w.heap.size, 0, none⟩) 0 0) 0 [] := fun q => World.ownsRow_made (base := 0) (e := 5) (size := 1) (w.drewN q) #[] 0 (Nat.zero_le _) (Nat.zero_le _) rfl
  have N0 : ∀ (q : Nat) (j : Nat) u, (bs.map (Value.int .u8))[j]? = some u → ((w.drewN q).alloc (.cells #[] 5)).cell? ((⟨gb, 0, none⟩ : Addr).add j) = some u := fun q j u hu => (U0 q).cell (fun h => h.elim) (hF.1.cells (g := gb) rfl j u hu)
  replace U0 := Lib.hid U0
  replace O0 := Lib.hid O0
  replace N0 := Lib.hid N0
  have HP := Lib.hid hP
  have Hm := Lib.hid hm
  have Hn := Lib.hid hn
  have Hv := Lib.hid hv
  have Hr := Lib.hid hr
  have Hnew := Lib.hid hnew
  have Wh' := Lib.hid Wh
  have ne0 : ∀ q : Nat, ((w.drewN q).alloc (.cells #[] 5)).cell? ⟨g, 1, none⟩ = some (.slice (some ⟨r, 0, none⟩) n cu) := fun q => (U0.out q).cell (fun h => h.elim) c0
  have ne2 : ∀ q : Nat, ((w.drewN q).alloc (.cells #[] 5)).cell? ⟨r, k, none⟩ = some (.slice (some ⟨gb, 0, none⟩) m cb) := fun q => (U0.out q).cell (fun h => h.elim) c2
  clear hP hm hn hno hv hvo hg hF hgb hbs hbs' hu hlen hj Wh hr hnew
  go_enter Try.func26, Try.ntmps26
  go_wp2_with (first
    | (go_at_call 30; refine Wh'.out.mono ?_; rintro e w' ⟨rfl, mm, rfl⟩)
    | (at_builtin; refine wpList_append_lies _ rfl (Operand.tmp 35) (Operand.tmp 44) _ rfl 0 5 i5 _ 1 1 Try.underlying30 hi5 hz5 hs5 hb5 rfl (by omega) (.slice (some ⟨w.heap.size, 0, none⟩) 0 0) 0 [] rfl (O0.out mm) ⟨gb, 0, none⟩ m cb (bs.map (Value.int .u8)) rfl (by simp [Hm.out]) (N0.out mm) (ints_oneCell _ _) h0 (by unfold maxLen; omega) (by omega) (Nat.zero_le _) (w.heap.size + 1) (by simp) ?_; intro g1 cap1 w1 hown1 hgrow hat hlt; have U1 : Upto (fun _ => False) w w1 := (U0.out mm).grown hgrow (fun k hk => .inr (by simp [Value.ownBlock] at hk; omega)); have hg1 : w.heap.size ≤ g1 := (by rcases hat with h | h; (simp [Value.ownBlock] at h; omega); omega); have d0 : w1.cell? ⟨g, 1, none⟩ = some (.slice (some ⟨r, 0, none⟩) n cu) := U1.cell (fun h => h.elim) c0; have d2 : w1.cell? ⟨r, k, none⟩ = some (.slice (some ⟨gb, 0, none⟩) m cb) := U1.cell (fun h => h.elim) c2; have d3 : w1.cell? ⟨g1, 0, none⟩ = some (.int .u8 (bs.getD 0 0)) := (by have := hown1.cells (g := g1) rfl 0 _ (by rw [List.nil_append]; exact Hnew.out); rwa [addr_add, Nat.zero_add] at this); have f3 : w1.frozen? ⟨g1, 0, none⟩ = false := (by obtain ⟨cs, hc⟩ := own_block_type hown1 rfl; exact frozen_of_row hc); have hz : ∀ X, (w1.setCell ⟨g1, 0, none⟩ X).cell? ⟨g, 1, none⟩ = some (.slice (some ⟨r, 0, none⟩) n cu) := (fun X => (World.cell?_setCell_other w1 _ _ X (by intro e; injection e with e; omega)).trans d0); have hy : ∀ X, (w1.setCell ⟨g1, 0, none⟩ X).cell? ⟨r, k, none⟩ = some (.slice (some ⟨gb, 0, none⟩) m cb) := (fun X => (World.cell?_setCell_other w1 _ _ X (by intro e; injection e with e; omega)).trans d2); have fr : ∀ X, (w1.setCell ⟨g1, 0, none⟩ X).frozen? ⟨r, k, none⟩ = false := (fun X => (by obtain ⟨cs, hc⟩ := own_block_type (U1.owns Hr.out (fun _ _ h => h.elim)) rfl; rw [World.frozen?_setCell]; exact frozen_of_row hc)); replace hown1 := Lib.hid hown1))
  go_region
  go_wp2
  go_ret
  refine ⟨rfl, ?_⟩
  exact spoil_close HP.out false Hv.out Hn.out U1 hown1.out Hm.out h0 h1 hg1 hlt 0 _ (by exact spoil0B bs bit hbit) _ rfl

set_option maxRecDepth 100000 in
set_option maxHeartbeats 8000000 in
theorem spoil1_false (g : Nat) (st : St) (F : Nat → Prop) (v : Bool → Value) (us : Bool → List Value) (gs : Bool → List Nat) (w : World) (hP : Parts w g st F v us gs) (k : Nat) (hk : k < (st false).length) (j bit : Int) (hj : j = (st true).length + k) (hbit : 0 ≤ bit) :
    Calls Try.prog 26 #[.pointer (some ⟨g, 0, none⟩), .int .i64 j, .int .i64 bit] w (Turns (.bool true) w g F (upd st false ((st false).set k (spoilB (st false)[k] bit)))) := by
  have Wh := where_yes_false g st F v us gs w hP k hk j hj
  have hr := hP.owns false
  have hlen := hP.len false
  obtain ⟨r, cu, hv, _, lr⟩ := hr.form (by omega)
  obtain ⟨Ao, co, hvo⟩ := owns_form (hP.owns true)
  have hg := hP.blk
  rw [hv, hvo] at hg
  rw [hv] at hr
  obtain ⟨fv, gb, bs, hu, hgb, hbs, hF, h0, h1⟩ := (hP.frms false).at_ k hk
  obtain ⟨cb, rfl, lgb⟩ := frm_form hF
  obtain ⟨n, hn⟩ : ∃ n, (us false).length = n := ⟨_, rfl⟩
  obtain ⟨no, hno⟩ : ∃ n, (us true).length = n := ⟨_, rfl⟩
  obtain ⟨m, hm⟩ : ∃ m, bs.length = m := ⟨_, rfl⟩
  rw [hn] at hr hg hv hlen
  rw [hno] at hg hvo
  rw [hm] at hu hF h0 h1
  have hkn : k < n := by omega
  have hki : (k : Int) < (n : Int) := by omega
  have hk0 : (0 : Int) ≤ (k : Int) := by omega
  have c0 : w.cell? ⟨g, 1, none⟩ = some (.slice (some ⟨r, 0, none⟩) n cu) := cell_of_row w g 1 _ _ _ hg
  have c2 : w.cell? ⟨r, k, none⟩ = some (.slice (some ⟨gb, 0, none⟩) m cb) := by
    have := hr.cells (g := r) rfl k _ hu
    rw [addr_add, Nat.zero_add] at this
    exact this
  have lg : g < w.heap.size := lt_of_block hg
  have hfr : w.frozen? ⟨r, k, none⟩ = false := by
    obtain ⟨cs, hc⟩ := own_block_type hr rfl
    exact frozen_of_row hc
  have hbs' : (st false)[k] = bs := by rw [List.getElem?_eq_getElem hk] at hbs; exact Option.some.inj hbs
  rw [hbs']
  obtain ⟨i5, hi5, hz5, hs5, hb5⟩ := info_parts info5
  have q1 : 0 ≤ bit % (8 * (m : Int)) := Int.emod_nonneg _ (by omega)
  have q2 : bit % (8 * (m : Int)) < 8 * (m : Int) := Int.emod_lt_of_pos _ (by omega)
  have q3 : 0 ≤ bit % (8 * (m : Int)) / 8 := by omega
  have q4 : bit % (8 * (m : Int)) / 8 < (m : Int) := by omega
  have hnew : (bs.map (Value.int .u8))[(bit % (8 * (m : Int)) / 8).toNat]? = some (.int .u8 (bs.getD (bit % (8 * (m : Int)) / 8).toNat 0)) := by
    have hlt : (bit % (8 * (m : Int)) / 8).toNat < bs.length := by omega
    simp [List.getElem?_eq_getElem hlt, List.getD_eq_getElem?_getD]
  have U0 : ∀ q : Nat, Upto (fun _ => False) w ((w.drewN q).alloc (.cells #[] 5)) := fun q => ((Upto.refl _ w).drewN q).alloc _
  have O0 : ∀ q : Nat, ((w.drewN q).alloc (.cells #[] 5)).ownsRow 0 5 1 (.slice (some ⟨w.heap.size, 0, none⟩) 0 0) 0 [] := fun q => World.ownsRow_made (base := 0) (e := 5) (size := 1) (w.drewN q) #[] 0 (Nat.zero_le _) (Nat.zero_le _) rfl
  have N0 : ∀ (q : Nat) (j : Nat) u, (bs.map (Value.int .u8))[j]? = some u → ((w.drewN q).alloc (.cells #[] 5)).cell? ((⟨gb, 0, none⟩ : Addr).add j) = some u := fun q j u hu => (U0 q).cell (fun h => h.elim) (hF.1.cells (g := gb) rfl j u hu)
  replace U0 := Lib.hid U0
  replace O0 := Lib.hid O0
  replace N0 := Lib.hid N0
  have HP := Lib.hid hP
  have Hm := Lib.hid hm
  have Hn := Lib.hid hn
  have Hv := Lib.hid hv
  have Hr := Lib.hid hr
  have Hnew := Lib.hid hnew
  have Wh' := Lib.hid Wh
  have ne0 : ∀ q : Nat, ((w.drewN q).alloc (.cells #[] 5)).cell? ⟨g, 1, none⟩ = some (.slice (some ⟨r, 0, none⟩) n cu) := fun q => (U0.out q).cell (fun h => h.elim) c0
  have ne2 : ∀ q : Nat, ((w.drewN q).alloc (.cells #[] 5)).cell? ⟨r, k, none⟩ = some (.slice (some ⟨gb, 0, none⟩) m cb) := fun q => (U0.out q).cell (fun h => h.elim) c2
  clear hP hm hn hno hv hvo hg hF hgb hbs hbs' hu hlen hj Wh hr hnew
  go_enter Try.func26, Try.ntmps26
  go_wp2_with (first
    | (go_at_call 30; refine Wh'.out.mono ?_; rintro e w' ⟨rfl, mm, rfl⟩)
    | (at_builtin; refine wpList_append_lies _ rfl (Operand.tmp 35) (Operand.tmp 44) _ rfl 0 5 i5 _ 1 1 Try.underlying30 hi5 hz5 hs5 hb5 rfl (by omega) (.slice (some ⟨w.heap.size, 0, none⟩) 0 0) 0 [] rfl (O0.out mm) ⟨gb, 0, none⟩ m cb (bs.map (Value.int .u8)) rfl (by simp [Hm.out]) (N0.out mm) (ints_oneCell _ _) h0 (by unfold maxLen; omega) (by omega) (Nat.zero_le _) (w.heap.size + 1) (by simp) ?_; intro g1 cap1 w1 hown1 hgrow hat hlt; have U1 : Upto (fun _ => False) w w1 := (U0.out mm).grown hgrow (fun k hk => .inr (by simp [Value.ownBlock] at hk; omega)); have hg1 : w.heap.size ≤ g1 := (by rcases hat with h | h; (simp [Value.ownBlock] at h; omega); omega); have d0 : w1.cell? ⟨g, 1, none⟩ = some (.slice (some ⟨r, 0, none⟩) n cu) := U1.cell (fun h => h.elim) c0; have d2 : w1.cell? ⟨r, k, none⟩ = some (.slice (some ⟨gb, 0, none⟩) m cb) := U1.cell (fun h => h.elim) c2; have d3 : w1.cell? ⟨g1, (bit % (8 * (m : Int)) / 8).toNat, none⟩ = some (.int .u8 (bs.getD (bit % (8 * (m : Int)) / 8).toNat 0)) := (by have := hown1.cells (g := g1) rfl (bit % (8 * (m : Int)) / 8).toNat _ (by rw [List.nil_append]; exact Hnew.out); rwa [addr_add, Nat.zero_add] at this); have f3 : w1.frozen? ⟨g1, (bit % (8 * (m : Int)) / 8).toNat, none⟩ = false := (by obtain ⟨cs, hc⟩ := own_block_type hown1 rfl; exact frozen_of_row hc); have hz : ∀ X, (w1.setCell ⟨g1, (bit % (8 * (m : Int)) / 8).toNat, none⟩ X).cell? ⟨g, 1, none⟩ = some (.slice (some ⟨r, 0, none⟩) n cu) := (fun X => (World.cell?_setCell_other w1 _ _ X (by intro e; injection e with e; omega)).trans d0); have hy : ∀ X, (w1.setCell ⟨g1, (bit % (8 * (m : Int)) / 8).toNat, none⟩ X).cell? ⟨r, k, none⟩ = some (.slice (some ⟨gb, 0, none⟩) m cb) := (fun X => (World.cell?_setCell_other w1 _ _ X (by intro e; injection e with e; omega)).trans d2); have fr : ∀ X, (w1.setCell ⟨g1, (bit % (8 * (m : Int)) / 8).toNat, none⟩ X).frozen? ⟨r, k, none⟩ = false := (fun X => (by obtain ⟨cs, hc⟩ := own_block_type (U1.owns Hr.out (fun _ _ h => h.elim)) rfl; rw [World.frozen?_setCell]; exact frozen_of_row hc)); replace hown1 := Lib.hid hown1))
  go_region
  go_wp2
  go_ret
  refine ⟨rfl, ?_⟩
  exact spoil_close HP.out false Hv.out Hn.out U1 hown1.out Hm.out h0 h1 hg1 hlt (bit % (8 * (m : Int)) / 8).toNat _ (by rw [spoil1B bs bit hbit, Hm.out]) _ rfl

set_option maxRecDepth 100000 in
theorem spoil_no (g : Nat) (st : St) (F : Nat → Prop) (w : World) (hL : LinkAt w g st F) (j bit : Int) (jr : j < 9223372036854775808) (hj : j < 0 ∨ ((st true).length : Int) + (st false).length ≤ j) :
    Calls Try.prog 26 #[.pointer (some ⟨g, 0, none⟩), .int .i64 j, .int .i64 bit] w (Turns (.bool false) w g F st) := by
  obtain ⟨v, us, gs, hP⟩ := id hL
  have Wh := where_no g st F v us gs w hP j jr hj
  have Wh' := Lib.hid Wh
  clear hP Wh hj
  go_enter Try.func26, Try.ntmps26
  go_wp2_with (go_at_call 30; refine Wh'.out.mono ?_; rintro e w' ⟨rfl, mm, rfl⟩)
  go_ret
  exact ⟨rfl, hL.goes ((Upto.refl _ w).drewN mm)⟩
theorem spoil_any (g : Nat) (st : St) (F : Nat → Prop) (w : World) (hL : LinkAt w g st F) (j bit : Int) (jr : j < 9223372036854775808) :
    Calls Try.prog 26 #[.pointer (some ⟨g, 0, none⟩), .int .i64 j, .int .i64 bit] w (Turns (.bool (dropB st j)) w g F (spoilP st j bit)) := by
  unfold dropB spoilP
  rcases at_cases st j with ⟨h, hj⟩ | ⟨k, h, hj, hk⟩ | ⟨k, h, hj, hk⟩
  · rw [h]; exact spoil_no g st F w hL j bit jr hj
  · rw [h]; obtain ⟨v, us, gs, hP⟩ := hL
    show Calls _ _ _ _ (Turns (.bool true) w g F (upd st true ((st true).set k (spoilB (((st true)[k]?).getD []) bit))))
    rw [List.getElem?_eq_getElem hk]
    by_cases hb : bit < 0
    · exact spoil0_true g st F v us gs w hP k hk j bit hj hb
    · exact spoil1_true g st F v us gs w hP k hk j bit hj (by omega)
  · rw [h]; obtain ⟨v, us, gs, hP⟩ := hL
    show Calls _ _ _ _ (Turns (.bool true) w g F (upd st false ((st false).set k (spoilB (((st false)[k]?).getD []) bit))))
    rw [List.getElem?_eq_getElem hk]
    by_cases hb : bit < 0
    · exact spoil0_false g st F v us gs w hP k hk j bit hj hb
    · exact spoil1_false g st F v us gs w hP k hk j bit hj (by omega)

set_option maxRecDepth 100000 in
theorem clear_any (g : Nat) (st : St) (F : Nat → Prop) (w : World) (hL : LinkAt w g st F) :
    Calls Try.prog 27 #[.pointer (some ⟨g, 0, none⟩)] w (Turns (.tuple #[]) w g F (fun _ => [])) := by
  obtain ⟨v, us, gs, hP⟩ := hL
  have hg := hP.blk
  have hb : ((w.setCell ⟨g, 0, none⟩ (.slice none 0 0)).setCell ⟨g, 1, none⟩ (.slice none 0 0)).heap[g]? = some (.cells #[.slice none 0 0, .slice none 0 0] 46 (0, 0)) := by
    rw [cells_set (cells_set hg _)]
    rfl
  have c0 : w.cell? ⟨g, 0, none⟩ = some (v true) := cell_of_row w g 0 _ _ _ hg
  have c1 : w.cell? ⟨g, 1, none⟩ = some (v false) := cell_of_row w g 1 _ _ _ hg
  have f0 : w.frozen? ⟨g, 0, none⟩ = false := frozen_of_row hg
  have f1 : w.frozen? ⟨g, 1, none⟩ = false := frozen_of_row hg
  have HP := Lib.hid hP
  have Hb := Lib.hid hb
  clear hP hg hb
  go_enter Try.func27, Try.ntmps27
  go_wp2
  go_end0
  refine ⟨rfl, F, ⟨fun _ => .slice none 0 0, fun _ => [], fun _ => [], ⟨Hb.out, fun _ => ⟨by simp, .inl ⟨rfl, rfl⟩⟩, fun _ => trivial, fun _ => by simp, fun _ => by simp, fun b k hk => by simp [Value.ownBlock] at hk, fun b k hk => by simp at hk, fun b k hk => by simp [Value.ownBlock] at hk, fun b k hk => by simp at hk, HP.out.self⟩⟩, ?_, fun k hk => .inl ⟨hk, fun h => h⟩⟩
  exact ((Upto.refl F w).setCell (p := ⟨g, 0, none⟩) (.inl HP.out.self) _).setCell (p := ⟨g, 1, none⟩) (.inl HP.out.self) _

/-- What the reference's Take tells: a frame, or none. -/
def TakesAny (w : World) (g : Nat) (F : Nat → Prop) (st : St) (up : Bool) (k : Int) (e : Ending) (w' : World) : Prop :=
  (∃ n : Nat, k = n ∧ n < (st up).length ∧ Takes w g F st up n e w') ∨ ((k < 0 ∨ (st up).length ≤ k) ∧ Same (.tuple #[.slice none 0 0, .bool false]) w e w')
theorem take_any (g : Nat) (st : St) (F : Nat → Prop) (w : World) (hL : LinkAt w g st F) (up : Bool) (k : Int) :
    Calls Try.prog 23 #[.pointer (some ⟨g, 0, none⟩), .bool up, .int .i64 k] w (TakesAny w g F st up k) := by
  obtain ⟨v, us, gs, hP⟩ := hL
  by_cases h : 0 ≤ k ∧ k < (st up).length
  · obtain ⟨n, rfl⟩ := Int.eq_ofNat_of_zero_le h.1
    have hn : n < (st up).length := by omega
    cases up with
    | true => exact (take_true g st F v us gs w hP n hn).mono fun e w' h' => .inl ⟨n, rfl, hn, h'⟩
    | false => exact (take_false g st F v us gs w hP n hn).mono fun e w' h' => .inl ⟨n, rfl, hn, h'⟩
  · have h' : k < 0 ∨ (st up).length ≤ k := by omega
    cases up with
    | true => exact (take_no_true g st F v us gs w hP k h').mono fun e w' q => .inr ⟨h', q⟩
    | false => exact (take_no_false g st F v us gs w hP k h').mono fun e w' q => .inr ⟨h', q⟩
theorem link_made (w : World) : LinkAt (w.alloc (.cells #[.slice none 0 0, .slice none 0 0] 46)) w.heap.size (fun _ => []) (fun k => k = w.heap.size) :=
  ⟨fun _ => .slice none 0 0, fun _ => [], fun _ => [], ⟨heap_alloc_new w _, fun _ => ⟨by simp, .inl ⟨rfl, rfl⟩⟩, fun _ => trivial, fun _ => by simp, fun _ => by simp, fun b k hk => by simp [Value.ownBlock] at hk, fun b k hk => by simp at hk, fun b k hk => by simp [Value.ownBlock] at hk, fun b k hk => by simp at hk, rfl⟩⟩
end R
end Go.Proofs.Ytomhnabgdbpoiaa
