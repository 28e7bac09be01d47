/- Spoil: what it does to the rows. Conditions: the link lies at its block. -/
import Derived.Test.YtomhnabgdbpoiaaChecked
import Derived.Test.YtomhnabgdbpoiaaFall
import Derived.WalkLawsBesides
import Derived.WalkSmall
import Derived.Deep.RegionHeld3
import Derived.Deep.RegionLaw
import Derived.Deep.DrawnRows
import Derived.Deep.QuietTactic
import Derived.BigQuiet
import Derived.Lib.Hide
namespace Go.Proofs.Ytomhnabgdbpoiaa
open Go.RowKit
attribute [local go_sem ↓] Go.wp_at_zero Go.wp_at_succ
set_option linter.unusedVariables false
set_option linter.unusedSimpArgs false

theorem Frm.set_ {w : World} {v : Value} {gb : Nat} {bs : List Int} (h : Frm w v gb bs) (i : Nat) (x : Int) : Frm (w.setCell ⟨gb, i, none⟩ (.int .u8 x)) v gb (bs.set i x) := by
  obtain ⟨c, rfl, _⟩ := frm_form h
  refine ⟨?_, rfl⟩
  have := (h.1.stored i (.int .u8 x)).1
  rw [List.length_set, List.map_set]
  exact this
theorem Frms.set_ {w : World} : ∀ {vs : List Value} {gs : List Nat} {fs : List (List Int)}, Frms w vs gs fs → gs.Nodup → ∀ {k gb : Nat} {bs : List Int}, gs[k]? = some gb → fs[k]? = some bs → ∀ (i : Nat) (x : Int), Frms (w.setCell ⟨gb, i, none⟩ (.int .u8 x)) vs gs (fs.set k (bs.set i x))
  | [], [], [], _, _, _, _, _, hk, _, _, _ => by simp at hk
  | v :: vs, g :: gs, b :: fs, ⟨⟨h1, h2, h2'⟩, h3⟩, hn, 0, gb, bs, hk, hb, i, x => by
    obtain rfl : g = gb := by simpa using hk
    obtain rfl : b = bs := by simpa using hb
    refine ⟨⟨h1.set_ i x, by simpa using h2, by simpa using h2'⟩, ?_⟩
    refine h3.upto ((Upto.refl (fun k => k = g) w).setCell (p := ⟨g, i, none⟩) (.inl rfl) _) (fun j hj he => ?_)
    subst he
    exact (List.nodup_cons.1 hn).1 hj
  | v :: vs, g :: gs, b :: fs, ⟨⟨h1, h2⟩, h3⟩, hn, k + 1, gb, bs, hk, hb, i, x => by
    have hk' : gs[k]? = some gb := by simpa using hk
    have hb' : fs[k]? = some bs := by simpa using hb
    have hne : g ≠ gb := fun e => (List.nodup_cons.1 hn).1 (e ▸ List.mem_of_getElem? hk')
    exact ⟨⟨h1.upto ((Upto.refl (fun k => k = gb) w).setCell (p := ⟨gb, i, none⟩) (.inl rfl) _) hne, h2⟩, Frms.set_ h3 (List.nodup_cons.1 hn).2 hk' hb' i x⟩
  | [], [], _ :: _, h, _, _, _, _, _, _, _, _ => h.elim
  | [], _ :: _, _, h, _, _, _, _, _, _, _, _ => h.elim
  | _ :: _, [], _, h, _, _, _, _, _, _, _, _ => h.elim
  | _ :: _, _ :: _, [], h, _, _, _, _, _, _, _, _ => h.elim

/-- The bit that is turned. -/
def spoilAt (bs : List Int) (bit : Int) : Int := max bit 0 % (8 * (bs.length : Int))
def spoilB (bs : List Int) (bit : Int) : List Int :=
  bs.set (spoilAt bs bit / 8).toNat (bits .xor .u8 (bs[(spoilAt bs bit / 8).toNat]?.getD 0) (2 ^ (spoilAt bs bit % 8).toNat % 256))
theorem spoil0B (bs : List Int) (bit : Int) (h : bit < 0) : spoilB bs bit = bs.set 0 (bits .xor .u8 (bs[0]?.getD 0) 1) := by
  have e : spoilAt bs bit = 0 := by unfold spoilAt; rw [Int.max_eq_right (by omega)]; simp
  simp [spoilB, e]
theorem spoil1B (bs : List Int) (bit : Int) (h : 0 ≤ bit) : spoilB bs bit = bs.set (bit % (8 * (bs.length : Int)) / 8).toNat (bits .xor .u8 (bs[(bit % (8 * (bs.length : Int)) / 8).toNat]?.getD 0) (2 ^ (bit % 8).toNat % 256)) := by
  have e : spoilAt bs bit = bit % (8 * (bs.length : Int)) := by unfold spoilAt; rw [Int.max_eq_left (by omega)]
  have e2 : bit % (8 * (bs.length : Int)) % 8 = bit % 8 := Int.emod_emod_of_dvd _ ⟨_, rfl⟩
  simp [spoilB, e, e2]

theorem spoil_close {w : World} {g : Nat} {st : St} {F : Nat → Prop} {v : Bool → Value} {us : Bool → List Value} {gs : Bool → List Nat} (hP : Parts w g st F v us gs) (up : Bool) {k gb : Nat} {bs bs' : List Int}
    (hgb : (gs up)[k]? = some gb) (hbs : (st up)[k]? = some bs) (i : Nat) (x : Int) (hi : i < bs.length) (hx : bs' = bs.set i x) (o : Obj) (w' : World) (hw : w' = ((w.setCell ⟨gb, i, none⟩ (.int .u8 x)).alloc o).drew) :
    LinkPost w g F Nought (upd st up ((st up).set k bs')) w' := by
  subst hw hx
  have hmem := List.mem_of_getElem? hgb
  have hU : Upto (fun k => k = gb) w (w.setCell ⟨gb, i, none⟩ (.int .u8 x)) := (Upto.refl (fun k => k = gb) w).setCell (p := ⟨gb, i, none⟩) (.inl rfl) _
  have hP2 : Parts (w.setCell ⟨gb, i, none⟩ (.int .u8 x)) g (upd st up ((st up).set k (bs.set i x))) F v us gs := by
    refine ⟨hU.blk (fun e => hP.frm_ne_g up hmem e.symm) hP.blk, fun b => hU.owns (hP.owns b) (fun j hj e => hP.frm_ne_row up b hmem hj e.symm), fun b => ?_, hP.nodup, fun b => ?_, hP.rowF, hP.frmF, hP.rows, hP.apart, hP.self⟩
    · by_cases hb : b = up
      · subst hb
        rw [upd_same]
        exact (hP.frms b).set_ (hP.nodup b) hgb hbs i x
      · rw [upd_other _ _ _ hb]
        have : up = (!b) := by cases b <;> cases up <;> simp_all
        exact (hP.frms b).upto hU (fun j hj e => hP.apart b j hj (by subst e; exact this ▸ hmem))
    · by_cases hb : b = up
      · subst hb; rw [upd_same, List.length_set]; exact hP.few b
      · rw [upd_other _ _ _ hb]; exact hP.few b
  have hU2 : Upto (fun _ => False) (w.setCell ⟨gb, i, none⟩ (.int .u8 x)) ((w.setCell ⟨gb, i, none⟩ (.int .u8 x)).alloc o).drew := ((Upto.refl _ _).alloc o).drew
  refine ⟨F, ⟨v, us, gs, hP2.keep hU2 (fun _ _ h => h)⟩, ?_, fun j hj => .inl ⟨hj, fun h => h⟩⟩
  exact (((hU.mono (T := F) (fun j e => .inl (by subst e; exact hP.frmF up _ hmem))).alloc o).drew)

set_option maxRecDepth 100000 in
theorem spoil0_true (g : Nat) (st : St) (F : Nat → Prop) (v : Bool → Value) (us : Bool → List Value) (gs : Bool → List Nat) (w : World) (hP : Parts w g st F v us gs) (k : Nat) (hk : k < (st true).length) (j bit : Int) (hj : j = k) (hbit : bit < 0) :
    Calls Try.prog 15 #[.pointer (some ⟨g, 0, none⟩), .int .i64 j, .int .i64 bit] w (Turns (.bool true) w g F (upd st true ((st true).set k (spoilB (st true)[k] bit)))) := by
  have hr := hP.owns true
  have hlen := hP.len true
  obtain ⟨r, cu, hv, _, lr⟩ := hr.form (by omega)
  obtain ⟨Ao, co, hvo⟩ := owns_form (hP.owns false)
  have hg := hP.blk
  rw [hv, hvo] at hg
  rw [hv] at hr
  obtain ⟨fv, gb, bs, hu, hgb, hbs, hF, h0, h1⟩ := (hP.frms true).at_ k hk
  obtain ⟨cb, rfl, lgb⟩ := frm_form hF
  obtain ⟨n, hn⟩ : ∃ n, (us true).length = n := ⟨_, rfl⟩
  obtain ⟨no, hno⟩ : ∃ n, (us false).length = n := ⟨_, rfl⟩
  obtain ⟨m, hm⟩ : ∃ m, bs.length = m := ⟨_, rfl⟩
  rw [hn] at hr hg hv hlen
  rw [hno] at hg hvo
  rw [hm] at hu hF h0 h1
  have hfew := hP.few true
  have hfewo := hP.few false
  have hleno := hP.len false
  rw [hno] at hleno
  have hkn : k < n := by omega
  have hn64 : n ≤ 64 := by omega
  have hno64 : no ≤ 64 := by omega
  have hki : (k : Int) < (n : Int) := by omega
  have hk0 : (0 : Int) ≤ (k : Int) := by omega
  have c0 : w.cell? ⟨g, 0, none⟩ = some (.slice (some ⟨r, 0, none⟩) n cu) := cell_of_row w g 0 _ _ _ hg
  have c1 : w.cell? ⟨g, 1, none⟩ = some (.slice Ao no co) := cell_of_row w g 1 _ _ _ hg
  have c2 : w.cell? ⟨r, k, none⟩ = some (.slice (some ⟨gb, 0, none⟩) m cb) := by
    have := hr.cells (g := r) rfl k _ hu
    rw [addr_add, Nat.zero_add] at this
    exact this
  have lg : g < w.heap.size := lt_of_block hg
  have t1 := ta_sd
  have t2 := ta_st
  have t3 := ta_ss
  have hcell : w.cell? ⟨gb, 0, none⟩ = some (.int .u8 (bs.getD 0 0)) := by
    have := hF.1.cells (g := gb) rfl 0 (.int .u8 (bs.getD 0 0)) (by
      have hlt : 0 < bs.length := by omega
      simp [List.getElem?_eq_getElem hlt, List.getD_eq_getElem?_getD])
    rw [addr_add, Nat.zero_add] at this
    exact this
  have hfrz : w.frozen? ⟨gb, 0, none⟩ = false := by
    obtain ⟨cs, hc⟩ := own_block_type hF.1 rfl
    exact frozen_of_row hc
  have hbs' : (st true)[k] = bs := by rw [List.getElem?_eq_getElem hk] at hbs; exact Option.some.inj hbs
  replace HP := Lib.hid hP
  replace Hgb := Lib.hid hgb
  replace Hbs := Lib.hid hbs
  replace hbs' := Lib.hid hbs'
  replace Hlen := Lib.hid hlen
  replace Hm := Lib.hid hm
  replace Hn := Lib.hid hn
  replace Hv := Lib.hid hv
  replace Hvo := Lib.hid hvo
  replace Hg := Lib.hid hg
  have hjj : j = k := by exact hj
  clear hj
  have hj1 : 0 ≤ j := by omega
  have hj2 : j < n := by omega
  have hj3 : 0 ≤ j := by omega
  have hj4 : 0 ≤ j := by omega
  subst hjj
  clear hP hm hn hno hv hvo hg hF hgb hbs hu hlen hleno hfew hfewo
  go_enter Try.func15, Try.ntmps15
  go_wp2
  go_region
  go_wp2
  go_ret
  refine ⟨rfl, ?_⟩
  rw [hbs'.out]
  refine spoil_close HP.out true Hgb.out Hbs.out 0 _ (by rw [Hm.out]; omega) ?_ _ _ rfl
  exact spoil0B bs bit hbit

set_option maxRecDepth 100000 in
theorem spoil1_true (g : Nat) (st : St) (F : Nat → Prop) (v : Bool → Value) (us : Bool → List Value) (gs : Bool → List Nat) (w : World) (hP : Parts w g st F v us gs) (k : Nat) (hk : k < (st true).length) (j bit : Int) (hj : j = k) (hbit : 0 ≤ bit) :
    Calls Try.prog 15 #[.pointer (some ⟨g, 0, none⟩), .int .i64 j, .int .i64 bit] w (Turns (.bool true) w g F (upd st true ((st true).set k (spoilB (st true)[k] bit)))) := by
  have hr := hP.owns true
  have hlen := hP.len true
  obtain ⟨r, cu, hv, _, lr⟩ := hr.form (by omega)
  obtain ⟨Ao, co, hvo⟩ := owns_form (hP.owns false)
  have hg := hP.blk
  rw [hv, hvo] at hg
  rw [hv] at hr
  obtain ⟨fv, gb, bs, hu, hgb, hbs, hF, h0, h1⟩ := (hP.frms true).at_ k hk
  obtain ⟨cb, rfl, lgb⟩ := frm_form hF
  obtain ⟨n, hn⟩ : ∃ n, (us true).length = n := ⟨_, rfl⟩
  obtain ⟨no, hno⟩ : ∃ n, (us false).length = n := ⟨_, rfl⟩
  obtain ⟨m, hm⟩ : ∃ m, bs.length = m := ⟨_, rfl⟩
  rw [hn] at hr hg hv hlen
  rw [hno] at hg hvo
  rw [hm] at hu hF h0 h1
  have hfew := hP.few true
  have hfewo := hP.few false
  have hleno := hP.len false
  rw [hno] at hleno
  have hkn : k < n := by omega
  have hn64 : n ≤ 64 := by omega
  have hno64 : no ≤ 64 := by omega
  have hki : (k : Int) < (n : Int) := by omega
  have hk0 : (0 : Int) ≤ (k : Int) := by omega
  have c0 : w.cell? ⟨g, 0, none⟩ = some (.slice (some ⟨r, 0, none⟩) n cu) := cell_of_row w g 0 _ _ _ hg
  have c1 : w.cell? ⟨g, 1, none⟩ = some (.slice Ao no co) := cell_of_row w g 1 _ _ _ hg
  have c2 : w.cell? ⟨r, k, none⟩ = some (.slice (some ⟨gb, 0, none⟩) m cb) := by
    have := hr.cells (g := r) rfl k _ hu
    rw [addr_add, Nat.zero_add] at this
    exact this
  have lg : g < w.heap.size := lt_of_block hg
  have t1 := ta_sd
  have t2 := ta_st
  have t3 := ta_ss
  have q1 : 0 ≤ bit % (8 * (m : Int)) := Int.emod_nonneg _ (by omega)
  have q2 : bit % (8 * (m : Int)) < 8 * (m : Int) := Int.emod_lt_of_pos _ (by omega)
  have q3 : 0 ≤ bit % (8 * (m : Int)) / 8 := by omega
  have q4 : bit % (8 * (m : Int)) / 8 < (m : Int) := by omega
  have hcell : w.cell? ⟨gb, (bit % (8 * (m : Int)) / 8).toNat, none⟩ = some (.int .u8 (bs.getD (bit % (8 * (m : Int)) / 8).toNat 0)) := by
    have := hF.1.cells (g := gb) rfl (bit % (8 * (m : Int)) / 8).toNat (.int .u8 (bs.getD (bit % (8 * (m : Int)) / 8).toNat 0)) (by
      have hlt : (bit % (8 * (m : Int)) / 8).toNat < bs.length := by omega
      simp [List.getElem?_eq_getElem hlt, List.getD_eq_getElem?_getD])
    rw [addr_add, Nat.zero_add] at this
    exact this
  have hfrz : w.frozen? ⟨gb, (bit % (8 * (m : Int)) / 8).toNat, none⟩ = false := by
    obtain ⟨cs, hc⟩ := own_block_type hF.1 rfl
    exact frozen_of_row hc
  have hbs' : (st true)[k] = bs := by rw [List.getElem?_eq_getElem hk] at hbs; exact Option.some.inj hbs
  replace HP := Lib.hid hP
  replace Hgb := Lib.hid hgb
  replace Hbs := Lib.hid hbs
  replace hbs' := Lib.hid hbs'
  replace Hlen := Lib.hid hlen
  replace Hm := Lib.hid hm
  replace Hn := Lib.hid hn
  replace Hv := Lib.hid hv
  replace Hvo := Lib.hid hvo
  replace Hg := Lib.hid hg
  have hjj : j = k := by exact hj
  clear hj
  have hj1 : 0 ≤ j := by omega
  have hj2 : j < n := by omega
  have hj3 : 0 ≤ j := by omega
  have hj4 : 0 ≤ j := by omega
  subst hjj
  clear hP hm hn hno hv hvo hg hF hgb hbs hu hlen hleno hfew hfewo
  go_enter Try.func15, Try.ntmps15
  go_wp2
  go_region
  go_wp2
  go_ret
  refine ⟨rfl, ?_⟩
  rw [hbs'.out]
  refine spoil_close HP.out true Hgb.out Hbs.out (bit % (8 * (m : Int)) / 8).toNat _ (by rw [Hm.out]; omega) ?_ _ _ rfl
  rw [spoil1B bs bit hbit, Hm.out]

set_option maxRecDepth 100000 in
theorem spoil0_false (g : Nat) (st : St) (F : Nat → Prop) (v : Bool → Value) (us : Bool → List Value) (gs : Bool → List Nat) (w : World) (hP : Parts w g st F v us gs) (k : Nat) (hk : k < (st false).length) (j bit : Int) (hj : j = (st true).length + k) (hbit : bit < 0) :
    Calls Try.prog 15 #[.pointer (some ⟨g, 0, none⟩), .int .i64 j, .int .i64 bit] w (Turns (.bool true) w g F (upd st false ((st false).set k (spoilB (st false)[k] bit)))) := by
  have hr := hP.owns false
  have hlen := hP.len false
  obtain ⟨r, cu, hv, _, lr⟩ := hr.form (by omega)
  obtain ⟨Ao, co, hvo⟩ := owns_form (hP.owns true)
  have hg := hP.blk
  rw [hv, hvo] at hg
  rw [hv] at hr
  obtain ⟨fv, gb, bs, hu, hgb, hbs, hF, h0, h1⟩ := (hP.frms false).at_ k hk
  obtain ⟨cb, rfl, lgb⟩ := frm_form hF
  obtain ⟨n, hn⟩ : ∃ n, (us false).length = n := ⟨_, rfl⟩
  obtain ⟨no, hno⟩ : ∃ n, (us true).length = n := ⟨_, rfl⟩
  obtain ⟨m, hm⟩ : ∃ m, bs.length = m := ⟨_, rfl⟩
  rw [hn] at hr hg hv hlen
  rw [hno] at hg hvo
  rw [hm] at hu hF h0 h1
  have hfew := hP.few false
  have hfewo := hP.few true
  have hleno := hP.len true
  rw [hno] at hleno
  have hkn : k < n := by omega
  have hn64 : n ≤ 64 := by omega
  have hno64 : no ≤ 64 := by omega
  have hki : (k : Int) < (n : Int) := by omega
  have hk0 : (0 : Int) ≤ (k : Int) := by omega
  have c0 : w.cell? ⟨g, 0, none⟩ = some (.slice Ao no co) := cell_of_row w g 0 _ _ _ hg
  have c1 : w.cell? ⟨g, 1, none⟩ = some (.slice (some ⟨r, 0, none⟩) n cu) := cell_of_row w g 1 _ _ _ hg
  have c2 : w.cell? ⟨r, k, none⟩ = some (.slice (some ⟨gb, 0, none⟩) m cb) := by
    have := hr.cells (g := r) rfl k _ hu
    rw [addr_add, Nat.zero_add] at this
    exact this
  have lg : g < w.heap.size := lt_of_block hg
  have t1 := ta_sd
  have t2 := ta_st
  have t3 := ta_ss
  have hcell : w.cell? ⟨gb, 0, none⟩ = some (.int .u8 (bs.getD 0 0)) := by
    have := hF.1.cells (g := gb) rfl 0 (.int .u8 (bs.getD 0 0)) (by
      have hlt : 0 < bs.length := by omega
      simp [List.getElem?_eq_getElem hlt, List.getD_eq_getElem?_getD])
    rw [addr_add, Nat.zero_add] at this
    exact this
  have hfrz : w.frozen? ⟨gb, 0, none⟩ = false := by
    obtain ⟨cs, hc⟩ := own_block_type hF.1 rfl
    exact frozen_of_row hc
  have hbs' : (st false)[k] = bs := by rw [List.getElem?_eq_getElem hk] at hbs; exact Option.some.inj hbs
  replace HP := Lib.hid hP
  replace Hgb := Lib.hid hgb
  replace Hbs := Lib.hid hbs
  replace hbs' := Lib.hid hbs'
  replace Hlen := Lib.hid hlen
  replace Hm := Lib.hid hm
  replace Hn := Lib.hid hn
  replace Hv := Lib.hid hv
  replace Hvo := Lib.hid hvo
  replace Hg := Lib.hid hg
  have hjj : j = no + k := by rw [hj]; omega
  clear hj
  have hj1 : 0 ≤ j := by omega
  have hj2 : (no : Int) ≤ j := by omega
  have hj3 : j - no < n := by omega
  have hj4 : 0 ≤ j - no := by omega
  obtain rfl : j = (k : Int) + no := by omega
  clear hjj
  clear hP hm hn hno hv hvo hg hF hgb hbs hu hlen hleno hfew hfewo
  go_enter Try.func15, Try.ntmps15
  go_wp2
  go_region
  go_wp2
  go_ret
  refine ⟨rfl, ?_⟩
  rw [hbs'.out]
  refine spoil_close HP.out false Hgb.out Hbs.out 0 _ (by rw [Hm.out]; omega) ?_ _ _ rfl
  exact spoil0B bs bit hbit

set_option maxRecDepth 100000 in
theorem spoil1_false (g : Nat) (st : St) (F : Nat → Prop) (v : Bool → Value) (us : Bool → List Value) (gs : Bool → List Nat) (w : World) (hP : Parts w g st F v us gs) (k : Nat) (hk : k < (st false).length) (j bit : Int) (hj : j = (st true).length + k) (hbit : 0 ≤ bit) :
    Calls Try.prog 15 #[.pointer (some ⟨g, 0, none⟩), .int .i64 j, .int .i64 bit] w (Turns (.bool true) w g F (upd st false ((st false).set k (spoilB (st false)[k] bit)))) := by
  have hr := hP.owns false
  have hlen := hP.len false
  obtain ⟨r, cu, hv, _, lr⟩ := hr.form (by omega)
  obtain ⟨Ao, co, hvo⟩ := owns_form (hP.owns true)
  have hg := hP.blk
  rw [hv, hvo] at hg
  rw [hv] at hr
  obtain ⟨fv, gb, bs, hu, hgb, hbs, hF, h0, h1⟩ := (hP.frms false).at_ k hk
  obtain ⟨cb, rfl, lgb⟩ := frm_form hF
  obtain ⟨n, hn⟩ : ∃ n, (us false).length = n := ⟨_, rfl⟩
  obtain ⟨no, hno⟩ : ∃ n, (us true).length = n := ⟨_, rfl⟩
  obtain ⟨m, hm⟩ : ∃ m, bs.length = m := ⟨_, rfl⟩
  rw [hn] at hr hg hv hlen
  rw [hno] at hg hvo
  rw [hm] at hu hF h0 h1
  have hfew := hP.few false
  have hfewo := hP.few true
  have hleno := hP.len true
  rw [hno] at hleno
  have hkn : k < n := by omega
  have hn64 : n ≤ 64 := by omega
  have hno64 : no ≤ 64 := by omega
  have hki : (k : Int) < (n : Int) := by omega
  have hk0 : (0 : Int) ≤ (k : Int) := by omega
  have c0 : w.cell? ⟨g, 0, none⟩ = some (.slice Ao no co) := cell_of_row w g 0 _ _ _ hg
  have c1 : w.cell? ⟨g, 1, none⟩ = some (.slice (some ⟨r, 0, none⟩) n cu) := cell_of_row w g 1 _ _ _ hg
  have c2 : w.cell? ⟨r, k, none⟩ = some (.slice (some ⟨gb, 0, none⟩) m cb) := by
    have := hr.cells (g := r) rfl k _ hu
    rw [addr_add, Nat.zero_add] at this
    exact this
  have lg : g < w.heap.size := lt_of_block hg
  have t1 := ta_sd
  have t2 := ta_st
  have t3 := ta_ss
  have q1 : 0 ≤ bit % (8 * (m : Int)) := Int.emod_nonneg _ (by omega)
  have q2 : bit % (8 * (m : Int)) < 8 * (m : Int) := Int.emod_lt_of_pos _ (by omega)
  have q3 : 0 ≤ bit % (8 * (m : Int)) / 8 := by omega
  have q4 : bit % (8 * (m : Int)) / 8 < (m : Int) := by omega
  have hcell : w.cell? ⟨gb, (bit % (8 * (m : Int)) / 8).toNat, none⟩ = some (.int .u8 (bs.getD (bit % (8 * (m : Int)) / 8).toNat 0)) := by
    have := hF.1.cells (g := gb) rfl (bit % (8 * (m : Int)) / 8).toNat (.int .u8 (bs.getD (bit % (8 * (m : Int)) / 8).toNat 0)) (by
      have hlt : (bit % (8 * (m : Int)) / 8).toNat < bs.length := by omega
      simp [List.getElem?_eq_getElem hlt, List.getD_eq_getElem?_getD])
    rw [addr_add, Nat.zero_add] at this
    exact this
  have hfrz : w.frozen? ⟨gb, (bit % (8 * (m : Int)) / 8).toNat, none⟩ = false := by
    obtain ⟨cs, hc⟩ := own_block_type hF.1 rfl
    exact frozen_of_row hc
  have hbs' : (st false)[k] = bs := by rw [List.getElem?_eq_getElem hk] at hbs; exact Option.some.inj hbs
  replace HP := Lib.hid hP
  replace Hgb := Lib.hid hgb
  replace Hbs := Lib.hid hbs
  replace hbs' := Lib.hid hbs'
  replace Hlen := Lib.hid hlen
  replace Hm := Lib.hid hm
  replace Hn := Lib.hid hn
  replace Hv := Lib.hid hv
  replace Hvo := Lib.hid hvo
  replace Hg := Lib.hid hg
  have hjj : j = no + k := by rw [hj]; omega
  clear hj
  have hj1 : 0 ≤ j := by omega
  have hj2 : (no : Int) ≤ j := by omega
  have hj3 : j - no < n := by omega
  have hj4 : 0 ≤ j - no := by omega
  obtain rfl : j = (k : Int) + no := by omega
  clear hjj
  clear hP hm hn hno hv hvo hg hF hgb hbs hu hlen hleno hfew hfewo
  go_enter Try.func15, Try.ntmps15
  go_wp2
  go_region
  go_wp2
  go_ret
  refine ⟨rfl, ?_⟩
  rw [hbs'.out]
  refine spoil_close HP.out false Hgb.out Hbs.out (bit % (8 * (m : Int)) / 8).toNat _ (by rw [Hm.out]; omega) ?_ _ _ rfl
  rw [spoil1B bs bit hbit, Hm.out]
end Go.Proofs.Ytomhnabgdbpoiaa
