/- The reference's Name: the same. Conditions: neither is long. -/
import Derived.Test.YtcmogmplfigikaaBools
import Derived.OwnWalk
import Derived.Deep.RegionHeld3
import Derived.BigRegion
namespace Go.Proofs.Ytcmogmplfigikaa
open Go.RowKit Go.Shelf
attribute [local go_sem ↓] Go.wp_at_zero Go.wp_at_succ
set_option linter.unusedVariables false
set_option linter.unusedSimpArgs false

/-- The table. -/
def tab (g s : List UInt8) (i k : Nat) : Bool := nameM (g.drop i) (s.drop k)
theorem drop_some {l : List UInt8} {i : Nat} {c : UInt8} (h : l[i]? = some c) : l.drop i = c :: l.drop (i + 1) := by
  have hl := (List.getElem?_eq_some_iff.1 h).1
  rw [List.drop_eq_getElem_cons hl, (List.getElem?_eq_some_iff.1 h).2]
theorem tab_star {g s : List UInt8} {i k : Nat} (hg : g[i]? = some 42) (hk : k < s.length) : tab g s i k = (tab g s (i + 1) k || tab g s i (k + 1)) := by
  unfold tab
  rw [drop_some hg, List.drop_eq_getElem_cons hk, star_cons]
theorem tab_star_end {g s : List UInt8} {i : Nat} (hg : g[i]? = some 42) : tab g s i s.length = tab g s (i + 1) s.length := by
  unfold tab
  rw [drop_some hg, List.drop_length, star_nil]
theorem tab_byte {g s : List UInt8} {i k : Nat} {c b : UInt8} (hg : g[i]? = some c) (hc : c ≠ 42) (hs : s[k]? = some b) : tab g s i k = (okC c b && tab g s (i + 1) (k + 1)) := by
  unfold tab
  rw [drop_some hg, drop_some hs, name_cons hc]
theorem tab_byte_end {g s : List UInt8} {i : Nat} {c : UInt8} (hg : g[i]? = some c) (hc : c ≠ 42) : tab g s i s.length = false := by
  unfold tab
  rw [drop_some hg, List.drop_length, name_cons_nil hc]
theorem tab_last (g s : List UInt8) (k : Nat) (hk : k ≤ s.length) : tab g s g.length k = if k = s.length then true else false := by
  unfold tab
  rw [List.drop_length]
  by_cases h : k = s.length
  · rw [if_pos h, h, List.drop_length]; rfl
  · rw [if_neg h, List.drop_eq_getElem_cons (by omega)]; rfl
def RowRel (T : Nat → Nat → Bool) (m n : Nat) (w : World) (vn vi : Value) (wr : World) : Prop :=
  ∃ j b : Nat, j ≤ m ∧ vi = .int .i64 ((j : Int) - 1) ∧ vn = .slice (some ⟨b, 0, none⟩) (n + 1) (n + 1) ∧ w.heap.size ≤ b ∧ BoolRow wr b (n + 1) (T j) ∧ Below w.heap.size w wr
def CellRel (T : Nat → Bool) (n b : Nat) (w3 : World) (vk : Value) (wr : World) : Prop :=
  ∃ (kk : Nat) (F : Nat → Bool), kk ≤ n + 1 ∧ vk = .int .i64 ((kk : Int) - 1) ∧ BoolRow wr b (n + 1) F ∧ (∀ k, kk ≤ k → k ≤ n → F k = T k) ∧ Upto (fun x => x = b) w3 wr
theorem cellRel_next {T : Nat → Bool} {n b : Nat} {w3 wr : World} {k : Nat} {F : Nat → Bool} (hk : k ≤ n) (hr : BoolRow wr b (n + 1) F) (hF : ∀ j, k + 1 ≤ j → j ≤ n → F j = T j) (hU : Upto (fun x => x = b) w3 wr) {x : Bool} (hx : x = T k) (m : Nat) :
    CellRel T n b w3 (.int .i64 ((k : Int) - 1)) ((wr.drewN m).setCell ⟨b, k, none⟩ (.bool x)) :=
  ⟨k, _, by omega, rfl, (hr.drewN m).set k x, fun j h1 h2 => by
    by_cases hjk : j = k
    · subst hjk; simp [hx]
    · simp [hjk]; exact hF j (by omega) h2, (hU.drewN m).setCell (.inl rfl) _⟩
theorem cellRel_drew {T : Nat → Bool} {n b : Nat} {w3 wr : World} {v : Value} (h : CellRel T n b w3 v wr) : CellRel T n b w3 v wr.drew := by
  obtain ⟨kk, F, h1, h2, h3, h4, h5⟩ := h
  exact ⟨kk, F, h1, h2, h3.drewN 1, h4, h5.drew⟩

set_option maxRecDepth 100000 in
set_option maxHeartbeats 8000000 in
theorem ref_name_any (g s : ByteArray) (hgs : g.size ≤ 1000) (hss : s.size ≤ 1000) (w : World) : Calls Try.prog 12 #[.string g, .string s] w (Ret (.bool (nameM g.data.toList s.data.toList)) w) := by
  obtain ⟨i4, hi4, hz4, hs4, hb4⟩ := info_parts info4
  obtain ⟨T, hT⟩ : ∃ T, tab g.data.toList s.data.toList = T := ⟨_, rfl⟩
  have HT := Lib.hid hT
  have hgl : g.data.toList.length = g.size := rfl
  have hsl : s.data.toList.length = s.size := rfl
  have Hgl := Lib.hid hgl
  have Hsl := Lib.hid hsl
  have hmx : Try.prog.follows .mixedOrders = true := by kernel_rfl
  have Hmx := Lib.hid hmx
  clear hT hgl hsl hmx
  go_enter Try.func12, Try.ntmps12
  go_wp2_with (at_make; refine wpList_make_full _ rfl _ _ 37 rfl _ 4 i4 (.bool false) 1 Try.underlying37 hi4 hz4 hs4 .i64 .i64 _ _ (s.size + 1) rfl rfl (by go_num) (by go_num) (by rw [hb4]; omega) (by unfold maxLen; omega) (Nat.le_refl _) ?_; intro w1 hown1 hgrow1; have hr1 := BoolRow.made hown1; have c1 := hr1.cell (k := s.size) (by omega); have f1 := hr1.frozen s.size)
  have hr2 := hr1.set s.size true
  have hb2 : Below w.heap.size w (w1.setCell ⟨w.heap.size, s.size, none⟩ (.bool true)) := ((Below.refl _ w).grown hgrow1 (Nat.le_refl _) (fun k h => by cases h)).setCell (p := ⟨w.heap.size, s.size, none⟩) (Nat.le_refl _) _
  have hr3 : BoolRow (w1.setCell ⟨w.heap.size, s.size, none⟩ (.bool true)) w.heap.size (s.size + 1) (T g.size) := hr2.congr (fun k hk => by
    rw [← HT.out, ← Hgl.out, tab_last _ _ k (by rw [Hsl.out]; omega), Hsl.out])
  clear hown1 hgrow1 hr1 c1 f1 hr2
  go_loopw [5, 6] (fun vn vi wr => RowRel T g.size s.size w vn vi wr) (fun _ vi _ => (intOf vi + 1).toNat)
  case atStart => exact ⟨g.size, w.heap.size, Nat.le_refl _, rfl, rfl, Nat.le_refl _, hr3, hb2⟩
  case round =>
    obtain ⟨j, bn, hj, rfl, rfl, hbn, hrow, hbw⟩ := hrel
    by_cases hj0 : j = 0
    · subst hj0
      have c0 := hrow.cell (k := 0) (by omega)
      have hres : T 0 0 = nameM g.data.toList s.data.toList := by rw [← HT.out]; rfl
      have Hres := Lib.hid hres
      clear hres
      go_wp2
      go_ret
      exact ⟨by rw [← Hres.out]; rfl, hbw⟩
    · obtain ⟨i, rfl⟩ : ∃ i, j = i + 1 := ⟨j - 1, by omega⟩
      have hji : (((i + 1 : Nat) : Int) - 1) = (i : Int) := by omega
      rw [hji]
      have hig : i < g.size := by omega
      have Hbg := Lib.hid (data_get g i hig)
      have hbl := hrow.lt
      have Hrow := Lib.hid hrow
      clear hji hj0 hrow hr3
      go_wp2_with (at_make; refine wpList_make_full _ rfl _ _ 37 rfl _ 4 i4 (.bool false) 1 Try.underlying37 hi4 hz4 hs4 .i64 .i64 _ _ (s.size + 1) rfl rfl (by go_num) (by go_num) (by rw [hb4]; omega) (by unfold maxLen; omega) (Nat.le_refl _) ?_; intro w3 hown3 hgrow3; have hr4 := BoolRow.made hown3)
      have hne : bn ≠ wr.heap.size := by omega
      have hbn3 : BoolRow w3 bn (s.size + 1) (T (i + 1)) := Hrow.out.keep (hgrow3.block bn hbl (by simp))
      have hbw3 : Below w.heap.size w w3 := hbw.grown hgrow3 hbw.size (fun k h => by cases h)
      have hsz := hbw.size
      obtain ⟨bw, hbwe⟩ : ∃ bw, wr.heap.size = bw := ⟨_, rfl⟩
      rw [hbwe] at hne hr4 hown3 hsz ⊢
      have Hbn3 := Lib.hid hbn3
      have Hbw3 := Lib.hid hbw3
      have Hr4 := Lib.hid hr4
      clear hown3 hgrow3 hbwe hbn3 hbw3 hbw Hrow hr4
      by_cases h42 : g[i] = 42
      · have q42 : (((g[i]).toNat : Int) == 42) = true := by rw [h42]; rfl
        have H42 : Hid (g.data.toList[i]? = some 42) := Lib.hid (by rw [Hbg.out, h42])
        clear h42
        go_loopw [8] (fun vk wr2 => CellRel (T i) s.size bw w3 vk wr2) (fun vk _ => (intOf vk + 1).toNat)
        case atStart => exact ⟨s.size + 1, _, Nat.le_refl _, by go_num, Hr4.out, fun k h1 h2 => by omega, Upto.refl _ _⟩
        case round =>
            obtain ⟨kk, F, hkk, rfl, hrf, hF, hU⟩ := hrel
            by_cases hk0 : kk = 0
            · subst hk0
              have Hrf := Lib.hid hrf
              have HF := Lib.hid hF
              have HU := Lib.hid hU
              clear hrf hF hU
              go_wp2
              go_roundw
              case rel => exact ⟨i, bw, by omega, by go_num, rfl, hsz, Hrf.out.congr (fun k hk => HF.out k (by omega) (by omega)), Hbw3.out.trans (HU.out.toBelow Hbw3.out.size (fun k h => by omega))⟩
              case measure => (simp [intOf] <;> omega)
            · obtain ⟨k, rfl⟩ : ∃ k, kk = k + 1 := ⟨kk - 1, by omega⟩
              have hki : (((k + 1 : Nat) : Int) - 1) = (k : Int) := by omega
              rw [hki]
              have cn := (Hbn3.out.upto hU hne).cell (k := k) (by omega)
              have cw := hrf.cell (k := k) (by omega)
              have fw := hrf.frozen k
              have Hrf := Lib.hid hrf
              have HF := Lib.hid hF
              have HU := Lib.hid hU
              by_cases hkn : k < s.size
              · have hlt : (k : Int) < (s.size : Int) := by omega
                have cw1 := hrf.cell (k := k + 1) (by omega)
                rw [hF (k + 1) (by omega) (by omega)] at cw1
                have Hx : Hid (T i k = (T (i + 1) k || T i (k + 1))) := Lib.hid (by rw [← HT.out]; exact tab_star H42.out (by rw [Hsl.out]; exact hkn))
                clear hki hrf hF hU hk0
                obtain ⟨x, hx⟩ : ∃ x, T (i + 1) k = x := ⟨_, rfl⟩
                obtain ⟨y, hy⟩ : ∃ y, T i (k + 1) = y := ⟨_, rfl⟩
                rw [hx] at cn Hx
                rw [hy] at cw1 Hx
                clear hx hy
                cases x with
                | true =>
                  go_wp2
                  go_roundw
                  case rel => exact cellRel_next (m := 0) (by omega) Hrf.out HF.out HU.out (by rw [Hx.out]; rfl)
                  case measure => (simp [intOf] <;> omega)
                | false =>
                  go_wp2
                  go_roundw
                  case rel => exact cellRel_next (m := 0) (by omega) Hrf.out HF.out HU.out (by rw [Hx.out]; rfl)
                  case measure => (simp [intOf] <;> omega)
              · obtain rfl : k = s.size := by omega
                have Hx : Hid (T i s.size = T (i + 1) s.size) := Lib.hid (by rw [← HT.out, ← Hsl.out]; exact tab_star_end H42.out)
                clear hki hrf hF hU hk0
                obtain ⟨x, hx⟩ : ∃ x, T (i + 1) s.size = x := ⟨_, rfl⟩
                rw [hx] at cn Hx
                clear hx
                cases x with
                | true =>
                  go_wp2
                  go_roundw
                  case rel => exact cellRel_next (m := 0) (by omega) Hrf.out HF.out HU.out (by rw [Hx.out])
                  case measure => (simp [intOf] <;> omega)
                | false =>
                  go_wp2
                  go_roundw
                  case rel => exact cellRel_next (m := 0) (by omega) Hrf.out HF.out HU.out (by rw [Hx.out])
                  case measure => (simp [intOf] <;> omega)
      · have q42 : (((g[i]).toNat : Int) == 42) = false := byte_ne (n := 42) (by omega) h42
        have H42 := Lib.hid h42
        clear h42
        go_loopw [8] (fun vk wr2 => CellRel (T i) s.size bw w3 vk wr2) (fun vk _ => (intOf vk + 1).toNat)
        case atStart => exact ⟨s.size + 1, _, Nat.le_refl _, by go_num, Hr4.out, fun k h1 h2 => by omega, Upto.refl _ _⟩
        case round =>
            obtain ⟨kk, F, hkk, rfl, hrf, hF, hU⟩ := hrel
            by_cases hk0 : kk = 0
            · subst hk0
              have Hrf := Lib.hid hrf
              have HF := Lib.hid hF
              have HU := Lib.hid hU
              clear hrf hF hU
              go_wp2
              go_roundw
              case rel => exact ⟨i, bw, by omega, by go_num, rfl, hsz, Hrf.out.congr (fun k hk => HF.out k (by omega) (by omega)), Hbw3.out.trans (HU.out.toBelow Hbw3.out.size (fun k h => by omega))⟩
              case measure => (simp [intOf] <;> omega)
            · obtain ⟨k, rfl⟩ : ∃ k, kk = k + 1 := ⟨kk - 1, by omega⟩
              have hki : (((k + 1 : Nat) : Int) - 1) = (k : Int) := by omega
              rw [hki]
              have cw := hrf.cell (k := k) (by omega)
              have fw := hrf.frozen k
              have Hrf := Lib.hid hrf
              have HF := Lib.hid hF
              have HU := Lib.hid hU
              by_cases hkn : k < s.size
              · have hlt : (k : Int) < (s.size : Int) := by omega
                have cn := (Hbn3.out.upto hU hne).cell (k := k + 1) (by omega)
                have Hbs := Lib.hid (data_get s k hkn)
                have Hx : Hid (T i k = (okC g[i] s[k] && T (i + 1) (k + 1))) := Lib.hid (by rw [← HT.out]; exact tab_byte Hbg.out H42.out Hbs.out)
                clear hki hrf hF hU hk0
                obtain ⟨y, hy⟩ : ∃ y, T (i + 1) (k + 1) = y := ⟨_, rfl⟩
                rw [hy] at cn Hx
                clear hy
                by_cases h63 : g[i] = 63
                · have q63 : (((g[i]).toNat : Int) == 63) = true := by rw [h63]; rfl
                  have Hx2 : Hid (T i k = y) := Lib.hid (by rw [Hx.out, h63]; rfl)
                  clear h63
                  go_wp2
                  go_region
                  go_wp2
                  go_roundw
                  case rel => exact cellRel_drew (cellRel_next (m := 0) (by omega) Hrf.out HF.out HU.out (by rw [Hx2.out]))
                  case measure => (simp [intOf] <;> omega)
                · have q63 : (((g[i]).toNat : Int) == 63) = false := byte_ne (n := 63) (by omega) h63
                  by_cases hgs2 : g[i] = s[k]
                  · have qs : (((g[i]).toNat : Int) == ((s[k]).toNat : Int)) = true := by rw [byte_same]; simpa using hgs2
                    have Hx2 : Hid (T i k = y) := Lib.hid (by rw [Hx.out, hgs2]; simp [okC])
                    clear h63 hgs2
                    go_wp2
                    go_region
                    go_wp2
                    go_roundw
                    case rel => exact cellRel_drew (cellRel_next (m := 0) (by omega) Hrf.out HF.out HU.out (by rw [Hx2.out]))
                    case measure => (simp [intOf] <;> omega)
                  · have qs : (((g[i]).toNat : Int) == ((s[k]).toNat : Int)) = false := by rw [byte_same]; simpa using hgs2
                    have Hx2 : Hid (T i k = false) := Lib.hid (by rw [Hx.out]; simp [okC, h63, hgs2])
                    clear h63 hgs2
                    go_wp2
                    go_region
                    go_wp2
                    go_roundw
                    case rel => exact cellRel_drew (cellRel_next (m := 0) (by omega) Hrf.out HF.out HU.out (by rw [Hx2.out]))
                    case measure => (simp [intOf] <;> omega)
              · obtain rfl : k = s.size := by omega
                have Hx2 : Hid (T i s.size = false) := Lib.hid (by rw [← HT.out, ← Hsl.out]; exact tab_byte_end Hbg.out H42.out)
                clear hki hrf hF hU hk0
                go_wp2
                go_region
                go_wp2
                go_roundw
                case rel => exact cellRel_drew (cellRel_next (m := 0) (by omega) Hrf.out HF.out HU.out (by rw [Hx2.out]))
                case measure => (simp [intOf] <;> omega)
end Go.Proofs.Ytcmogmplfigikaa
