/- glob.Name: it answers whether a name is like a part. Conditions: neither is long. -/
import Derived.Test.YtcmogmplfigikaaLike
import Derived.WalkMore
namespace Go.Proofs.Ytcmogmplfigikaa
open Go.RowKit Go.Shelf
attribute [local go_sem ↓] Go.wp_at_zero Go.wp_at_succ
set_option linter.unusedVariables false
set_option linter.unusedSimpArgs false

def Quiet (v : Value) (w : World) (e : Ending) (w' : World) : Prop := e = .returned v ∧ ∃ m, w' = w.drewN m
def GlobRel (g s : List UInt8) (w : World) (va vst vf vi : Value) (wr : World) : Prop :=
  ∃ (a f i : Nat) (st : Int), va = .int .i64 a ∧ vst = .int .i64 st ∧ vf = .int .i64 f ∧ vi = .int .i64 i ∧ Greedy g s a st f i ∧ -1 ≤ st ∧ st ≤ g.length ∧ ∃ m, wr = w.drewN m
def mu (n m : Nat) (va vf vi : Value) : Nat := (n + 1 - (intOf vf).toNat) * (n + m + 3) + (n - (intOf vi).toNat) + (m - (intOf va).toNat)
theorem mu_star {n m a f i : Nat} (hf : f ≤ i) (hi : i ≤ n) (ha : a < m) : (n + 1 - i) * (n + m + 3) + (n - i) + (m - (a + 1)) < (n + 1 - f) * (n + m + 3) + (n - i) + (m - a) := by
  have := Nat.mul_le_mul_right (n + m + 3) (show n + 1 - i ≤ n + 1 - f by omega)
  omega
theorem mu_miss {n m a f i st : Nat} (hf : f < n) : (n + 1 - (f + 1)) * (n + m + 3) + (n - (f + 1)) + (m - (st + 1)) < (n + 1 - f) * (n + m + 3) + (n - i) + (m - a) := by
  have h : n + 1 - f = (n + 1 - (f + 1)) + 1 := by omega
  rw [h, Nat.succ_mul]
  omega
theorem mu_byte {n m a f i : Nat} (hi : i < n) : (n + 1 - f) * (n + m + 3) + (n - (i + 1)) + (m - (a + 1)) < (n + 1 - f) * (n + m + 3) + (n - i) + (m - a) := by omega
def StarsRel (g : List UInt8) (w : World) (b : Bool) (va : Value) (wr : World) : Prop :=
  ∃ a : Nat, va = .int .i64 a ∧ a ≤ g.length ∧ (g.drop a).all (· == 42) = b ∧ ∃ m, wr = w.drewN m
theorem size_data' (s : ByteArray) : s.size = s.data.toList.length := rfl
theorem data_get (s : ByteArray) (k : Nat) (h : k < s.size) : s.data.toList[k]? = some s[k] := get_data s k h
theorem nat_int {a : Nat} : ((intOf (.int .i64 (a : Int))).toNat) = a := by simp [intOf]
theorem byte_ne {x : UInt8} {n : Nat} (hn : n < 256) (h : ¬ x = UInt8.ofNat n) : ((x.toNat : Int) == (n : Int)) = false := by
  simp only [beq_eq_false_iff_ne]
  intro h2
  exact h ((byte_eq (n := n) hn).1 h2)
theorem byte_same {x y : UInt8} : ((x.toNat : Int) == (y.toNat : Int)) = (x == y) := by
  rw [Bool.eq_iff_iff]
  simp only [beq_iff_eq]
  constructor
  · intro h; exact UInt8.toNat_inj.1 (by omega)
  · intro h; rw [h]

set_option maxRecDepth 100000 in
set_option maxHeartbeats 4000000 in
theorem name_any (g s : ByteArray) (hgs : g.size ≤ 1000) (hss : s.size ≤ 1000) (w : World) : Calls Try.prog 11 #[.string g, .string s] w (Quiet (.bool (nameM g.data.toList s.data.toList)) w) := by
  obtain ⟨res, hres⟩ : ∃ r, nameM g.data.toList s.data.toList = r := ⟨_, rfl⟩
  rw [hres]
  have Hres := Lib.hid hres
  clear hres
  have Hmx : Hid (Try.prog.follows .mixedOrders = true) := Lib.hid (by kernel_rfl)
  go_enter Try.func11, Try.ntmps11
  go_wp2
  go_step3
  go_wp2
  go_step3
  go_wp2
  go_loopw [5, 6, 7, 8] (fun va vst vf vi wr => GlobRel g.data.toList s.data.toList w va vst vf vi wr) (fun va _ vf vi _ => mu s.size g.size va vf vi)
  case atStart => exact ⟨0, 0, 0, -1, rfl, rfl, rfl, rfl, greedy_start _ _, by omega, by omega, 0, rfl⟩
  case round =>
    obtain ⟨a, f, i, st, rfl, rfl, rfl, rfl, hG, hs1, hs2, m, hw⟩ := hrel
    subst hw
    have hil : i ≤ s.size := hG.1
    have hal : a ≤ g.size := hG.2.1
    have hfi : f ≤ i := hG.2.2.1
    have hs2' : st ≤ 1000 := by rw [← size_data'] at hs2; omega
    have HG := Lib.hid hG
    clear hG hs2
    by_cases hi : i < s.size
    · have Hbs := Lib.hid (data_get s i hi)
      have hi' : (i : Int) < (s.size : Int) := by omega
      by_cases ha : a < g.size
      · have ha' : (a : Int) < (g.size : Int) := by omega
        have Hbg := Lib.hid (data_get g a ha)
        by_cases h42 : g[a] = 42
        · have q42 : (((g[a]).toNat : Int) == 42) = true := by rw [h42]; rfl
          have H42 := Lib.hid h42
          clear h42
          go_wp2
          go_roundw
          case rel => exact ⟨a + 1, i, i, a, by go_num, rfl, rfl, rfl, greedy_star HG.out (by rw [Hbg.out, H42.out]), by omega, by rw [← size_data']; omega, m, rfl⟩
          case measure => simp only [mu, nat_int]; simp only [intOf]; exact mu_star hfi hil ha
        · have q42 : (((g[a]).toNat : Int) == 42) = false := byte_ne (n := 42) (by omega) h42
          have H42 := Lib.hid h42
          clear h42
          by_cases h63 : g[a] = 63
          · have q63 : (((g[a]).toNat : Int) == 63) = true := by rw [h63]; rfl
            have Hok : Hid (okC g[a] s[i] = true) := Lib.hid (by rw [h63]; rfl)
            clear h63
            go_wp2
            go_quiet (fail)
            go_wp2
            go_roundw
            case rel => exact ⟨a + 1, f, i + 1, st, by go_num, rfl, rfl, by go_num, greedy_byte HG.out Hbg.out Hbs.out H42.out Hok.out, by omega, by rw [← size_data']; have := HG.out.2.1; have := HG.out; unfold Greedy at this; first | omega | (rcases this.2.2.2 with h | h; omega; obtain ⟨st2, _, _, h2, h3, _⟩ := h; rw [← size_data'] at *; omega), _, rfl⟩
            case measure => simp only [mu, nat_int]; simp only [intOf]; exact mu_byte hi
          · have q63 : (((g[a]).toNat : Int) == 63) = false := byte_ne (n := 63) (by omega) h63
            by_cases hgs2 : g[a] = s[i]
            · have qs : (((g[a]).toNat : Int) == ((s[i]).toNat : Int)) = true := by rw [byte_same]; simpa using hgs2
              have Hok : Hid (okC g[a] s[i] = true) := Lib.hid (by rw [hgs2]; simp [okC])
              clear h63 hgs2
              go_wp2
              go_quiet (fail)
              go_wp2
              go_roundw
              case rel => exact ⟨a + 1, f, i + 1, st, by go_num, rfl, rfl, by go_num, greedy_byte HG.out Hbg.out Hbs.out H42.out Hok.out, by omega, by rw [← size_data']; have := HG.out.2.1; have := HG.out; unfold Greedy at this; first | omega | (rcases this.2.2.2 with h | h; omega; obtain ⟨st2, _, _, h2, h3, _⟩ := h; rw [← size_data'] at *; omega), _, rfl⟩
              case measure => simp only [mu, nat_int]; simp only [intOf]; exact mu_byte hi
            · have qs : (((g[a]).toNat : Int) == ((s[i]).toNat : Int)) = false := by rw [byte_same]; simpa using hgs2
              have Hok : Hid (okC g[a] s[i] = false) := Lib.hid (by simp [okC, h63, hgs2])
              have Hm := Lib.hid (miss_byte Hbg.out Hbs.out H42.out Hok.out)
              clear h63 hgs2
              by_cases hst : st < 0
              · have Hf := Lib.hid ((greedy_miss HG.out hi Hm.out).1 hst)
                go_wp2
                go_quiet (fail)
                go_wp2
                (try rw [Exit.noGoto_ret])
                go_ret
                exact ⟨by rw [← Hres.out, Hf.out]; rfl, _, rfl⟩
              · obtain ⟨n, rfl⟩ : ∃ n : Nat, st = n := ⟨st.toNat, by omega⟩
                have hn : n ≤ 1000 := by omega
                have hnn : ¬ (n : Int) < 0 := by omega
                have Hn := Lib.hid ((greedy_miss HG.out hi Hm.out).2 n rfl)
                go_wp2
                go_quiet (fail)
                go_wp2
                go_roundw
                case rel => exact ⟨n + 1, f + 1, f + 1, n, by go_num, rfl, by go_num, by go_num, Hn.out, by omega, by have := Hn.out.2.1; omega, _, rfl⟩
                case measure => simp only [mu]; simp only [intOf]; exact mu_miss (by omega)
      · obtain rfl : a = g.size := by omega
        have Hm : Hid (nameM (g.data.toList.drop g.size) (s.data.toList.drop i) = false) := Lib.hid (miss_end _ _ hi)
        by_cases hst : st < 0
        · have Hf := Lib.hid ((greedy_miss HG.out hi Hm.out).1 hst)
          go_wp2
          go_quiet (fail)
          go_wp2
          (try rw [Exit.noGoto_ret])
          go_ret
          exact ⟨by rw [← Hres.out, Hf.out]; rfl, _, rfl⟩
        · obtain ⟨n, rfl⟩ : ∃ n : Nat, st = n := ⟨st.toNat, by omega⟩
          have hn : n ≤ 1000 := by omega
          have hnn : ¬ (n : Int) < 0 := by omega
          have Hn := Lib.hid ((greedy_miss HG.out hi Hm.out).2 n rfl)
          go_wp2
          go_quiet (fail)
          go_wp2
          go_roundw
          case rel => exact ⟨n + 1, f + 1, f + 1, n, by go_num, rfl, by go_num, by go_num, Hn.out, by omega, by have := Hn.out.2.1; omega, _, rfl⟩
          case measure => simp only [mu]; simp only [intOf]; exact mu_miss (by omega)
    · obtain rfl : i = s.size := by omega
      have Hend := Lib.hid (greedy_end HG.out)
      clear HG
      go_wp2
      go_loopw [5] (fun va wr => StarsRel g.data.toList w res va wr) (fun va _ => g.size - (intOf va).toNat)
      case atStart => exact ⟨a, rfl, hal, by rw [← Hend.out, Hres.out], m, rfl⟩
      case round =>
        obtain ⟨k, rfl, hk, hall, m2, hw⟩ := hrel
        subst hw
        rw [← size_data'] at hk
        have Hall := Lib.hid hall
        clear hall
        by_cases hlt : k < g.size
        · have hlt' : (k : Int) < (g.size : Int) := by omega
          have Hbg := Lib.hid (data_get g k hlt)
          have Hd : Hid (g.data.toList.drop k = g[k] :: g.data.toList.drop (k + 1)) := Lib.hid (by
            have hl : k < g.data.toList.length := hlt
            rw [List.drop_eq_getElem_cons hl]
            have := Hbg.out
            rw [List.getElem?_eq_getElem hl] at this
            rw [Option.some.inj this])
          by_cases h42 : g[k] = 42
          · have q42 : (((g[k]).toNat : Int) == 42) = true := by rw [h42]; rfl
            have H42 := Lib.hid h42
            clear h42
            go_wp2
            go_roundw
            case rel => exact ⟨k + 1, by go_num, hlt, by have := Hall.out; rw [Hd.out, H42.out] at this; simpa using this, m2, rfl⟩
            case measure => simp [intOf]; omega
          · have q42 : (((g[k]).toNat : Int) == 42) = false := byte_ne (n := 42) (by omega) h42
            have hkn : ((k : Int) == (g.size : Int)) = false := by simp; omega
            have Hf : Hid (res = false) := Lib.hid (by rw [← Hall.out, Hd.out]; simp [h42])
            clear h42
            go_wp2
            (try rw [Exit.noGoto_ret])
            go_ret
            exact ⟨by rw [Hf.out]; rfl, _, rfl⟩
        · obtain rfl : k = g.size := by omega
          have hkn : ((g.size : Int) == (g.size : Int)) = true := by simp
          have Hf : Hid (res = true) := Lib.hid (by rw [← Hall.out, size_data', List.drop_length]; rfl)
          go_wp2
          (try rw [Exit.noGoto_ret])
          go_ret
          exact ⟨by rw [Hf.out]; rfl, _, rfl⟩
end Go.Proofs.Ytcmogmplfigikaa
