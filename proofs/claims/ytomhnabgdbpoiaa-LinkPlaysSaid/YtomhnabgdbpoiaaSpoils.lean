/- LinkSpoils: it answers true. Conditions: the bytes lie at a plain address and are bytes. -/
import Derived.Test.YtomhnabgdbpoiaaSpoils0
namespace Go.Proofs.Ytomhnabgdbpoiaa
open Go.RowKit
attribute [local go_sem ↓] Go.wp_at_zero Go.wp_at_succ
set_option linter.unusedVariables false
set_option linter.unusedSimpArgs false

theorem at0 (a : List Int) (r : List (List Int)) : at_ (two (a :: r) []) 0 = some (true, 0) := by
  unfold at_ two
  simp
theorem at1 (a b : List Int) : at_ (two [a, b] []) 1 = some (true, 1) := by
  unfold at_ two; simp
theorem at2 (a b : List Int) : at_ (two [a, b] []) 2 = none := by
  unfold at_ two; simp
theorem tw1 (a : List Int) : twiceP (two [a] []) 0 = two [a, a] [] := by
  unfold twiceP; rw [at0]; funext u; cases u <;> rfl
theorem sp0 (a b : List Int) (bit : Int) : spoilP (two [a, b] []) 0 bit = two [spoilB a bit, b] [] := by
  unfold spoilP; rw [at0]; funext u; cases u <;> rfl
theorem sp1 (a b : List Int) (bit : Int) : spoilP (two [a, b] []) 1 bit = two [a, spoilB b bit] [] := by
  unfold spoilP; rw [at1]; funext u; cases u <;> rfl
theorem sp2 (a b : List Int) (bit : Int) : spoilP (two [a, b] []) 2 bit = two [a, b] [] := by
  unfold spoilP; rw [at2]
theorem dr0 (a b : List Int) : dropB (two [a, b] []) 0 = true := by unfold dropB; rw [at0]; rfl
theorem dr1 (a b : List Int) : dropB (two [a, b] []) 1 = true := by unfold dropB; rw [at1]; rfl
theorem dr2 (a b : List Int) : dropB (two [a, b] []) 2 = false := by unfold dropB; rw [at2]; rfl
theorem tk0 (a : List Int) (r : List (List Int)) : upd (two (a :: r) []) true ((two (a :: r) [] true).take 0 ++ (two (a :: r) [] true).drop (0 + 1)) = two r [] := by
  funext u; cases u <;> rfl
theorem sd0 (a : List Int) : sendP (fun _ => []) true a = if sendOk [] a then two [a] [] else two [] [] := by
  unfold sendP
  by_cases h : sendOk [] a = true
  · rw [if_pos h, if_pos h]; funext u; cases u <;> rfl
  · rw [if_neg h, if_neg h]; funext u; cases u <;> rfl

theorem twice_to (g : Nat) (st : St) (F : Nat → Prop) (w : World) (hL : LinkAt w g st F) (j : Int) (jr : j < 9223372036854775808) (st' : St) (h : twiceP st j = st') :
    Calls Try.prog 14 #[.pointer (some ⟨g, 0, none⟩), .int .i64 j] w (Turns (.bool (twiceB st j)) w g F st') := by
  subst h; exact twice_any g st F w hL j jr

set_option maxRecDepth 100000 in
theorem spoils_no (A : Option Addr) (n c : Nat) (bit : Int) (w : World) (hn : n = 0 ∨ 1024 < n) (hm : n ≤ 9223372036854775807) : Calls Try.prog 5 #[.slice A n c, .int .i64 bit] w (Ret (.bool true) w) := by
  rcases hn with rfl | hn
  · go_enter Try.func5, Try.ntmps5
    go_wp2_with (first | (go_at_call 8; refine (awake_ok _).mono ?_; rintro e w1 ⟨rfl, hb⟩))
    go_ret
    exact ⟨rfl, hb⟩
  · have h0 : ¬ n = 0 := by omega
    have h1 : (1024 : Int) < (n : Int) := by omega
    go_enter Try.func5, Try.ntmps5
    go_wp2_with (first | (go_at_call 8; refine (awake_ok _).mono ?_; rintro e w1 ⟨rfl, hb⟩))
    go_ret
    exact ⟨rfl, hb⟩

/-- Bytes at a plain address. -/
def Lies (w : World) (gb o n : Nat) (bs : List Int) : Prop := ∀ i, i < n → w.cell? ⟨gb, o + i, none⟩ = some (.int .u8 (bs.getD i 0))
theorem Lies.upto {w w' : World} {gb o n : Nat} {bs : List Int} (h : Lies w gb o n bs) (hU : Upto (fun _ => False) w w') : Lies w' gb o n bs := fun i hi => hU.cell (fun h => h.elim) (h i hi)
theorem Lies.below {w w' : World} {gb o n : Nat} {bs : List Int} (h : Lies w gb o n bs) (hU : Below w.heap.size w w') : Lies w' gb o n bs := fun i hi => (hU.cell (World.block_lt_of_cell? w _ (h i hi))).trans (h i hi)
theorem Lies.bytes {w : World} {gb o n c : Nat} {bs : List Int} (h : Lies w gb o n bs) (hn : bs.length = n) : BytesIn w (.slice (some ⟨gb, o, none⟩) n c) bs := by
  subst hn
  refine ⟨_, c, rfl, fun _ => ⟨_, rfl, fun j u hj => ?_⟩⟩
  have hjl : j < bs.length := by simpa using (List.getElem?_eq_some_iff.1 hj).1
  rw [addr_add, h j hjl, ← hj]
  simp [List.getElem?_eq_getElem hjl, List.getD_eq_getElem?_getD]
theorem Lies.conv {w : World} {gb o n c : Nat} {bs : List Int} (h : Lies w gb o n bs) (hn : bs.length = n) : (convert 30 9 (.slice (some ⟨gb, o, none⟩) n c)).run Try.prog w = .ok (.string (strOfNums bs)) w :=
  run_convert_bytes_arg (P := Try.prog) w 30 5 Try.underlying30 Try.underlying5 gb o n c bs hn (fun j hj => h j hj) 9 Try.underlying9
theorem Frm.lies {w : World} {gb n c : Nat} {bs : List Int} (h : Frm w (.slice (some ⟨gb, 0, none⟩) n c) gb bs) (hn : bs.length = n) : Lies w gb 0 n bs := fun j hj => by
  have hj' : j < bs.length := by omega
  have := h.1.cells (g := gb) rfl j (.int .u8 (bs.getD j 0)) (by simp [List.getElem?_eq_getElem hj', List.getD_eq_getElem?_getD])
  rw [addr_add] at this
  exact this

def SpoilsRel (w0 : World) (I n : Nat) (u v : Value) (wr : World) : Prop := ∃ k : Nat, k ≤ n ∧ v = .int .i64 k ∧ u = .int .i64 (cnt I k) ∧ Upto (fun _ => False) w0 wr

set_option maxRecDepth 100000 in
set_option maxHeartbeats 1000000 in
theorem spoils_yes (gb o n c : Nat) (bs : List Int) (bit : Int) (w : World) (hlen : bs.length = n) (h0 : 0 < n) (h1 : n ≤ 1024) (hb8 : Bytes8 bs) (hc : Lies w gb o n bs) :
    Calls Try.prog 5 #[.slice (some ⟨gb, o, none⟩) n c, .int .i64 bit] w (Ret (.bool true) w) := by
  obtain ⟨I, hI⟩ : ∃ I, spI bs bit = I := ⟨_, rfl⟩
  have hIn : I < n := by rw [← hI, ← hlen]; exact spI_lt bit (by omega)
  obtain ⟨b', hb'⟩ : ∃ b', spoilB bs bit = b' := ⟨_, rfl⟩
  obtain ⟨P, hP⟩ : ∃ P : Int, 2 ^ spP bs bit = P := ⟨_, rfl⟩
  have hPlo := pow_lo bs bit
  have hPand := pow_and bs bit
  obtain ⟨k1, k2, k3⟩ := spoil_at bs bit (by omega) hb8
  have k4 := spoil_ne bs bit
  have hl' : b'.length = n := by rw [← hb', spoilB_len, hlen]
  rw [hP] at hPlo hPand k2
  rw [hI] at k1 k2 k4
  rw [hb'] at k1 k2 k3 k4
  have hok : sendOk [] bs = true := by unfold sendOk; simp; omega
  have hs0 : sendP (fun _ => []) true bs = two [bs] [] := by rw [sd0, if_pos hok]
  have es0 := sp0 bs bs bit
  have es1 := sp1 b' bs bit
  have es2 := sp1 b' b' bit
  rw [hb'] at es0 es1
  rw [k3] at es2
  have Hok := Lib.hid hok
  have Hs0 := Lib.hid hs0
  have Es0 := Lib.hid es0
  have Es1 := Lib.hid es1
  have Es2 := Lib.hid es2
  have Hlen := Lib.hid hlen
  have Hl' := Lib.hid hl'
  have K1 := Lib.hid k1
  have K2 := Lib.hid k2
  have K4 := Lib.hid k4
  have HPand := Lib.hid hPand
  have Hc := Lib.hid hc
  clear hok hs0 es0 es1 es2 hlen hl' k1 k2 k3 k4 hPand hc hP hI hb' hb8
  obtain ⟨p1, p2⟩ := hPlo
  have x0 : ¬ n = 0 := by omega
  have x1 : decide ((1024 : Int) < (n : Int)) = false := by simp; omega
  go_enter Try.func5, Try.ntmps5
  go_wp2_with (first
    | (go_at_call 8; refine (awake_ok _).mono ?_; rintro e w1 ⟨rfl, hb⟩; have C1 := Lib.hid (Hc.out.below hb); have L1 := Lib.hid (link_made w1); have S1 := Lib.hid (Since.made w1 (.cells #[.slice none 0 0, .slice none 0 0] 28)))
    | (go_at_call 9; refine Calls.mono (send_is w1.heap.size (fun _ => []) _ true _ bs _ L1.out ((C1.out.upto S1.out.1).bytes Hlen.out) true (two [bs] []) Hok.out Hs0.out) ?_; rintro e w2 ⟨rfl, F2, h2, U2, G2⟩; have C2 := Lib.hid (C1.out.upto (S1.out.step U2 G2).1); have S2 := Lib.hid (S1.out.step U2 G2); have L2 := Lib.hid h2; clear h2 U2 G2)
    | (go_at_call 14; refine Calls.mono (twice_to w1.heap.size (two [bs] []) F2 _ L2.out 0 (by decide) _ (tw1 bs)) ?_; rintro e w3 ⟨rfl, F3, h3, U3, G3⟩; have S3 := Lib.hid (S2.out.step U3 G3); have L3 := Lib.hid h3; clear h3 U3 G3)
    | (go_at_call 15; have hx := S6; refine Calls.mono (spoil_is w1.heap.size (two [b', bs] []) F6 _ L6.out 2 bit (by decide) false _ (dr2 _ _) (sp2 _ _ _)) ?_; rintro e w7 ⟨rfl, F7, h7, U7, G7⟩; have S7 := Lib.hid (S6.out.step U7 G7); have L7 := Lib.hid h7; clear h7 U7 G7)
    | (go_at_call 15; have hx := S5; refine Calls.mono (spoil_is w1.heap.size (two [b', b'] []) F5 _ L5.out 1 bit (by decide) true _ (dr1 _ _) Es2.out) ?_; rintro e w6 ⟨rfl, F6, h6, U6, G6⟩; have S6 := Lib.hid (S5.out.step U6 G6); have L6 := Lib.hid h6; clear h6 U6 G6)
    | (go_at_call 15; have hx := S4; refine Calls.mono (spoil_is w1.heap.size (two [b', bs] []) F4 _ L4.out 1 bit (by decide) true _ (dr1 _ _) Es1.out) ?_; rintro e w5 ⟨rfl, F5, h5, U5, G5⟩; have S5 := Lib.hid (S4.out.step U5 G5); have L5 := Lib.hid h5; clear h5 U5 G5)
    | (go_at_call 15; refine Calls.mono (spoil_is w1.heap.size (two [bs, bs] []) F3 _ L3.out 0 bit (by decide) true _ (dr0 _ _) Es0.out) ?_; rintro e w4 ⟨rfl, F4, h4, U4, G4⟩; have S4 := Lib.hid (S3.out.step U4 G4); have L4 := Lib.hid h4; clear h4 U4 G4)
    | (go_at_call 10; have hx := S8; refine Calls.mono (take_is w1.heap.size (two [bs] []) F8 _ L8.out true 0 bs _ rfl (tk0 _ _)) ?_; rintro e w9 ⟨go2, c2, rfl, hF2, _, _, FG2, F9, h9, U9, G9⟩; rw [Hlen.out] at hF2 ⊢; have S9 := Lib.hid (S8.out.step U9 G9); have O9 := Lib.hid (O8.out.upto U9 (NF8.out)); have T9 := Lib.hid hF2; have q1 := hF2.conv Hlen.out; have q2 := (C1.out.upto S9.out.1).conv (c := c) Hlen.out; clear h9 U9 G9 hF2)
    | (go_at_call 10; refine Calls.mono (take_is w1.heap.size (two [b', bs] []) F7 _ L7.out true 0 b' _ rfl (tk0 _ _)) ?_; rintro e w8 ⟨go1, c1, rfl, hF1, _, _, FG1, F8, h8, U8, G8⟩; rw [Hl'.out] at hF1 ⊢; have S8 := Lib.hid (S7.out.step U8 G8); have L8 := Lib.hid h8; have O8 := Lib.hid hF1; have NF8 := Lib.hid (show ¬ F8 go1 from fun h => by rcases G8 _ h with h' | h'; exact h'.2 rfl; have := S7.out.2 go1 FG1; omega); clear h8 U8 G8 hF1))
  go_loopw [11, 12] (fun u v wr => SpoilsRel w9 I n u v wr) (fun _ v _ => n - (intOf v).toNat)
  case atStart => exact ⟨0, Nat.zero_le _, rfl, rfl, Upto.refl _ _⟩
  case round =>
    obtain ⟨k, hk, rfl, rfl, hU⟩ := hrel
    have cn := cnt_next I k
    have cb : 0 ≤ cnt I k ∧ cnt I k ≤ 1 := by unfold cnt; split <;> omega
    obtain ⟨cb1, cb2⟩ := cb
    by_cases hlt : k < n
    · have e1 : wr.cell? ⟨go1, k, none⟩ = some (.int .u8 (b'.getD k 0)) := by
        have := (O9.out.lies Hl'.out).upto hU k hlt
        rw [Nat.zero_add] at this
        exact this
      have e2 : wr.cell? ⟨gb, o + k, none⟩ = some (.int .u8 (bs.getD k 0)) := ((C1.out.upto S9.out.1).upto hU) k hlt
      by_cases hkI : k = I
      · rw [if_pos hkI] at cn
        have K1' := K1.out
        have K2' := K2.out
        rw [← hkI] at K1' K2'
        obtain ⟨x, hx⟩ : ∃ x, b'.getD k 0 = x := ⟨_, rfl⟩
        obtain ⟨y, hy⟩ : ∃ y, bs.getD k 0 = y := ⟨_, rfl⟩
        rw [hx] at e1 K1' K2'
        rw [hy] at e2 K1' K2'
        have hpa := HPand.out
        have Cn := Lib.hid cn
        have HU := Lib.hid hU
        clear cn hU hx hy hkI
        go_wp2
        go_quiet (fail)
        go_wp2
        go_quiet (fail)
        go_wp2
        go_roundw
        case rel => exact ⟨k + 1, by omega, by go_num, by rw [Cn.out], HU.out.drewN _⟩
        case measure => simp [intOf]; omega
      · rw [if_neg hkI] at cn
        have e3 := K4.out k hkI
        rw [e3] at e1
        obtain ⟨y, hy⟩ : ∃ y, bs.getD k 0 = y := ⟨_, rfl⟩
        rw [hy] at e1 e2
        have Cn := Lib.hid cn
        have HU := Lib.hid hU
        clear cn hU hy e3 hkI
        go_wp2
        go_quiet (fail)
        go_wp2
        go_roundw
        case rel => exact ⟨k + 1, by omega, by go_num, by rw [Cn.out], HU.out.drewN _⟩
        case measure => simp [intOf]; omega
    · obtain rfl : n = k := by omega
      have hcn : cnt I n = 1 := by unfold cnt; rw [if_pos hIn]
      rw [hcn]
      go_wp2
      go_ret
      exact ⟨rfl, hb.trans ((S9.out.1.trans hU (fun _ h => .inl h)).toBelow hb.size (fun _ h => h.elim))⟩
end Go.Proofs.Ytomhnabgdbpoiaa
