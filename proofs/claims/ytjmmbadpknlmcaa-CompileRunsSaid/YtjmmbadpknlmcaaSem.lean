/- Plain laws on words and their halves; a condition's one form. No Go in sight. -/
import Derived.Test.YtjmmbadpknlmcaaRule
import Derived.Test.YtjmmbadpknlmcaaVm
import Derived.Test.YtjmmbadpknlmcaaCompA
section
namespace Go.Proofs.Ytjmmbadpknlmcaa
open Go.RowKit
set_option linter.unusedVariables false

def U64 (x : Int) : Prop := 0 ≤ x ∧ x < 18446744073709551616
def U32 (x : Int) : Prop := 0 ≤ x ∧ x < 4294967296
theorem lo_u32 (x : Int) : U32 (lo x) := ⟨Int.emod_nonneg _ (by decide), Int.emod_lt_of_pos _ (by decide)⟩
theorem hi_u32 (x : Int) : U32 (hi x) := ⟨Int.emod_nonneg _ (by decide), Int.emod_lt_of_pos _ (by decide)⟩
theorem and_le (x m : Int) (hx : U64 x) (hm : U64 m) : 0 ≤ bits .and .u64 x m ∧ bits .and .u64 x m ≤ m := by
  obtain ⟨hx, hx'⟩ := hx
  obtain ⟨hm, hm'⟩ := hm
  rw [u64_and x m hx hx' hm hm']
  have := Nat.and_le_right (n := x.toNat) (m := m.toNat)
  omega
theorem u32_and' (x m : Int) (hx : U32 x) (hm : U32 m) : bits .and .u32 x m = ((x.toNat &&& m.toNat : Nat) : Int) := by
  obtain ⟨hx, hx'⟩ := hx
  obtain ⟨hm, hm'⟩ := hm
  exact u32_and x m hx hx' hm hm'
theorem lo_and (x m : Int) (hx : U64 x) (hm : U64 m) : lo (bits .and .u64 x m) = bits .and .u32 (lo x) (lo m) := by
  rw [u32_and' _ _ (lo_u32 x) (lo_u32 m), u64_and x m hx.1 hx.2 hm.1 hm.2]
  unfold lo
  obtain ⟨a, rfl⟩ : ∃ a : Nat, x = a := ⟨x.toNat, by have := hx.1; omega⟩
  obtain ⟨b, rfl⟩ : ∃ b : Nat, m = b := ⟨m.toNat, by have := hm.1; omega⟩
  have e1 : ((a : Int) % 4294967296).toNat = a % 2 ^ 32 := by omega
  have e2 : ((b : Int) % 4294967296).toNat = b % 2 ^ 32 := by omega
  rw [e1, e2, ← Nat.and_mod_two_pow, Int.toNat_natCast, Int.toNat_natCast]
  omega
theorem hi_and (x m : Int) (hx : U64 x) (hm : U64 m) : hi (bits .and .u64 x m) = bits .and .u32 (hi x) (hi m) := by
  rw [u32_and' _ _ (hi_u32 x) (hi_u32 m), u64_and x m hx.1 hx.2 hm.1 hm.2]
  unfold hi
  have hx2 := hx.2
  have hm2 := hm.2
  obtain ⟨a, rfl⟩ : ∃ a : Nat, x = a := ⟨x.toNat, by have := hx.1; omega⟩
  obtain ⟨b, rfl⟩ : ∃ b : Nat, m = b := ⟨m.toNat, by have := hm.1; omega⟩
  have e1 : ((a : Int) / 4294967296 % 4294967296).toNat = a / 2 ^ 32 := by omega
  have e2 : ((b : Int) / 4294967296 % 4294967296).toNat = b / 2 ^ 32 := by omega
  have h := Nat.and_le_right (n := a) (m := b)
  rw [e1, e2, ← Nat.and_div_two_pow, Int.toNat_natCast, Int.toNat_natCast]
  omega
theorem and_full (x : Int) (hx : U32 x) : bits .and .u32 x 4294967295 = x := by
  rw [u32_and' x _ hx ⟨by decide, by decide⟩]
  have h := Nat.and_two_pow_sub_one_eq_mod x.toNat 32
  have e : (4294967295 : Int).toNat = 2 ^ 32 - 1 := by decide
  obtain ⟨h1, h2⟩ := hx
  rw [e, h]
  omega
theorem mask_bit (b i : Nat) (hb : b < 18446744073709551616) : (18446744073709551615 - b).testBit i = (decide (i < 64) && !b.testBit i) := by
  have h := Nat.testBit_two_pow_sub_succ (x := b) (n := 64) (by simpa using hb) i
  have e : 2 ^ 64 - (b + 1) = 18446744073709551615 - b := by omega
  rw [e] at h
  exact h

theorem nat_out (a b : Nat) (ha : a < 18446744073709551616) (hb : b < 18446744073709551616) : (a ||| b = b) ↔ (a &&& (18446744073709551615 - b) = 0) := by
  constructor
  · intro h
    apply Nat.eq_of_testBit_eq
    intro i
    rw [Nat.testBit_and, mask_bit b i hb, Nat.zero_testBit]
    have hi := congrArg (fun x => Nat.testBit x i) h
    simp only [Nat.testBit_or] at hi
    revert hi
    cases a.testBit i <;> cases b.testBit i <;> simp
  · intro h
    apply Nat.eq_of_testBit_eq
    intro i
    have hi := congrArg (fun x => Nat.testBit x i) h
    simp only [Nat.testBit_and, mask_bit b i hb, Nat.zero_testBit] at hi
    rw [Nat.testBit_or]
    by_cases hlt : i < 64
    · revert hi
      cases a.testBit i <;> cases b.testBit i <;> simp [hlt]
    · have : a.testBit i = false := Nat.testBit_lt_two_pow (Nat.lt_of_lt_of_le (by simpa using ha) (Nat.pow_le_pow_right (n := 2) (by decide) (show 64 ≤ i by omega)))
      rw [this, Bool.false_or]

theorem or_out (m v : Int) (hm : 0 ≤ m) (hv : 0 ≤ v) (hm' : m < 18446744073709551616) (hv' : v < 18446744073709551616) : (bits .or .u64 v m != m) = (bits .andNot .u64 v m != 0) := by
  rw [u64_or v m hv hv' hm hm', u64_andNot v m hv hv' hm hm']
  have h := nat_out v.toNat m.toNat (by omega) (by omega)
  rw [Bool.eq_iff_iff, bne_iff_ne, bne_iff_ne]
  refine not_congr ?_
  rw [show (((v.toNat ||| m.toNat : Nat) : Int) = m) ↔ (v.toNat ||| m.toNat = m.toNat) from by omega, h]
  omega
theorem and_out (x m v : Int) (hx : 0 ≤ x) (hx' : x < 18446744073709551616) (hm : 0 ≤ m) (hm' : m < 18446744073709551616) (hv : 0 ≤ v) (hv' : v < 18446744073709551616) (h : outB m v = true) : bits .and .u64 x m ≠ v := by
  intro he
  have ho := or_out m v hm hv hm' hv'
  have : (bits .or .u64 v m != m) = true := ho.trans h
  rw [u64_or v m hv hv' hm hm', bne_iff_ne] at this
  rw [u64_and x m hx hx' hm hm'] at he
  apply this
  have e : v.toNat = x.toNat &&& m.toNat := by omega
  rw [e]
  have e2 : (x.toNat &&& m.toNat) ||| m.toNat = m.toNat := by
    apply Nat.eq_of_testBit_eq
    intro i
    rw [Nat.testBit_or, Nat.testBit_and]
    cases x.toNat.testBit i <;> cases m.toNat.testBit i <;> rfl
  rw [e2]
  omega
/-- What a condition in one form tells. -/
def cmp3 (op y v : Int) : Bool := if op = 1 then y == v else if op = 5 then decide (v < y) else decide (v ≤ y)
theorem nf_is (o m v x : Int) (ho : 1 ≤ o ∧ o ≤ 6) (hx : U64 x) (hm : U64 m) (hv : U64 v) :
    match nf o m v with
    | none => cmpB o (bits .and .u64 x m) v = false
    | some none => cmpB o (bits .and .u64 x m) v = true
    | some (some p) => cmpB o (bits .and .u64 x m) v = (cmp3 p.2 (bits .and .u64 x m) v != p.1) := by
  obtain ⟨l0, l1⟩ := and_le x m hx hm
  have lo := and_out x m v hx.1 hx.2 hm.1 hm.2 hv.1 hv.2
  obtain ⟨v0, v1⟩ := hv
  generalize hy : bits .and .u64 x m = y at *
  have : o = 1 ∨ o = 2 ∨ o = 3 ∨ o = 4 ∨ o = 5 ∨ o = 6 := by omega
  rcases this with rfl | rfl | rfl | rfl | rfl | rfl
  · cases hq : outB m v with
    | true => have := lo hq; simp [nf, hq, cmpB, this]
    | false => simp [nf, hq, cmpB, cmp3]
  · cases hq : outB m v with
    | true => have := lo hq; simp [nf, hq, cmpB, this]
    | false => simp only [nf, hq, cmpB, cmp3]; simp; rw [Bool.eq_iff_iff]; simp
  · by_cases hz : v = 0
    · simp [nf, hz, cmpB]; omega
    · by_cases hq : m < v
      · simp [nf, hz, hq, cmpB]; omega
      · simp only [nf, hz, hq, cmpB, cmp3]; simp; rw [Bool.eq_iff_iff]; simp
  · by_cases hq : m ≤ v
    · simp [nf, hq, cmpB]; omega
    · simp only [nf, hq, cmpB, cmp3]; simp; rw [Bool.eq_iff_iff]; simp
  · by_cases hq : m ≤ v
    · simp [nf, hq, cmpB]; omega
    · simp [nf, hq, cmpB, cmp3]
  · by_cases hz : v = 0
    · simp [nf, hz, cmpB]; omega
    · by_cases hq : m < v
      · simp [nf, hz, hq, cmpB]; omega
      · simp [nf, hz, hq, cmpB, cmp3]
/-- A number is told by its halves. -/
theorem halves_eq (y v : Int) (hy : U64 y) (hv : U64 v) : (y = v) ↔ (hi y = hi v ∧ lo y = lo v) := by
  unfold hi lo
  obtain ⟨h1, h2⟩ := hy
  obtain ⟨h3, h4⟩ := hv
  omega
theorem halves_lt (y v : Int) (hy : U64 y) (hv : U64 v) : (v < y) ↔ (hi v < hi y ∨ (hi y = hi v ∧ lo v < lo y)) := by
  unfold hi lo
  obtain ⟨h1, h2⟩ := hy
  obtain ⟨h3, h4⟩ := hv
  omega
theorem halves_le (y v : Int) (hy : U64 y) (hv : U64 v) : (v ≤ y) ↔ (hi v < hi y ∨ (hi y = hi v ∧ lo v ≤ lo y)) := by
  unfold hi lo
  obtain ⟨h1, h2⟩ := hy
  obtain ⟨h3, h4⟩ := hv
  omega
end Go.Proofs.Ytjmmbadpknlmcaa
end
section
/- Plain laws: what a program of rules answers, and in how many steps. No Go in sight. -/
namespace Go.Proofs.Ytjmmbadpknlmcaa
open Go.RowKit
set_option linter.unusedVariables false

/-- Whatever the number is, the program answers ans, in so many steps at most. -/
def Lim (d : Dat) (l : List Ins) (ans : Int) (N : Nat) : Prop := ∀ a, ∃ n, n ≤ N ∧ Steps d l a ans n
theorem Lim.mono {d : Dat} {l : List Ins} {ans : Int} {N M : Nat} (h : Lim d l ans N) (hM : N ≤ M) : Lim d l ans M := fun a => by
  obtain ⟨n, h1, h2⟩ := h a
  exact ⟨n, by omega, h2⟩
theorem lim_ret (d : Dat) (v : Int) (r : List Ins) : Lim d (⟨6, 0, 0, v⟩ :: r) v 1 := fun a => ⟨1, Nat.le_refl _, .ret 0 0 v a r⟩
def Dat.arg (d : Dat) (a : Int) : Int := argI a d.x0 d.x1 d.x2 d.x3 d.x4 d.x5
theorem word_lo (d : Dat) (a : Int) (h0 : 0 ≤ a) (h5 : a ≤ 5) : d.word (16 + 8 * a) = lo (d.arg a) := by
  have : a = 0 ∨ a = 1 ∨ a = 2 ∨ a = 3 ∨ a = 4 ∨ a = 5 := by omega
  rcases this with rfl | rfl | rfl | rfl | rfl | rfl <;> rfl
theorem word_hi (d : Dat) (a : Int) (h0 : 0 ≤ a) (h5 : a ≤ 5) : d.word (16 + 8 * a + 4) = hi (d.arg a) := by
  have : a = 0 ∨ a = 1 ∨ a = 2 ∨ a = 3 ∨ a = 4 ∨ a = 5 := by omega
  rcases this with rfl | rfl | rfl | rfl | rfl | rfl <;> rfl
theorem ldl_go {d : Dat} {k m : Int} {R : List Ins} {ans : Int} {n : Nat} (hw : U32 (d.word k)) (h : Steps d R (bits .and .u32 (d.word k) m) ans n) (a0 : Int) : ∃ s, s ≤ 2 ∧ Steps d (loadL k m ++ R) a0 ans (n + s) := by
  unfold loadL
  split
  · rename_i hm
    subst hm
    rw [and_full _ hw] at h
    exact ⟨1, by omega, .ld h⟩
  · exact ⟨2, by omega, .ld (.and h)⟩
theorem jump_go {d : Dat} {op jt jf k a ans : Int} {R : List Ins} {n : Nat} (hs : Sound op) (h : Steps d (R.drop (if cmp3 op a k then jt else jf).toNat) a ans n) : Steps d (⟨codeOf op, jt, jf, k⟩ :: R) a ans (n + 1) := by
  rcases hs with rfl | rfl | rfl
  · exact .eq h
  · exact .gt h
  · exact .ge h
/-- The lower half's test. -/
theorem end_go {d : Dat} {no : Bool} {op m v a ans : Int} {els N : Nat} {R : List Ins} (hs : Sound op) (h0 : 0 ≤ a) (h5 : a ≤ 5) (hx : U64 (d.arg a)) (hm : U64 m)
    (h : Lim d (R.drop (if (cmp3 op (lo (bits .and .u64 (d.arg a) m)) (lo v) != no) = true then 0 else els)) ans N) : Lim d (endL no op m v a els ++ R) ans (N + 3) := fun a0 => by
  obtain ⟨n, hn, hg⟩ := h (lo (bits .and .u64 (d.arg a) m))
  have e : bits .and .u32 (d.word (16 + 8 * a)) (lo m) = lo (bits .and .u64 (d.arg a) m) := by rw [word_lo d a h0 h5, lo_and _ _ hx hm]
  have hw : U32 (d.word (16 + 8 * a)) := by rw [word_lo d a h0 h5]; exact lo_u32 _
  have hj : Steps d ([if no then ⟨codeOf op, els, 0, lo v⟩ else ⟨codeOf op, 0, els, lo v⟩] ++ R) (bits .and .u32 (d.word (16 + 8 * a)) (lo m)) ans (n + 1) := by
    rw [e]
    cases no
    · refine jump_go hs ?_
      revert hg
      cases cmp3 op (lo (bits .and .u64 (d.arg a) m)) (lo v) <;> simp
    · refine jump_go hs ?_
      revert hg
      cases cmp3 op (lo (bits .and .u64 (d.arg a) m)) (lo v) <;> simp
  obtain ⟨s, hs1, hs2⟩ := ldl_go hw hj a0
  unfold endL
  rw [List.append_assoc]
  exact ⟨_, by omega, hs2⟩
theorem endL_len (no : Bool) (op m v a els : Int) : ((endL no op m v a els).length : Int) = yesI m a := by
  unfold endL yesI
  rw [List.length_append, List.length_singleton]
  omega
theorem drop_yes {m a : Int} {E R : List Ins} (hE : (E.length : Int) = yesI m a) (els : Nat) : (E ++ R).drop (yesI m a + els).toNat = R.drop els := by
  have : (yesI m a + els).toNat = E.length + els := by omega
  rw [this, List.drop_append]
  simp
theorem test_go {d : Dat} {no : Bool} {op m v a ans : Int} {els N : Nat} {R : List Ins} (hs : Sound op) (h0 : 0 ≤ a) (h5 : a ≤ 5) (hx : U64 (d.arg a)) (hm : U64 m) (hv : U64 v)
    (h : Lim d (R.drop (if (cmp3 op (bits .and .u64 (d.arg a) m) v != no) = true then 0 else els)) ans N) : Lim d (testL no op m v a els ++ R) ans (N + 7) := fun a0 => by
  have hy := and_le _ _ hx hm
  have hyU : U64 (bits .and .u64 (d.arg a) m) := ⟨hy.1, by have := hm.2; omega⟩
  have el : bits .and .u32 (d.word (16 + 8 * a + 4)) (hi m) = hi (bits .and .u64 (d.arg a) m) := by rw [word_hi d a h0 h5, hi_and _ _ hx hm]
  have hw : U32 (d.word (16 + 8 * a + 4)) := by rw [word_hi d a h0 h5]; exact hi_u32 _
  have hend := end_go (d := d) (no := no) (op := op) (m := m) (v := v) (a := a) (ans := ans) (els := els) (N := N) (R := R) hs h0 h5 hx hm
  have q1 := halves_eq _ v hyU hv
  have q2 := halves_lt _ v hyU hv
  have q3 := halves_le _ v hyU hv
  have q4 := halves_lt v _ hv hyU
  obtain ⟨y, hyy⟩ : ∃ y, bits .and .u64 (d.arg a) m = y := ⟨_, rfl⟩
  rw [hyy] at h el hend q1 q2 q3 q4
  obtain ⟨E, hE⟩ : ∃ E, endL no op m v a els = E := ⟨_, rfl⟩
  have hEl : (E.length : Int) = yesI m a := by rw [← hE]; exact endL_len ..
  rw [hE] at hend
  have hd := drop_yes (R := R) hEl
  have hyes : 0 ≤ yesI m a := by omega
  -- where the last jump of the upper half leads
  have hJ : (¬ (op ≠ 1 ∧ hi v < hi y)) → ∃ n, n ≤ N + 4 ∧ Steps d (⟨21, 0, if no then yesI m a else yesI m a + els, hi v⟩ :: (E ++ R)) (hi y) ans n := fun hno => by
    by_cases hq : hi y = hi v
    · have hc : cmp3 op (lo y) (lo v) = cmp3 op y v := by
        rw [Bool.eq_iff_iff]
        rcases hs with rfl | rfl | rfl
        · simp only [cmp3, if_true, beq_iff_eq]; omega
        · simp [cmp3]; omega
        · simp [cmp3]; omega
      obtain ⟨n, hn, hg⟩ := hend (by rw [hc]; exact h) (hi y)
      refine ⟨n + 1, by omega, .eq ?_⟩
      rw [hq]
      simp only [BEq.rfl, if_true]
      rw [hq] at hg
      exact hg
    · have hc : cmp3 op y v = false := by
        rcases hs with rfl | rfl | rfl
        · simp only [cmp3, if_true, beq_eq_false_iff_ne]; omega
        · simp [cmp3]; omega
        · simp [cmp3]; omega
      obtain ⟨n, hn, hg⟩ := h (hi y)
      refine ⟨n + 1, by omega, .eq ?_⟩
      rw [show (hi y == hi v) = false from by simpa using hq]
      rw [hc] at hg
      cases no
      · simp only [Bool.false_eq_true, if_false]
        rw [hd]
        simpa using hg
      · simp only [Bool.false_eq_true, if_false, if_true]
        have := hd 0
        simp only [Int.natCast_zero, Int.add_zero] at this
        rw [this]
        simpa using hg
  unfold testL topL
  rw [hE]
  by_cases h1 : op = 1
  · subst h1
    obtain ⟨n, hn, hg⟩ := hJ (by simp)
    rw [← el] at hg
    obtain ⟨s, hs1, hs2⟩ := ldl_go hw hg a0
    rw [if_pos rfl]
    simp only [List.append_nil, List.append_assoc]
    exact ⟨_, by omega, hs2⟩
  · rw [if_neg h1]
    have hK : ∃ n, n ≤ N + 5 ∧ Steps d (⟨37, (if no then yesI m a + els else yesI m a) + 1, 0, hi v⟩ :: ⟨21, 0, if no then yesI m a else yesI m a + els, hi v⟩ :: (E ++ R)) (hi y) ans n := by
      by_cases hq : hi v < hi y
      · have hc : cmp3 op y v = true := by
          rcases hs with rfl | rfl | rfl
          · exact absurd rfl h1
          · simp [cmp3]; omega
          · simp [cmp3]; omega
        obtain ⟨n, hn, hg⟩ := h (hi y)
        refine ⟨n + 1, by omega, .gt ?_⟩
        rw [show decide (hi v < hi y) = true from by simpa using hq]
        rw [hc] at hg
        simp only [if_true]
        cases no
        · simp only [Bool.false_eq_true, if_false]
          rw [show (yesI m a + 1).toNat = (yesI m a).toNat + 1 by omega, List.drop_succ_cons]
          have := hd 0
          simp only [Int.natCast_zero, Int.add_zero] at this
          rw [this]
          simpa using hg
        · simp only [if_true]
          rw [show (yesI m a + els + 1).toNat = (yesI m a + els).toNat + 1 by omega, List.drop_succ_cons, hd]
          simpa using hg
      · obtain ⟨n, hn, hg⟩ := hJ (by omega)
        refine ⟨n + 1, by omega, .gt ?_⟩
        rw [show decide (hi v < hi y) = false from by simpa using hq]
        simpa using hg
    obtain ⟨n, hn, hg⟩ := hK
    rw [← el] at hg
    obtain ⟨s, hs1, hs2⟩ := ldl_go hw hg a0
    simp only [List.append_assoc, List.singleton_append, List.cons_append, List.nil_append]
    exact ⟨_, by omega, hs2⟩
end Go.Proofs.Ytjmmbadpknlmcaa
end
section
/- Plain laws: what a program of rules answers (rules, search, whole), and that its instructions are fine. No Go in sight. -/
namespace Go.Proofs.Ytjmmbadpknlmcaa
open Go.RowKit
set_option linter.unusedVariables false

def holdsD (d : Dat) (c : Cnd) : Bool := holdsC d.x0 d.x1 d.x2 d.x3 d.x4 d.x5 c
/-- The numbers of a call are of their kinds. -/
def WfD (d : Dat) : Prop := U32 d.nr ∧ U32 d.ar ∧ ∀ a, U64 (d.arg a)
def FitC (cs : List Cnd) : Prop := ∀ c ∈ cs, rightB c.a c.o = true ∧ WfC c
theorem rule_go {d : Dat} (hd : WfD d) (k a : Int) : ∀ cs, FitC cs → (ruleF k a cs = none → cs.all (holdsD d) = false) ∧ ∀ l, ruleF k a cs = some l →
    (cs.all (holdsD d) = true → ∀ R, Lim d (l ++ R) (valV k a) (7 * cs.length + 1)) ∧ (cs.all (holdsD d) = false → ∀ R ans N, Lim d R ans N → Lim d (l ++ R) ans (N + 7 * cs.length))
  | [], _ => ⟨fun h => by simp [ruleF] at h, fun l hl => by
      simp [ruleF] at hl
      subst hl
      exact ⟨fun _ R => lim_ret d _ R, fun h => by simp at h⟩⟩
  | c :: cs, hf => by
    obtain ⟨ih1, ih2⟩ := rule_go hd k a cs (fun c' hc' => hf c' (List.mem_cons_of_mem _ hc'))
    obtain ⟨hr, hm1, hm2, hv1, hv2⟩ := hf c (List.mem_cons_self ..)
    have hR : 0 ≤ c.a ∧ c.a ≤ 5 ∧ 1 ≤ c.o ∧ c.o ≤ 6 := by simpa [rightB] using hr
    have hn := nf_is c.o c.m c.v (d.arg c.a) ⟨hR.2.2.1, hR.2.2.2⟩ (hd.2.2 c.a) ⟨hm1, hm2⟩ ⟨hv1, hv2⟩
    have hh : holdsD d c = cmpB c.o (bits .and .u64 (d.arg c.a) c.m) c.v := by
      unfold holdsD holdsC
      rw [hr, Bool.true_and]
      rfl
    rw [← hh] at hn
    have hF : ruleF k a (c :: cs) = (ruleF k a cs).bind (ruleStep c) := rfl
    rw [hF]
    cases hl0 : ruleF k a cs with
    | none => exact ⟨fun _ => by rw [List.all_cons, ih1 hl0, Bool.and_false], fun l hl => by cases hl⟩
    | some l0 =>
      obtain ⟨i1, i2⟩ := ih2 l0 hl0
      rw [Option.bind_some]
      unfold ruleStep
      cases hnf : nf c.o c.m c.v with
      | none =>
        rw [hnf] at hn
        exact ⟨fun _ => by rw [List.all_cons, hn, Bool.false_and], fun l hl => by cases hl⟩
      | some f =>
        rw [hnf] at hn
        cases f with
        | none =>
          have hn : holdsD d c = true := hn
          refine ⟨fun h => (by cases h), fun l hl => ?_⟩
          cases hl
          rw [List.all_cons, hn, Bool.true_and, List.length_cons]
          exact ⟨fun h R => (i1 h R).mono (by omega), fun h R ans N hL => (i2 h R ans N hL).mono (by omega)⟩
        | some p =>
          have hs := nf_sound hnf
          refine ⟨fun h => (by cases h), fun l hl => ?_⟩
          cases hl
          have hn : holdsD d c = (cmp3 p.2 (bits .and .u64 (d.arg c.a) c.m) c.v != p.1) := hn
          rw [List.all_cons, List.length_cons]
          refine ⟨fun h R => ?_, fun h R ans N hL => ?_⟩
          · rw [Bool.and_eq_true] at h
            rw [List.append_assoc]
            refine (test_go hs hR.1 hR.2.1 (hd.2.2 c.a) ⟨hm1, hm2⟩ ⟨hv1, hv2⟩ (N := 7 * cs.length + 1) ?_).mono (by omega)
            rw [← hn, h.1]
            exact i1 h.2 R
          · rw [List.append_assoc]
            refine (test_go hs hR.1 hR.2.1 (hd.2.2 c.a) ⟨hm1, hm2⟩ ⟨hv1, hv2⟩ (N := N + 7 * cs.length) ?_).mono (by omega)
            rw [← hn]
            cases hc : holdsD d c with
            | false =>
              rw [if_neg (by decide), List.drop_left]
              exact hL.mono (by omega)
            | true =>
              rw [hc, Bool.true_and] at h
              exact i2 h R ans N hL
theorem rule_yes {d : Dat} (hd : WfD d) {k a : Int} {cs : List Cnd} (hf : FitC cs) (h : cs.all (holdsD d) = true) (R : List Ins) : Lim d (ruleL k a cs ++ R) (valV k a) (7 * cs.length + 1) := by
  obtain ⟨h1, h2⟩ := rule_go hd k a cs hf
  unfold ruleL
  cases hl : ruleF k a cs with
  | none => rw [h1 hl] at h; cases h
  | some l => exact (h2 l hl).1 h R
theorem rule_no {d : Dat} (hd : WfD d) {k a : Int} {cs : List Cnd} (hf : FitC cs) (h : cs.all (holdsD d) = false) {R : List Ins} {ans : Int} {N : Nat} (hL : Lim d R ans N) : Lim d (ruleL k a cs ++ R) ans (N + 7 * cs.length) := by
  obtain ⟨h1, h2⟩ := rule_go hd k a cs hf
  unfold ruleL
  cases hl : ruleF k a cs with
  | none => exact hL.mono (by omega)
  | some l => exact (h2 l hl).2 h R ans N hL
theorem namesL_cons (r : Rul) (nm s : ByteArray) (t : List ByteArray) : namesL' r nm (s :: t) = (if s = nm then ruleL r.k r.a r.cs else []) ++ namesL' r nm t := rfl
theorem names_none (r : Rul) (nm : ByteArray) : ∀ ns, nm ∉ ns → namesL' r nm ns = []
  | [], _ => rfl
  | s :: t, h => by
    rw [namesL_cons, if_neg (fun e => h (by rw [e]; exact List.mem_cons_self ..)), List.nil_append]
    exact names_none r nm t (fun h' => h (List.mem_cons_of_mem _ h'))
/-- A rule whose names hold each name once: the name's leaf has it once. -/
theorem names_once (r : Rul) (nm : ByteArray) : ∀ ns, ns.Nodup → nm ∈ ns → namesL' r nm ns = ruleL r.k r.a r.cs
  | s :: t, hn, h => by
    rw [namesL_cons]
    have hn' := List.nodup_cons.1 hn
    by_cases e : s = nm
    · subst e
      rw [if_pos rfl, names_none r s t hn'.1, List.append_nil]
    · rw [if_neg e, List.nil_append]
      exact names_once r nm t hn'.2 (by rcases List.mem_cons.1 h with h | h; exact absurd h.symm e; exact h)
def hasN (nm : ByteArray) (ns : List ByteArray) : Bool := ns.any fun t => decide (t = nm)
theorem hasN_iff {nm : ByteArray} {ns : List ByteArray} : hasN nm ns = true ↔ nm ∈ ns := by
  unfold hasN
  rw [List.any_eq_true]
  constructor
  · rintro ⟨x, hx, he⟩
    rw [decide_eq_true_eq] at he
    rw [← he]; exact hx
  · intro h
    exact ⟨_, h, by simp⟩
/-- How much the rules cost that speak of a name. -/
def costL (nm : ByteArray) (L : List Rul) : Nat := (L.map fun r => if hasN nm r.ns then 7 * r.cs.length + 1 else 0).sum
def meetsD (d : Dat) (r : Rul) : Bool := meetsB d.nr d.x0 d.x1 d.x2 d.x3 d.x4 d.x5 r
def decD (d : Dat) (k a : Int) : List Rul → Int × Int
  | [] => (k, a)
  | r :: L => if meetsD d r then (r.k, r.a) else decD d k a L
theorem meets_is {d : Dat} (hn : (nameV d.nr).2 = true) (r : Rul) : meetsD d r = (hasN (nameV d.nr).1 r.ns && r.cs.all (holdsD d)) := by
  have e : spokenB r.ns d.nr = hasN (nameV d.nr).1 r.ns := by rw [spokenB_eq, hn, Bool.true_and]; rfl
  unfold meetsD meetsB
  rw [e]
  rfl
theorem rules_go {d : Dat} (hd : WfD d) (hn : (nameV d.nr).2 = true) (k a : Int) (R : List Ins) : ∀ L, (∀ r ∈ L, FitC r.cs ∧ r.ns.Nodup) → Lim d (rulesL (nameV d.nr).1 L ++ (⟨6, 0, 0, valV k a⟩ :: R)) (valV (decD d k a L).1 (decD d k a L).2) (costL (nameV d.nr).1 L + 1)
  | [], _ => (lim_ret d _ R).mono (by omega)
  | r :: L, hL => by
    have ih := rules_go hd hn k a R L (fun x hx => hL x (List.mem_cons_of_mem _ hx))
    obtain ⟨hf, hnd⟩ := hL r (List.mem_cons_self ..)
    have e1 : rulesL (nameV d.nr).1 (r :: L) = namesL' r (nameV d.nr).1 r.ns ++ rulesL (nameV d.nr).1 L := rfl
    have e2 : costL (nameV d.nr).1 (r :: L) = (if hasN (nameV d.nr).1 r.ns then 7 * r.cs.length + 1 else 0) + costL (nameV d.nr).1 L := rfl
    have e3 : decD d k a (r :: L) = if meetsD d r then (r.k, r.a) else decD d k a L := rfl
    rw [e1, e2, e3, meets_is hn, List.append_assoc]
    cases hm : hasN (nameV d.nr).1 r.ns with
    | true =>
      rw [names_once r _ r.ns hnd (hasN_iff.1 hm), if_pos rfl, Bool.true_and]
      cases hall : r.cs.all (holdsD d) with
      | true =>
        rw [if_pos rfl]
        exact (rule_yes hd hf hall _).mono (by omega)
      | false =>
        rw [if_neg (by decide)]
        exact (rule_no hd hf hall ih).mono (by omega)
    | false =>
      rw [names_none r _ r.ns (fun h => by rw [hasN_iff.2 h] at hm; cases hm), List.nil_append, Bool.false_and, if_neg (by decide)]
      exact ih.mono (by omega)
/-! ### The search -/
theorem leaf_yes {d : Dat} {nr ans : Int} {b R : List Ins} {N : Nat} (h : Lim d (b ++ R) ans N) : ∃ n, n ≤ N + 1 ∧ Steps d (leafL nr b ++ R) nr ans n := by
  obtain ⟨n, hn, hg⟩ := h nr
  refine ⟨n + 1, by omega, .eq ?_⟩
  simpa using hg
theorem leaf_no {d : Dat} {nr x v : Int} {b R : List Ins} (hx : x ≠ nr) : ∃ n, n ≤ 3 ∧ Steps d (leafL nr (b ++ [⟨6, 0, 0, v⟩]) ++ R) x v n := by
  refine ⟨3, Nat.le_refl _, .eq ?_⟩
  rw [show (x == nr) = false from by simpa using hx]
  refine .ja ?_
  have e : ((((b ++ [⟨6, 0, 0, v⟩] : List Ins).length : Nat) : Int) - 1).toNat = b.length := by rw [List.length_append, List.length_singleton]; omega
  rw [e]
  have e2 : (b ++ [⟨6, 0, 0, v⟩] ++ R : List Ins).drop b.length = ⟨6, 0, 0, v⟩ :: R := by rw [List.append_assoc, List.drop_left]; rfl
  show Steps d ((b ++ [⟨6, 0, 0, v⟩] ++ R : List Ins).drop b.length) x v 1
  rw [e2]
  exact .ret 0 0 v x R
theorem part_go {d : Dat} {nrs : List Int} {bs : List (List Ins)} (hs : nrs.Pairwise (· < ·)) (x ans : Int) (i N : Nat) (hi : nrs[i]? = some x) (hb : ∀ R, Lim d (bs.getD i [] ++ R) ans N) :
    ∀ q lo hi', lo ≤ i → i < hi' → hi' ≤ nrs.length → hi' - lo ≤ 2 ^ q → ∀ R, ∃ n, n ≤ N + 1 + 2 * q ∧ Steps d (partL nrs bs lo hi' ++ R) x ans n := by
  have hil := (List.getElem?_eq_some_iff.1 hi).1
  have hix := (List.getElem?_eq_some_iff.1 hi).2
  intro q
  induction q with
  | zero =>
    intro lo hi' h1 h2 h3 h4 R
    obtain rfl : lo = i := by simp at h4; omega
    rw [partL_one (by simpa using h4), List.getD_eq_getElem?_getD (l := nrs), hi]
    exact leaf_yes (hb R)
  | succ q ih =>
    intro lo hi' h1 h2 h3 h4 R
    by_cases hle : hi' - lo ≤ 1
    · obtain rfl : lo = i := by omega
      rw [partL_one hle, List.getD_eq_getElem?_getD (l := nrs), hi]
      obtain ⟨n, hn, hg⟩ := leaf_yes (nr := x) (hb R)
      exact ⟨n, by omega, hg⟩
    · obtain ⟨m, hm⟩ : ∃ m, m = lo + (hi' - lo) / 2 := ⟨_, rfl⟩
      rw [partL_two hle hm]
      have hp : 2 ^ (q + 1) = 2 * 2 ^ q := by rw [Nat.pow_succ]; omega
      have hml : m < nrs.length := by omega
      have hgd : nrs.getD m 0 = nrs[m] := by rw [List.getD_eq_getElem?_getD, List.getElem?_eq_getElem hml]; rfl
      rw [hgd, List.append_assoc, List.append_assoc]
      by_cases hmi : m ≤ i
      · have hge : nrs[m] ≤ x := by
          rcases Nat.lt_or_eq_of_le hmi with h | h
          · have := (List.pairwise_iff_getElem.1 hs) m i hml hil h; omega
          · subst h; omega
        obtain ⟨n, hn, hg⟩ := ih m hi' hmi h2 h3 (by omega) R
        refine ⟨n + 2, by omega, .ge ?_⟩
        rw [show decide (nrs[m] ≤ x) = true from by simpa using hge]
        refine .ja ?_
        show Steps d ((partL nrs bs lo m ++ (partL nrs bs m hi' ++ R)).drop _) x ans n
        rw [Int.toNat_natCast, List.drop_left]
        exact hg
      · have hlt : ¬ nrs[m] ≤ x := by
          have := (List.pairwise_iff_getElem.1 hs) i m hil hml (by omega); omega
        obtain ⟨n, hn, hg⟩ := ih lo m h1 (by omega) (by omega) (by omega) (partL nrs bs m hi' ++ R)
        refine ⟨n + 1, by omega, .ge ?_⟩
        rw [show decide (nrs[m] ≤ x) = false from by simpa using hlt]
        exact hg
theorem part_not {d : Dat} {nrs : List Int} {bs : List (List Ins)} (x v : Int) (hx : x ∉ nrs) (hb : ∀ i, i < nrs.length → ∃ b, bs.getD i [] = b ++ [⟨6, 0, 0, v⟩]) :
    ∀ q lo hi', lo < hi' → hi' ≤ nrs.length → hi' - lo ≤ 2 ^ q → ∀ R, ∃ n, n ≤ 3 + 2 * q ∧ Steps d (partL nrs bs lo hi' ++ R) x v n := by
  have hleaf : ∀ lo, lo < nrs.length → ∀ R, ∃ n, n ≤ 3 ∧ Steps d (leafL (nrs.getD lo 0) (bs.getD lo []) ++ R) x v n := fun lo hlo R => by
    obtain ⟨b, hb'⟩ := hb lo hlo
    rw [hb']
    refine leaf_no (fun e => hx ?_)
    rw [e, List.getD_eq_getElem?_getD, List.getElem?_eq_getElem hlo]
    exact List.getElem_mem hlo
  intro q
  induction q with
  | zero =>
    intro lo hi' h2 h3 h4 R
    rw [partL_one (by simpa using h4)]
    exact hleaf lo (by omega) R
  | succ q ih =>
    intro lo hi' h2 h3 h4 R
    by_cases hle : hi' - lo ≤ 1
    · rw [partL_one hle]
      obtain ⟨n, hn, hg⟩ := hleaf lo (by omega) R
      exact ⟨n, by omega, hg⟩
    · obtain ⟨m, hm⟩ : ∃ m, m = lo + (hi' - lo) / 2 := ⟨_, rfl⟩
      rw [partL_two hle hm]
      have hp : 2 ^ (q + 1) = 2 * 2 ^ q := by rw [Nat.pow_succ]; omega
      rw [List.append_assoc, List.append_assoc]
      by_cases hge : nrs.getD m 0 ≤ x
      · obtain ⟨n, hn, hg⟩ := ih m hi' (by omega) h3 (by omega) R
        refine ⟨n + 2, by omega, .ge ?_⟩
        rw [show decide (nrs.getD m 0 ≤ x) = true from by simpa using hge]
        refine .ja ?_
        show Steps d ((partL nrs bs lo m ++ (partL nrs bs m hi' ++ R)).drop _) x v n
        rw [Int.toNat_natCast, List.drop_left]
        exact hg
      · obtain ⟨n, hn, hg⟩ := ih lo m (by omega) (by omega) (by omega) (partL nrs bs m hi' ++ R)
        refine ⟨n + 1, by omega, .ge ?_⟩
        rw [show decide (nrs.getD m 0 ≤ x) = false from by simpa using hge]
        exact hg
end Go.Proofs.Ytjmmbadpknlmcaa
end
section
/- Plain laws: the whole program; its instructions are fine; how long it is. No Go in sight. -/
namespace Go.Proofs.Ytjmmbadpknlmcaa
open Go.RowKit
set_option linter.unusedVariables false

def ansD (d : Dat) (k a : Int) (L : List Rul) : Int := if d.ar = 3221225534 then valV (decD d k a L).1 (decD d k a L).2 else valV 1 0
def mostD (d : Dat) (L : List Rul) : Nat := 64 + (L.map fun r => if spokenB r.ns d.nr then 2 + 20 * r.cs.length else 0).sum
theorem nums_up (L : List Rul) : (numsV L).Pairwise (· < ·) := List.Pairwise.filter _ allN_up
theorem known_name {x : Int} (h : x ∈ allN) : (nameV x).2 = true := by
  obtain ⟨p, hp, rfl⟩ := List.mem_map.1 h
  rw [name_of_known p hp]
theorem dec_none {d : Dat} (k a : Int) : ∀ L : List Rul, spkL L d.nr = false → decD d k a L = (k, a)
  | [], _ => rfl
  | r :: L, h => by
    have h' : (spokenB r.ns d.nr || spkL L d.nr) = false := h
    rw [Bool.or_eq_false_iff] at h'
    have e : meetsD d r = false := by unfold meetsD meetsB; rw [h'.1, Bool.false_and]
    show (if meetsD d r then (r.k, r.a) else decD d k a L) = (k, a)
    rw [e, if_neg (by decide)]
    exact dec_none k a L h'.2
theorem cost_most {d : Dat} (hn : (nameV d.nr).2 = true) : ∀ L : List Rul, costL (nameV d.nr).1 L + 64 ≤ mostD d L
  | [] => Nat.le_refl _
  | r :: L => by
    have ih := cost_most hn L
    have e1 : costL (nameV d.nr).1 (r :: L) = (if hasN (nameV d.nr).1 r.ns then 7 * r.cs.length + 1 else 0) + costL (nameV d.nr).1 L := rfl
    have e2 : mostD d (r :: L) = 64 + ((if spokenB r.ns d.nr then 2 + 20 * r.cs.length else 0) + (L.map fun r => if spokenB r.ns d.nr then 2 + 20 * r.cs.length else 0).sum) := rfl
    have e3 : spokenB r.ns d.nr = hasN (nameV d.nr).1 r.ns := by rw [spokenB_eq, hn, Bool.true_and]; rfl
    rw [e1, e2, e3]
    unfold mostD at ih
    split <;> omega
theorem body_at {k a : Int} {L : List Rul} {i : Nat} {nr : Int} (h : (numsV L)[i]? = some nr) : (bodiesL k a L).getD i [] = bodyL k a L nr := by
  unfold bodiesL
  rw [List.getD_eq_getElem?_getD, List.getElem?_map, h]
  rfl
theorem comp_go {d : Dat} (hd : WfD d) (k a : Int) (L : List Rul) (hL : ∀ r ∈ L, FitC r.cs ∧ r.ns.Nodup) : ∃ n, n ≤ mostD d L ∧ Steps d (compL k a L) 0 (ansD d k a L) n := by
  have hm64 : 64 ≤ mostD d L := Nat.le_add_right _ _
  have w4 : d.word 4 = d.ar := rfl
  have w0 : d.word 0 = d.nr := rfl
  -- behind the architecture
  have hrest : ∃ n, n + 3 ≤ mostD d L ∧ Steps d (if numsV L = [] then [⟨6, 0, 0, valV k a⟩] else partL (numsV L) (bodiesL k a L) 0 (numsV L).length) d.nr (valV (decD d k a L).1 (decD d k a L).2) n := by
    by_cases hin : d.nr ∈ numsV L
    · have hall : d.nr ∈ allN := (List.mem_filter.1 hin).1
      have hn := known_name hall
      rw [if_neg (List.ne_nil_of_mem hin)]
      obtain ⟨i, hi⟩ := List.getElem?_of_mem hin
      have h30 := numsV_len L
      obtain ⟨n, hn1, hn2⟩ := part_go (d := d) (nums_up L) d.nr (valV (decD d k a L).1 (decD d k a L).2) i (costL (nameV d.nr).1 L + 1) hi (bs := bodiesL k a L) (fun R => by
        rw [body_at hi]
        unfold bodyL
        rw [List.append_assoc]
        exact rules_go hd hn k a R L hL) 5 0 (numsV L).length (Nat.zero_le _) (List.getElem?_eq_some_iff.1 hi).1 (Nat.le_refl _) (by omega) []
      rw [List.append_nil] at hn2
      have := cost_most hn L
      exact ⟨n, by omega, hn2⟩
    · have hdec : decD d k a L = (k, a) := by
        apply dec_none
        cases hs : spkL L d.nr with
        | false => rfl
        | true => exact absurd (List.mem_filter.2 ⟨spk_all hs, hs⟩) hin
      rw [hdec]
      by_cases hnil : numsV L = []
      · rw [if_pos hnil]
        exact ⟨1, by omega, .ret 0 0 _ _ _⟩
      · rw [if_neg hnil]
        have h30 := numsV_len L
        obtain ⟨n, hn1, hn2⟩ := part_not (d := d) (nrs := numsV L) (bs := bodiesL k a L) d.nr (valV k a) hin (fun i hi => by
          obtain ⟨nr, hnr⟩ : ∃ nr, (numsV L)[i]? = some nr := ⟨_, List.getElem?_eq_getElem hi⟩
          rw [body_at hnr]
          exact ⟨_, rfl⟩) 5 0 (numsV L).length (List.length_pos_iff.2 hnil) (Nat.le_refl _) (by omega) []
        rw [List.append_nil] at hn2
        exact ⟨n, by omega, hn2⟩
  unfold ansD compL headL
  by_cases har : d.ar = 3221225534
  · rw [if_pos har]
    obtain ⟨n, hn1, hn2⟩ := hrest
    refine ⟨n + 1 + 1 + 1, by omega, .ld (.eq ?_)⟩
    rw [w4, har]
    refine .ld ?_
    rw [w0]
    exact hn2
  · rw [if_neg har]
    refine ⟨3, by omega, .ld (.eq ?_)⟩
    rw [w4, show (d.ar == 3221225534) = false from by simpa using har]
    exact .ret 0 0 _ _ _
/-! ### Its instructions are fine -/
def FineT : List Ins → Nat → Prop
  | [], _ => True
  | i :: r, t => FineI i ((r.length + t : Nat) : Int) ∧ FineT r t
theorem fine_append : ∀ {l m : List Ins} {t : Nat}, FineT l (m.length + t) → FineT m t → FineT (l ++ m) t
  | [], m, t, _, h => h
  | i :: l, m, t, h1, h2 => ⟨by
      show FineI i (((l ++ m).length + t : Nat) : Int)
      rw [List.length_append, Nat.add_assoc]; exact h1.1, fine_append h1.2 h2⟩
theorem fine_p : ∀ {l : List Ins}, FineT l 0 → FineP l
  | [], _, n, i, h => by simp at h
  | x :: l, hf, 0, i, h => by
    simp at h
    subst h
    have := hf.1
    rw [List.length_cons]
    have e : ((l.length + 1 : Nat) : Int) - 1 - (0 : Nat) = ((l.length + 0 : Nat) : Int) := by omega
    rw [e]
    exact this
  | x :: l, hf, n + 1, i, h => by
    have := fine_p hf.2 n i (by simpa using h)
    rw [List.length_cons]
    have e : ((l.length + 1 : Nat) : Int) - 1 - ((n + 1 : Nat) : Int) = (l.length : Int) - 1 - n := by omega
    rw [e]
    exact this
theorem fine_load {k m : Int} {t : Nat} (hk : 0 ≤ k ∧ k % 4 = 0 ∧ k < 64) (hm : U32 m) (ht : 0 < t) : FineT (loadL k m) t := by
  unfold loadL
  split
  · exact ⟨.inl ⟨rfl, hk.1, hk.2.1, hk.2.2, by simp only [List.length_nil]; omega⟩, trivial⟩
  · exact ⟨.inl ⟨rfl, hk.1, hk.2.1, hk.2.2, by simp only [List.length_cons]; omega⟩, .inr (.inl ⟨rfl, hm.1, hm.2, by simp only [List.length_nil]; omega⟩), trivial⟩
theorem fine_jump {op jt jf k : Int} {b : Int} (hs : Sound op) (h : 0 ≤ jt ∧ 0 ≤ jf ∧ jt < 256 ∧ jf < 256 ∧ jt < b ∧ jf < b) : FineI ⟨codeOf op, jt, jf, k⟩ b := by
  refine .inr (.inr (.inl ⟨?_, h⟩))
  rcases hs with rfl | rfl | rfl
  · exact .inl rfl
  · exact .inr (.inl rfl)
  · exact .inr (.inr rfl)
theorem fine_test {no : Bool} {op m v a : Int} {els t : Nat} (hs : Sound op) (h0 : 0 ≤ a) (h5 : a ≤ 5) (he : els ≤ 100) (ht : els < t) : FineT (testL no op m v a els) t := by
  have hE : ((endL no op m v a els).length : Int) = yesI m a := endL_len ..
  have hy := (loadL_len (16 + 8 * a) (lo m)).2
  have hy2 : (endL no op m v a els).length ≤ 3 := by unfold endL; rw [List.length_append, List.length_singleton]; omega
  have hend : FineT (endL no op m v a els) t := by
    unfold endL
    refine fine_append (fine_load ⟨by omega, by omega, by omega⟩ (lo_u32 m) (by rw [List.length_singleton]; omega)) ⟨?_, trivial⟩
    cases no
    · exact fine_jump hs ⟨by omega, by omega, by omega, by omega, by simp only [List.length_nil]; omega, by simp only [List.length_nil]; omega⟩
    · exact fine_jump hs ⟨by omega, by omega, by omega, by omega, by simp only [List.length_nil]; omega, by simp only [List.length_nil]; omega⟩
  unfold testL
  refine fine_append ?_ hend
  obtain ⟨e, hel⟩ : ∃ e, (endL no op m v a els).length = e := ⟨_, rfl⟩
  rw [hel] at hE hy2 ⊢
  unfold topL
  refine fine_append (fine_append (fine_load ⟨by omega, by omega, by omega⟩ (hi_u32 m) (by rw [List.length_singleton]; omega)) ?_) ?_
  · split
    · trivial
    · refine ⟨fine_jump (op := 5) (.inr (.inl rfl)) ?_, trivial⟩
      simp only [List.length_nil, List.length_singleton]
      cases no
      · simp only [Bool.false_eq_true, if_false]; omega
      · simp only [if_true]; omega
  · refine ⟨fine_jump (op := 1) (.inl rfl) ?_, trivial⟩
    simp only [List.length_nil]
    cases no
    · simp only [Bool.false_eq_true, if_false]; omega
    · simp only [if_true]; omega
theorem fine_rule {k a : Int} : ∀ {cs : List Cnd} {l : List Ins} {t : Nat}, ruleF k a cs = some l → (∀ c ∈ cs, 0 ≤ c.a ∧ c.a ≤ 5) → cs.length ≤ 8 → 0 < t → FineT l t
  | [], l, t, h, _, _, _ => by
    simp [ruleF] at h
    subst h
    exact ⟨.inr (.inr (.inr (.inr rfl))), trivial⟩
  | c :: cs, l, t, h, hc, h8, ht => by
    have h' : (ruleF k a cs).bind (ruleStep c) = some l := h
    obtain ⟨l0, h1, h2⟩ := Option.bind_eq_some_iff.1 h'
    rw [List.length_cons] at h8
    have ih : FineT l0 t := fine_rule h1 (fun x hx => hc x (List.mem_cons_of_mem _ hx)) (by omega) ht
    have hl0 := ruleF_len h1
    unfold ruleStep at h2
    split at h2
    · cases h2
    · cases h2; exact ih
    · rename_i p hnf
      cases h2
      have := hc c (List.mem_cons_self ..)
      exact fine_append (fine_test (nf_sound hnf) this.1 this.2 (by omega) (by omega)) ih
theorem fine_ruleL {k a : Int} {cs : List Cnd} {t : Nat} (hc : ∀ c ∈ cs, 0 ≤ c.a ∧ c.a ≤ 5) (h8 : cs.length ≤ 8) (ht : 0 < t) : FineT (ruleL k a cs) t := by
  unfold ruleL
  cases hf : ruleF k a cs with
  | none => trivial
  | some l => exact fine_rule hf hc h8 ht
def TightR (r : Rul) : Prop := (∀ c ∈ r.cs, 0 ≤ c.a ∧ c.a ≤ 5) ∧ r.cs.length ≤ 8
theorem fine_names {r : Rul} {nm : ByteArray} (hr : TightR r) : ∀ {ns : List ByteArray} {t : Nat}, 0 < t → FineT (namesL' r nm ns) t
  | [], t, _ => trivial
  | s :: ns, t, ht => by
    rw [namesL_cons]
    refine fine_append ?_ (fine_names hr ht)
    split
    · exact fine_ruleL hr.1 hr.2 (by omega)
    · trivial
theorem fine_rules {nm : ByteArray} : ∀ {L : List Rul} {t : Nat}, (∀ r ∈ L, TightR r) → 0 < t → FineT (rulesL nm L) t
  | [], t, _, _ => trivial
  | r :: L, t, h, ht => fine_append (l := namesL' r nm r.ns) (m := rulesL nm L) (fine_names (h r (List.mem_cons_self ..)) (by omega)) (fine_rules (fun x hx => h x (List.mem_cons_of_mem _ hx)) ht)
theorem fine_body {k a nr : Int} {L : List Rul} {t : Nat} (h : ∀ r ∈ L, TightR r) : FineT (bodyL k a L nr) t :=
  fine_append (fine_rules h (by rw [List.length_singleton]; omega)) ⟨.inr (.inr (.inr (.inr rfl))), trivial⟩
theorem fine_leaf {nr : Int} {b : List Ins} {t : Nat} (h0 : 0 < b.length) (h : FineT b t) : FineT (leafL nr b) t := by
  refine ⟨fine_jump (op := 1) (.inl rfl) ?_, .inr (.inr (.inr (.inl ⟨rfl, ?_, ?_⟩))), h⟩
  · show 0 ≤ (1 : Int) ∧ 0 ≤ (0 : Int) ∧ (1 : Int) < 256 ∧ (0 : Int) < 256 ∧ (1 : Int) < ((b.length + 1 + t : Nat) : Int) ∧ (0 : Int) < ((b.length + 1 + t : Nat) : Int)
    omega
  · show 0 ≤ (b.length : Int) - 1
    omega
  · show (b.length : Int) - 1 < ((b.length + t : Nat) : Int)
    omega
theorem part_pos (nrs : List Int) (bs : List (List Ins)) : ∀ d lo hi, hi - lo = d → 0 < (partL nrs bs lo hi).length := by
  intro d lo hi _
  by_cases h : hi - lo ≤ 1
  · rw [partL_one h, leafL_len]; omega
  · rw [partL_two h rfl]; simp
theorem fine_part {nrs : List Int} {bs : List (List Ins)} (hb : ∀ i, i < nrs.length → 0 < (bs.getD i []).length ∧ ∀ t, FineT (bs.getD i []) t) : ∀ d lo hi t, hi - lo = d → lo < hi → hi ≤ nrs.length → FineT (partL nrs bs lo hi) t := by
  intro d
  induction d using Nat.strongRecOn with
  | _ d ih =>
    intro lo hi t hd hlt hle
    by_cases h : hi - lo ≤ 1
    · rw [partL_one h]
      obtain ⟨h1, h2⟩ := hb lo (by omega)
      exact fine_leaf h1 (h2 t)
    · obtain ⟨m, hm⟩ : ∃ m, m = lo + (hi - lo) / 2 := ⟨_, rfl⟩
      rw [partL_two h hm, List.append_assoc]
      have p1 := part_pos nrs bs _ lo m rfl
      have p2 := part_pos nrs bs _ m hi rfl
      have hb2 : FineT (partL nrs bs lo m ++ partL nrs bs m hi) t := fine_append (ih (m - lo) (by omega) lo m _ rfl (by omega) (by omega)) (ih (hi - m) (by omega) m hi _ rfl (by omega) (by omega))
      obtain ⟨P, hP⟩ : ∃ P, partL nrs bs lo m = P := ⟨_, rfl⟩
      obtain ⟨Q, hQ⟩ : ∃ Q, partL nrs bs m hi = Q := ⟨_, rfl⟩
      rw [hP] at p1 hb2 ⊢
      rw [hQ] at p2 hb2 ⊢
      show FineT (⟨53, 0, 1, nrs.getD m 0⟩ :: ⟨5, 0, 0, (P.length : Int)⟩ :: (P ++ Q)) t
      refine ⟨fine_jump (op := 6) (.inr (.inr rfl)) ?_, .inr (.inr (.inr (.inl ⟨rfl, ?_, ?_⟩))), hb2⟩
      · rw [List.length_cons, List.length_append]
        omega
      · show 0 ≤ (P.length : Int)
        omega
      · show (P.length : Int) < (((P ++ Q).length + t : Nat) : Int)
        rw [List.length_append]
        omega
theorem fine_comp {k a : Int} {L : List Rul} (h : ∀ r ∈ L, TightR r) : FineP (compL k a L) := by
  apply fine_p
  unfold compL
  have hrest : ∀ {l : List Ins}, 0 < l.length → FineT l 0 → FineT (headL ++ l) 0 := fun {l} h0 hl => by
    refine fine_append ?_ hl
    refine ⟨.inl ⟨rfl, by decide, by decide, by decide, ?_⟩, fine_jump (op := 1) (.inl rfl) ?_, .inr (.inr (.inr (.inr rfl))), .inl ⟨rfl, by decide, by decide, by decide, ?_⟩, trivial⟩
    · simp only [List.length_cons, List.length_nil]; omega
    · simp only [List.length_cons, List.length_nil]; omega
    · simp only [List.length_nil]; omega
  split
  · exact hrest (by simp) ⟨.inr (.inr (.inr (.inr rfl))), trivial⟩
  · rename_i hne
    refine hrest (part_pos _ _ _ 0 _ rfl) (fine_part (fun i hi => ?_) _ 0 _ 0 rfl (List.length_pos_iff.2 hne) (Nat.le_refl _))
    obtain ⟨nr, hnr⟩ : ∃ nr, (numsV L)[i]? = some nr := ⟨_, List.getElem?_eq_getElem hi⟩
    rw [body_at hnr]
    exact ⟨by unfold bodyL; rw [List.length_append, List.length_singleton]; omega, fun t => fine_body h⟩
theorem comp_len0 (k a : Int) (L : List Rul) : 0 < (compL k a L).length := by unfold compL headL; rw [List.length_append]; simp only [List.length_cons]; omega
end Go.Proofs.Ytjmmbadpknlmcaa
end
section
/- Plain law: a program of rules is no longer than the rules' weight. No Go in sight. -/
namespace Go.Proofs.Ytjmmbadpknlmcaa
open Go.RowKit
set_option linter.unusedVariables false

def cnt (nm : ByteArray) (ns : List ByteArray) : Nat := (ns.map fun s => if s = nm then 1 else 0).sum
theorem cnt_cons (nm s : ByteArray) (t : List ByteArray) : cnt nm (s :: t) = (if s = nm then 1 else 0) + cnt nm t := rfl
theorem sum_add {α : Type} (f g : α → Nat) : ∀ l : List α, (l.map fun x => f x + g x).sum = (l.map f).sum + (l.map g).sum
  | [] => rfl
  | x :: l => by
    simp only [List.map_cons, List.sum_cons]
    rw [sum_add f g l]
    omega
theorem sum_mul {α : Type} (f : α → Nat) (c : Nat) : ∀ l : List α, (l.map fun x => f x * c).sum = (l.map f).sum * c
  | [] => by simp
  | x :: l => by
    simp only [List.map_cons, List.sum_cons]
    rw [sum_mul f c l, Nat.add_mul]
theorem sum_le {α : Type} {f g : α → Nat} : ∀ {l : List α}, (∀ x ∈ l, f x ≤ g x) → (l.map f).sum ≤ (l.map g).sum
  | [], _ => Nat.le_refl _
  | x :: l, h => by
    simp only [List.map_cons, List.sum_cons]
    have h1 := h x (List.mem_cons_self ..)
    have h2 := sum_le (l := l) (fun y hy => h y (List.mem_cons_of_mem _ hy))
    omega
theorem sum_zero {α : Type} : ∀ l : List α, (l.map fun _ => 0).sum = 0
  | [] => rfl
  | _ :: l => by simp only [List.map_cons, List.sum_cons]; rw [sum_zero l]
theorem sum_mem {α : Type} (f : α → Nat) : ∀ {l : List α} {x : α}, x ∈ l → f x ≤ (l.map f).sum
  | y :: l, x, h => by
    simp only [List.map_cons, List.sum_cons]
    rcases List.mem_cons.1 h with rfl | h
    · omega
    · have := sum_mem f h; omega
def nmOf (x : Int) : ByteArray := (nameV x).1
/-- One name is that of one number at most. -/
theorem one_name {N : List Int} (hd : N.Pairwise (fun x y => nmOf x ≠ nmOf y)) (s : ByteArray) : (N.map fun x => if s = nmOf x then 1 else 0).sum ≤ 1 := by
  induction N with
  | nil => simp
  | cons x N ih =>
    obtain ⟨h1, h2⟩ := List.pairwise_cons.1 hd
    simp only [List.map_cons, List.sum_cons]
    by_cases e : s = nmOf x
    · have : (N.map fun y => if s = nmOf y then 1 else 0).sum ≤ (N.map fun _ => 0).sum := sum_le (fun y hy => by rw [if_neg (fun e2 => h1 y hy (e.symm.trans e2))]; exact Nat.le_refl _)
      rw [if_pos e]
      rw [sum_zero] at this
      omega
    · rw [if_neg e]
      have := ih h2
      omega
theorem cnt_sum {N : List Int} (hd : N.Pairwise (fun x y => nmOf x ≠ nmOf y)) : ∀ ns : List ByteArray, (N.map fun x => cnt (nmOf x) ns).sum ≤ ns.length
  | [] => by
    have : (N.map fun x => cnt (nmOf x) []).sum ≤ (N.map fun _ => 0).sum := sum_le (fun y _ => Nat.le_refl _)
    rw [sum_zero] at this
    exact this
  | s :: ns => by
    have ih := cnt_sum hd ns
    have h1 := one_name hd s
    have e : (N.map fun x => cnt (nmOf x) (s :: ns)).sum = (N.map fun x => (if s = nmOf x then 1 else 0) + cnt (nmOf x) ns).sum := rfl
    rw [e, sum_add, List.length_cons]
    omega
theorem names_cnt (r : Rul) (nm : ByteArray) (h8 : r.cs.length ≤ 8) : ∀ ns, (namesL' r nm ns).length ≤ cnt nm ns * (7 * r.cs.length + 1)
  | [] => by simp [namesL']
  | s :: ns => by
    have ih := names_cnt r nm h8 ns
    rw [namesL_cons, List.length_append, cnt_cons, Nat.add_mul]
    have h2 : (ruleL r.k r.a r.cs).length ≤ 1 + 7 * r.cs.length := by
      unfold ruleL
      cases hf : ruleF r.k r.a r.cs with
      | none => simp
      | some l => exact ruleF_len hf
    by_cases e : s = nm
    · rw [if_pos e, if_pos e]; omega
    · rw [if_neg e, if_neg e]; simp; omega
/-- What a rule costs for a number. -/
def costR (x : Int) (r : Rul) : Nat := cnt (nmOf x) r.ns * (7 * r.cs.length + 6)
theorem body_cost {L : List Rul} (h8 : ∀ r ∈ L, r.cs.length ≤ 8) (x : Int) : (rulesL (nmOf x) L).length + 5 * (L.map fun r => cnt (nmOf x) r.ns).sum ≤ (L.map (costR x)).sum := by
  induction L with
  | nil => simp [rulesL]
  | cons r L ih =>
    have ih := ih (fun y hy => h8 y (List.mem_cons_of_mem _ hy))
    have h1 := names_cnt r (nmOf x) (h8 r (List.mem_cons_self ..)) r.ns
    have e : rulesL (nmOf x) (r :: L) = namesL' r (nmOf x) r.ns ++ rulesL (nmOf x) L := rfl
    have e2 : costR x r = cnt (nmOf x) r.ns * (7 * r.cs.length + 1) + cnt (nmOf x) r.ns * 5 := by unfold costR; rw [← Nat.mul_add]
    rw [e, List.length_append]
    simp only [List.map_cons, List.sum_cons]
    rw [e2]
    omega
theorem cost_swap {N : List Int} (hd : N.Pairwise (fun x y => nmOf x ≠ nmOf y)) : ∀ L : List Rul, (N.map fun x => (L.map (costR x)).sum).sum ≤ (L.map fun r => r.ns.length * (7 * r.cs.length + 6)).sum
  | [] => by
    have : (N.map fun x => (([] : List Rul).map (costR x)).sum).sum ≤ (N.map fun _ => 0).sum := sum_le (fun y _ => Nat.le_refl _)
    rw [sum_zero] at this
    exact this
  | r :: L => by
    have ih := cost_swap hd L
    have e : (N.map fun x => ((r :: L).map (costR x)).sum).sum = (N.map fun x => costR x r + (L.map (costR x)).sum).sum := rfl
    have e2 : (N.map fun x => costR x r).sum = (N.map fun x => cnt (nmOf x) r.ns).sum * (7 * r.cs.length + 6) := sum_mul _ _ _
    have h1 := Nat.mul_le_mul_right (7 * r.cs.length + 6) (cnt_sum hd r.ns)
    rw [e, sum_add, e2]
    simp only [List.map_cons, List.sum_cons]
    omega
theorem part_sum (nrs : List Int) (bs : List (List Ins)) : ∀ d lo hi, hi - lo = d → lo < hi → (partL nrs bs lo hi).length + 2 = ((List.range' lo d).map fun i => (bs.getD i []).length + 4).sum := by
  intro d
  induction d using Nat.strongRecOn with
  | _ d ih =>
    intro lo hi hd hlt
    by_cases h : hi - lo ≤ 1
    · rw [partL_one h, leafL_len]
      obtain rfl : d = 1 := by omega
      simp
    · obtain ⟨m, hm⟩ : ∃ m, m = lo + (hi - lo) / 2 := ⟨_, rfl⟩
      rw [partL_two h hm]
      have h1 := ih (m - lo) (by omega) lo m rfl (by omega)
      have h2 := ih (hi - m) (by omega) m hi rfl (by omega)
      have e : List.range' lo d = List.range' lo (m - lo) ++ List.range' m (hi - m) := by
        rw [show List.range' m (hi - m) = List.range' (lo + (m - lo)) (hi - m) by rw [show lo + (m - lo) = m by omega], List.range'_append_1, show m - lo + (hi - m) = d by omega]
      rw [e, List.map_append, List.sum_append, ← h1, ← h2]
      simp only [List.length_append, List.length_cons, List.length_nil]
      omega
theorem bodies_sum (k a : Int) (L : List Rul) : ∀ (xs : List Int) (o : Nat) (bs : List (List Ins)), (∀ i x, xs[i]? = some x → (bs.getD (o + i) []).length = (bodyL k a L x).length) → ((List.range' o xs.length).map fun i => (bs.getD i []).length + 4).sum = (xs.map fun x => (bodyL k a L x).length + 4).sum
  | [], _, _, _ => rfl
  | x :: xs, o, bs, h => by
    rw [List.length_cons, List.range'_succ]
    simp only [List.map_cons, List.sum_cons]
    rw [bodies_sum k a L xs (o + 1) bs (fun i y hy => by rw [show o + 1 + i = o + (i + 1) by omega]; exact h (i + 1) y (by simpa using hy))]
    have := h 0 x rfl
    rw [Nat.add_zero] at this
    rw [this]
theorem cnt_pos {nm : ByteArray} : ∀ {ns : List ByteArray}, nm ∈ ns → 1 ≤ cnt nm ns
  | s :: ns, h => by
    rw [cnt_cons]
    rcases List.mem_cons.1 h with rfl | h
    · rw [if_pos rfl]; omega
    · have := cnt_pos h; omega
theorem spoken_cnt {L : List Rul} {x : Int} (hx : x ∈ numsV L) : 1 ≤ (L.map fun r => cnt (nmOf x) r.ns).sum := by
  obtain ⟨h1, h2⟩ := List.mem_filter.1 hx
  have hn := known_name h1
  unfold spkL at h2
  rw [List.any_eq_true] at h2
  obtain ⟨r, hr, hs⟩ := h2
  have : hasN (nmOf x) r.ns = true := by
    rw [spokenB_eq, hn, Bool.true_and] at hs
    exact hs
  have hp := cnt_pos (hasN_iff.1 this)
  exact Nat.le_trans hp (sum_mem (fun r => cnt (nmOf x) r.ns) hr)
theorem names_apart (L : List Rul) : (numsV L).Pairwise (fun x y => nmOf x ≠ nmOf y) := by
  have hall : ∀ x ∈ numsV L, (nrV (nmOf x)).1 = x := fun x hx => by
    obtain ⟨p, hp, rfl⟩ := List.mem_map.1 (List.mem_filter.1 hx).1
    unfold nmOf
    rw [name_of_known p hp, nr_of_known p hp]
  refine List.Pairwise.imp_of_mem (fun {x y} hx hy hlt he => ?_) (nums_up L)
  have h1 := hall x hx
  have h2 := hall y hy
  rw [he, h2] at h1
  omega
theorem comp_weight (k a : Int) (L : List Rul) (h8 : ∀ r ∈ L, r.cs.length ≤ 8) : (compL k a L).length ≤ wtN L := by
  have hw : (L.map fun r => r.ns.length * (7 * r.cs.length + 6)).sum ≤ (L.map wtR).sum := sum_le (fun r _ => by
    unfold wtR
    rw [Nat.mul_assoc]
    exact Nat.mul_le_mul_left _ (by omega))
  have h4 : headL.length = 4 := rfl
  unfold compL wtN
  rw [List.length_append, h4]
  split
  · rw [List.length_singleton]; omega
  · rename_i hne
    have hpos := List.length_pos_iff.2 hne
    have h1 := part_sum (numsV L) (bodiesL k a L) _ 0 (numsV L).length rfl hpos
    rw [Nat.sub_zero, bodies_sum k a L (numsV L) 0 (bodiesL k a L) (fun i x hx => by rw [Nat.zero_add, body_at hx])] at h1
    have h2 : ((numsV L).map fun x => (bodyL k a L x).length + 4).sum ≤ ((numsV L).map fun x => (L.map (costR x)).sum).sum := sum_le (fun x hx => by
      have h5 := body_cost h8 x
      have h6 := spoken_cnt hx
      have h7 : (bodyL k a L x).length = (rulesL (nmOf x) L).length + 1 := by unfold bodyL; rw [List.length_append]; rfl
      omega)
    have h3 := cost_swap (names_apart L) L
    omega
end Go.Proofs.Ytjmmbadpknlmcaa
end
