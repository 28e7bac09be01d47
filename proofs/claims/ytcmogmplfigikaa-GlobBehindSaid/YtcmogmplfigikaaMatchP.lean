/- Globs of parts, plainly; what the search's closure needs of the world. No conditions. -/
import Derived.Test.YtcmogmplfigikaaCollect
namespace Go.Proofs.Ytcmogmplfigikaa
open Go.RowKit
set_option linter.unusedVariables false
set_option linter.unusedSimpArgs false

def anySufL (p : List (List UInt8) → Bool) : List (List UInt8) → Bool
  | [] => p []
  | b :: t => p (b :: t) || anySufL p t
/-- Are names like parts? -/
def matchM : List (List UInt8) → List (List UInt8) → Bool
  | [], s => s.isEmpty
  | c :: g, s => if c = [42, 42] then anySufL (matchM g) s else match s with | [] => false | b :: t => nameM c b && matchM g t
theorem mstar_cons (g : List (List UInt8)) (b : List UInt8) (t : List (List UInt8)) : matchM ([42, 42] :: g) (b :: t) = (matchM g (b :: t) || matchM ([42, 42] :: g) t) := by simp [matchM, anySufL]
theorem mstar_nil (g : List (List UInt8)) : matchM ([42, 42] :: g) [] = matchM g [] := by simp [matchM, anySufL]
theorem mname_cons {c : List UInt8} (hc : c ≠ [42, 42]) (g : List (List UInt8)) (b : List UInt8) (t : List (List UInt8)) : matchM (c :: g) (b :: t) = (nameM c b && matchM g t) := by simp [matchM, hc]
theorem mname_nil {c : List UInt8} (hc : c ≠ [42, 42]) (g : List (List UInt8)) : matchM (c :: g) [] = false := by simp [matchM, hc]
/-- The table. -/
def tabM (a b : List (List UInt8)) (i k : Nat) : Bool := matchM (a.drop i) (b.drop k)
theorem dropL_some {l : List (List UInt8)} {i : Nat} {c : List UInt8} (h : l[i]? = some c) : l.drop i = c :: l.drop (i + 1) := by
  have hl := (List.getElem?_eq_some_iff.1 h).1
  rw [List.drop_eq_getElem_cons hl, (List.getElem?_eq_some_iff.1 h).2]
theorem tabM_star {a b : List (List UInt8)} {i k : Nat} (ha : a[i]? = some [42, 42]) (hk : k < b.length) : tabM a b i k = (tabM a b (i + 1) k || tabM a b i (k + 1)) := by
  unfold tabM
  rw [dropL_some ha, List.drop_eq_getElem_cons hk, mstar_cons]
theorem tabM_star_end {a b : List (List UInt8)} {i : Nat} (ha : a[i]? = some [42, 42]) : tabM a b i b.length = tabM a b (i + 1) b.length := by
  unfold tabM
  rw [dropL_some ha, List.drop_length, mstar_nil]
theorem tabM_name {a b : List (List UInt8)} {i k : Nat} {p n : List UInt8} (ha : a[i]? = some p) (hp : p ≠ [42, 42]) (hb : b[k]? = some n) : tabM a b i k = (nameM p n && tabM a b (i + 1) (k + 1)) := by
  unfold tabM
  rw [dropL_some ha, dropL_some hb, mname_cons hp]
theorem tabM_name_end {a b : List (List UInt8)} {i : Nat} {p : List UInt8} (ha : a[i]? = some p) (hp : p ≠ [42, 42]) : tabM a b i b.length = false := by
  unfold tabM
  rw [dropL_some ha, List.drop_length, mname_nil hp]
theorem tabM_last (a b : List (List UInt8)) (k : Nat) (hk : k ≤ b.length) : tabM a b a.length k = if k = b.length then true else false := by
  unfold tabM
  rw [List.drop_length]
  by_cases h : k = b.length
  · rw [if_pos h, h, List.drop_length]; rfl
  · rw [if_neg h, List.drop_eq_getElem_cons (by omega)]; rfl

/-- A row of strings in a block other than g. -/
def StrsNe (W : World) (A : Option Addr) (a : List (List UInt8)) (g : Nat) : Prop :=
  ∀ (j : Nat) n, a[j]? = some n → ∃ b o, A = some ⟨b, o, none⟩ ∧ b ≠ g ∧ W.cell? ⟨b, o + j, none⟩ = some (.string (strL n))
theorem StrsNe.at {W : World} {bl o : Nat} {a : List (List UInt8)} {g i : Nat} {p : List UInt8} (h : StrsNe W (some ⟨bl, o, none⟩) a g) (hp : a[i]? = some p) : W.cell? ⟨bl, o + i, none⟩ = some (.string (strL p)) := by
  obtain ⟨b2, o2, he, _, hc⟩ := h i p hp
  cases he
  exact hc
structure LikeAt (W : World) (pa pb pn pl gn : Nat) (A B : Option Addr) (ca cb : Nat) (a b : List (List UInt8)) (f : Nat → Bool) : Prop where
  cella : W.cell? ⟨pa, 0, none⟩ = some (.slice A a.length ca)
  cellb : W.cell? ⟨pb, 0, none⟩ = some (.slice B b.length cb)
  celln : W.cell? ⟨pn, 0, none⟩ = some (.slice (some ⟨gn, 0, none⟩) ((a.length + 1) * (b.length + 1)) ((a.length + 1) * (b.length + 1)))
  celll : W.cell? ⟨pl, 0, none⟩ = some (.func (.func 21) #[] #[.pointer (some ⟨pa, 0, none⟩), .pointer (some ⟨pb, 0, none⟩), .pointer (some ⟨pn, 0, none⟩), .pointer (some ⟨pl, 0, none⟩)])
  strsa : StrsNe W A a gn
  strsb : StrsNe W B b gn
  row : BoolRow W gn ((a.length + 1) * (b.length + 1)) f
  memo : ∀ i k, k ≤ b.length → f (i * (b.length + 1) + k) = true → tabM a b i k = false
  nea : pa ≠ gn
  neb : pb ≠ gn
  nen : pn ≠ gn
  nel : pl ≠ gn
theorem StrsNe.upto {W W' : World} {A : Option Addr} {a : List (List UInt8)} {g : Nat} (h : StrsNe W A a g) (hU : Upto (fun x => x = g) W W') : StrsNe W' A a g := fun j n hj => by
  obtain ⟨b, o, rfl, hb, hc⟩ := h j n hj
  exact ⟨b, o, rfl, hb, hU.cell hb hc⟩
theorem LikeAt.upto {W W' : World} {pa pb pn pl gn : Nat} {A B : Option Addr} {ca cb : Nat} {a b : List (List UInt8)} {f f' : Nat → Bool} (h : LikeAt W pa pb pn pl gn A B ca cb a b f) (hU : Upto (fun x => x = gn) W W')
    (hr : BoolRow W' gn ((a.length + 1) * (b.length + 1)) f') (hm : ∀ i k, k ≤ b.length → f' (i * (b.length + 1) + k) = true → tabM a b i k = false) : LikeAt W' pa pb pn pl gn A B ca cb a b f' :=
  ⟨hU.cell h.nea h.cella, hU.cell h.neb h.cellb, hU.cell h.nen h.celln, hU.cell h.nel h.celll, h.strsa.upto hU, h.strsb.upto hU, hr, hm, h.nea, h.neb, h.nen, h.nel⟩
theorem LikeAt.drewN {W : World} {pa pb pn pl gn : Nat} {A B : Option Addr} {ca cb : Nat} {a b : List (List UInt8)} {f : Nat → Bool} (h : LikeAt W pa pb pn pl gn A B ca cb a b f) (m : Nat) : LikeAt (W.drewN m) pa pb pn pl gn A B ca cb a b f :=
  h.upto ((Upto.refl _ W).drewN m) (h.row.drewN m) h.memo
theorem LikeAt.drew {W : World} {pa pb pn pl gn : Nat} {A B : Option Addr} {ca cb : Nat} {a b : List (List UInt8)} {f : Nat → Bool} (h : LikeAt W pa pb pn pl gn A B ca cb a b f) : LikeAt W.drew pa pb pn pl gn A B ca cb a b f := h.drewN 1
theorem idx_unique {n i k i2 k2 : Nat} (hk : k ≤ n) (hk2 : k2 ≤ n) (h : i2 * (n + 1) + k2 = i * (n + 1) + k) : i2 = i ∧ k2 = k := by
  have e1 : (i2 * (n + 1) + k2) / (n + 1) = i2 := by rw [Nat.add_comm, Nat.add_mul_div_right _ _ (by omega), Nat.div_eq_of_lt (by omega)]; omega
  have e2 : (i * (n + 1) + k) / (n + 1) = i := by rw [Nat.add_comm, Nat.add_mul_div_right _ _ (by omega), Nat.div_eq_of_lt (by omega)]; omega
  have hi : i2 = i := by rw [← e1, ← e2, h]
  subst hi
  exact ⟨rfl, by omega⟩
theorem idx_lt {m n i k : Nat} (hi : i ≤ m) (hk : k ≤ n) : i * (n + 1) + k < (m + 1) * (n + 1) := by
  have h := Nat.mul_le_mul_right (n + 1) (show i + 1 ≤ m + 1 by omega)
  rw [Nat.succ_mul] at h
  omega
/-- Behind the note of what was found. -/
theorem LikeAt.note {W : World} {pa pb pn pl gn : Nat} {A B : Option Addr} {ca cb : Nat} {a b : List (List UInt8)} {f : Nat → Bool} (h : LikeAt W pa pb pn pl gn A B ca cb a b f) {i k : Nat} (hk : k ≤ b.length) {x : Bool} (hx : x = !tabM a b i k) :
    LikeAt (W.setCell ⟨gn, i * (b.length + 1) + k, none⟩ (.bool x)) pa pb pn pl gn A B ca cb a b (fun j => if j = i * (b.length + 1) + k then x else f j) := by
  refine h.upto (show Upto (fun x => x = gn) W _ from (Upto.refl (fun x => x = gn) W).setCell (p := ⟨gn, i * (b.length + 1) + k, none⟩) (.inl rfl) _) (h.row.set _ _) (fun i2 k2 hk2 h2 => ?_)
  by_cases he : i2 * (b.length + 1) + k2 = i * (b.length + 1) + k
  · obtain ⟨rfl, rfl⟩ := idx_unique hk hk2 he
    simp only [if_true] at h2
    rw [hx] at h2
    simpa using h2
  · simp only [he, if_false] at h2
    exact h.memo i2 k2 hk2 h2
def LikePost (pa pb pn pl gn : Nat) (A B : Option Addr) (ca cb : Nat) (a b : List (List UInt8)) (x : Bool) (W : World) (e : Ending) (W' : World) : Prop :=
  e = .returned (.bool x) ∧ ∃ f', LikeAt W' pa pb pn pl gn A B ca cb a b f' ∧ Upto (fun x => x = gn) W W'
end Go.Proofs.Ytcmogmplfigikaa
