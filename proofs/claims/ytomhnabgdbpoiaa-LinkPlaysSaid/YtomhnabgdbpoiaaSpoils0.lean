/- A bit that is turned: plain facts. No conditions. -/
import Derived.Test.YtomhnabgdbpoiaaAwake
namespace Go.Proofs.Ytomhnabgdbpoiaa
open Go.RowKit
set_option linter.unusedVariables false
set_option linter.unusedSimpArgs false

theorem xor_all : ∀ x : Fin 256, ∀ p : Fin 8, (bits .xor .u8 (x.val : Int) (2 ^ p.val % 256) ≠ (x.val : Int)) ∧ bits .xor .u8 (bits .xor .u8 (x.val : Int) (2 ^ p.val % 256)) (2 ^ p.val % 256) = (x.val : Int) ∧
    bits .xor .u8 (bits .xor .u8 (x.val : Int) (2 ^ p.val % 256)) (x.val : Int) = 2 ^ p.val ∧ 0 ≤ bits .xor .u8 (x.val : Int) (2 ^ p.val % 256) ∧ bits .xor .u8 (x.val : Int) (2 ^ p.val % 256) < 256 := by decide +kernel
theorem and_all : ∀ p : Fin 8, bits .and .u8 (2 ^ p.val : Int) (2 ^ p.val - 1) = 0 := by decide +kernel

def Bytes8 (bs : List Int) : Prop := ∀ x ∈ bs, 0 ≤ x ∧ x < 256
/-- Where the turned bit's byte lies. -/
def spI (bs : List Int) (bit : Int) : Nat := (spoilAt bs bit / 8).toNat
def spP (bs : List Int) (bit : Int) : Nat := (spoilAt bs bit % 8).toNat
theorem spI_lt {bs : List Int} (bit : Int) (h : 0 < bs.length) : spI bs bit < bs.length := by
  unfold spI spoilAt
  have h1 : 0 ≤ max bit 0 % (8 * (bs.length : Int)) := Int.emod_nonneg _ (by omega)
  have h2 : max bit 0 % (8 * (bs.length : Int)) < 8 * (bs.length : Int) := Int.emod_lt_of_pos _ (by omega)
  omega
theorem spP_lt (bs : List Int) (bit : Int) : spP bs bit < 8 := by
  unfold spP; omega
theorem spoilB_eq (bs : List Int) (bit : Int) : spoilB bs bit = bs.set (spI bs bit) (bits .xor .u8 (bs.getD (spI bs bit) 0) (2 ^ (spP bs bit) % 256)) := by
  simp [spoilB, spI, spP, List.getD_eq_getElem?_getD]
theorem spoilB_len (bs : List Int) (bit : Int) : (spoilB bs bit).length = bs.length := by simp [spoilB]
theorem spI_spoil (bs : List Int) (bit : Int) : spI (spoilB bs bit) bit = spI bs bit := by simp [spI, spoilAt, spoilB_len]
theorem spP_spoil (bs : List Int) (bit : Int) : spP (spoilB bs bit) bit = spP bs bit := by simp [spP, spoilAt, spoilB_len]
theorem byte_fin {bs : List Int} (hb : Bytes8 bs) {i : Nat} (h : i < bs.length) : ∃ x : Fin 256, bs.getD i 0 = (x.val : Int) := by
  have := hb (bs.getD i 0) (by rw [List.getD_eq_getElem?_getD, List.getElem?_eq_getElem h]; exact List.getElem_mem h)
  exact ⟨⟨(bs.getD i 0).toNat, by omega⟩, by show _ = ((bs.getD i 0).toNat : Int); omega⟩
theorem spoil_at (bs : List Int) (bit : Int) (h : 0 < bs.length) (hb : Bytes8 bs) :
    (spoilB bs bit).getD (spI bs bit) 0 ≠ bs.getD (spI bs bit) 0 ∧ bits .xor .u8 ((spoilB bs bit).getD (spI bs bit) 0) (bs.getD (spI bs bit) 0) = 2 ^ spP bs bit ∧ spoilB (spoilB bs bit) bit = bs := by
  obtain ⟨x, hx⟩ := byte_fin hb (spI_lt bit h)
  obtain ⟨p, hp⟩ : ∃ p : Fin 8, spP bs bit = p.val := ⟨⟨_, spP_lt bs bit⟩, rfl⟩
  have hl := spI_lt bit h
  have e : (spoilB bs bit).getD (spI bs bit) 0 = bits .xor .u8 (x.val : Int) (2 ^ p.val % 256) := by
    rw [spoilB_eq, List.getD_eq_getElem?_getD, List.getElem?_set_self hl, hx, hp]; rfl
  refine ⟨?_, ?_, ?_⟩
  · rw [e, hx]; exact (xor_all x p).1
  · rw [e, hx, hp]; exact (xor_all x p).2.2.1
  · rw [spoilB_eq (spoilB bs bit), spI_spoil, spP_spoil, e, hp, (xor_all x p).2.1, spoilB_eq, List.set_set, ← hx]
    apply List.ext_getElem?
    intro j
    by_cases hj : spI bs bit = j
    · subst hj
      rw [List.getElem?_set_self hl, List.getD_eq_getElem?_getD, List.getElem?_eq_getElem hl]; rfl
    · rw [List.getElem?_set_ne hj]
theorem spoil_ne (bs : List Int) (bit : Int) (i : Nat) (h : i ≠ spI bs bit) : (spoilB bs bit).getD i 0 = bs.getD i 0 := by
  rw [spoilB_eq, List.getD_eq_getElem?_getD, List.getElem?_set_ne (fun e => h e.symm), List.getD_eq_getElem?_getD]
theorem pow_and (bs : List Int) (bit : Int) : bits .and .u8 (2 ^ spP bs bit : Int) (2 ^ spP bs bit - 1) = 0 := and_all ⟨_, spP_lt bs bit⟩
theorem pow_lo (bs : List Int) (bit : Int) : (1 : Int) ≤ 2 ^ spP bs bit ∧ (2 : Int) ^ spP bs bit ≤ 128 := by
  have := spP_lt bs bit
  generalize spP bs bit = p at *
  have : p = 0 ∨ p = 1 ∨ p = 2 ∨ p = 3 ∨ p = 4 ∨ p = 5 ∨ p = 6 ∨ p = 7 := by omega
  rcases this with rfl | rfl | rfl | rfl | rfl | rfl | rfl | rfl <;> decide
theorem spoil_bytes (bs : List Int) (bit : Int) (h : 0 < bs.length) (hb : Bytes8 bs) : Bytes8 (spoilB bs bit) := by
  intro y hy
  obtain ⟨x, hx⟩ := byte_fin hb (spI_lt bit h)
  obtain ⟨p, hp⟩ : ∃ p : Fin 8, spP bs bit = p.val := ⟨⟨_, spP_lt bs bit⟩, rfl⟩
  rw [spoilB_eq, hx, hp] at hy
  rcases List.mem_or_eq_of_mem_set hy with h' | rfl
  · exact hb y h'
  · exact (xor_all x p).2.2.2
/-- How many bytes have turned among the first k. -/
def cnt (I k : Nat) : Int := if I < k then 1 else 0
theorem cnt_next (I k : Nat) : cnt I (k + 1) = if k = I then cnt I k + 1 else cnt I k := by
  unfold cnt
  by_cases h : k = I
  · subst h; simp
  · rw [if_neg h]
    by_cases h2 : I < k
    · rw [if_pos h2, if_pos (by omega)]
    · rw [if_neg h2, if_neg (by omega)]
end Go.Proofs.Ytomhnabgdbpoiaa
