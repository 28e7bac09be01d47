/- strings.Split at a slash: the pieces, in a row of one's own. Condition: the string is not great. -/
import Derived.Test.YtnjpodbefcfdhaaDoorMem
import Derived.Test.YtnjpodbefcfdhaaDoorShelf
import Derived.Shelf.Strings.SplitCore
import Derived.Lib.SplitLaws
import Derived.Lib.IndexBytes
namespace Go.Proofs.YtnjpodbefcfdhaaDoor
open Go.RowKit Go.Lib
attribute [local go_sem ↓] Go.wp_at_zero Go.wp_at_succ
set_option linter.unusedVariables false
set_option linter.unusedSimpArgs false

theorem splitK_pieces : ∀ (k : Nat) (l : List UInt8), l.length ≤ k → Lib.splitK [47] 0 (l.count 47) l = pieces l
  | k, l, h => by
    rcases split_slash l with hs | ⟨p, r, rfl, hp⟩
    · have h0 : l.count 47 = 0 := List.count_eq_zero.2 (fun hm => hs 47 hm rfl)
      rw [h0, pieces_one l hs]; rfl
    · have hpc : p.count 47 = 0 := List.count_eq_zero.2 (fun hm => hp 47 hm rfl)
      have hc : (p ++ 47 :: r).count 47 = r.count 47 + 1 := by rw [List.count_append, hpc, List.count_cons_self]; omega
      have hix : Lib.index (p ++ 47 :: r) [47] = (p.length : Int) := by
        rw [Lib.index_one]
        clear h hc hpc
        induction p with
        | nil => simp [Lib.indexByte]
        | cons b p ih =>
          have hb : b ≠ 47 := hp b (by simp)
          have ih := ih (fun c hc => hp c (by simp [hc]))
          rw [List.cons_append, Lib.indexByte, if_neg (by simpa using hb), ih, if_neg (by simp)]
          simp
      rw [hc, Lib.splitK, if_neg (by rw [hix]; simp), hix, pieces_cut p r hp]
      have e1 : ((p.length : Int)).toNat + 0 = p.length := by omega
      have e2 : ((p.length : Int)).toNat + [(47 : UInt8)].length = p.length + 1 := by simp
      rw [e1, e2, List.take_left' rfl]
      have hd : (p ++ 47 :: r).drop (p.length + 1) = r := by rw [← List.drop_drop, List.drop_left]; rfl
      rw [hd]
      congr 1
      match k, h with
      | 0, h => simp at h
      | k + 1, h => exact splitK_pieces k r (by simp at h; omega)
theorem splitB_pieces (s : ByteArray) : Lib.splitB ⟨#[47]⟩ 0 (Lib.countB s ⟨#[47]⟩) s = (pieces s.data.toList).map strL := by
  have h := Lib.splitB_data ⟨#[47]⟩ 0 (Lib.countB s ⟨#[47]⟩) s
  have hc : Lib.countB s ⟨#[47]⟩ = s.data.toList.count 47 := by
    show Lib.count s.data.toList [47] = _
    exact Lib.count_one 47 _
  rw [hc] at h ⊢
  rw [show (⟨#[47]⟩ : ByteArray).data.toList = [47] from rfl, splitK_pieces _ _ (Nat.le_refl _)] at h
  rw [← h, List.map_map]
  exact (List.map_id'' (fun x => strL_of x) _).symm
set_option maxHeartbeats 1000000 in
theorem split_any (s : ByteArray) (w : World) (hs : s.size < 4294967281) :
    Calls Tryd.prog 31 #[.string s, .string ⟨#[47]⟩] w fun e w' => e = .returned (.slice (some ⟨w.heap.size, 0, none⟩) (pieces s.data.toList).length (pieces s.data.toList).length) ∧ w' = w.alloc (.cells (((pieces s.data.toList).map strL).map Value.string).toArray 9) := by
  have hI : ∀ (x : ByteArray) (c : Array Value), x.size ≤ s.size → Calls Tryd.prog 50 #[.string x, .string ⟨#[47]⟩] (w.alloc (.cells c 9)) fun e w' => e = .returned (.int .i64 (Lib.indexB x ⟨#[47]⟩)) ∧ w' = w.alloc (.cells c 9) := fun x c _ => by
    have h := Tryd.strings_Index_one x 47 (w.alloc (.cells c 9))
    have e : Lib.indexB x ⟨#[47]⟩ = Lib.indexByte x.data.toList 47 := by
      show Lib.index x.data.toList [47] = _
      exact Lib.index_one _ _
    rw [e]
    exact h
  have hC : Calls Tryd.prog 49 #[.string s, .string ⟨#[47]⟩] w fun e w' => e = .returned (.int .i64 (Lib.countB s ⟨#[47]⟩)) ∧ w' = w := by
    have h := Tryd.strings_Count_one s 47 w
    have e : Lib.countB s ⟨#[47]⟩ = Lib.countByte s.data.toList 47 := by
      show Lib.count s.data.toList [47] = _
      exact Lib.count_one 47 _
    rw [e]
    exact h
  have h1 : 1 ≤ (⟨#[47]⟩ : ByteArray).size := by decide
  have hle := Lib.countB_le ⟨#[47]⟩ h1 s.size s (Nat.le_refl _)
  have hlen := Lib.splitB_all ⟨#[47]⟩ h1 0 _ s rfl
  have G := Any.strings_genSplit_core (P := Tryd.prog) (ρ := Tryd.lays221_ren) Tryd.lays221 (by kernel_rfl) s ⟨#[47]⟩ 0 (-1) (Lib.countB s ⟨#[47]⟩ + 1) w hs h1 (Nat.zero_le _) hI hC (by decide) (by decide) (by rw [if_pos (by decide)]; omega)
  have e2 : Lib.cellsOf (Lib.splitB ⟨#[47]⟩ 0 (Lib.countB s ⟨#[47]⟩) s) (Lib.countB s ⟨#[47]⟩ + 1) = ((Lib.splitB ⟨#[47]⟩ 0 (Lib.countB s ⟨#[47]⟩) s).map Value.string).toArray := by rw [← hlen]; exact Lib.cellsOf_full _
  rw [Nat.add_sub_cancel, e2, hlen] at G
  rw [splitB_pieces] at G hlen
  rw [List.length_map] at hlen
  have G2 : Calls Tryd.prog 41 #[.string s, .string ⟨#[47]⟩, .int .i64 0, .int .i64 (-1)] w fun e w' => e = .returned (.slice (some ⟨w.heap.size, 0, none⟩) (pieces s.data.toList).length (pieces s.data.toList).length) ∧ w' = w.alloc (.cells (((pieces s.data.toList).map strL).map Value.string).toArray 9) := by
    rw [hlen]; exact G
  clear G hI hC hle hlen e2
  obtain ⟨ps, hps⟩ : ∃ ps, pieces s.data.toList = ps := ⟨_, rfl⟩
  rw [hps] at G2 ⊢
  go_enter Tryd.func31, Tryd.ntmps31
  go_wp2_with (go_at_call 41; refine G2.mono ?_; rintro e w' ⟨rfl, hw⟩)
  go_ret
  exact ⟨rfl, by rw [List.map_map]⟩
end Go.Proofs.YtnjpodbefcfdhaaDoor
