/- awake is true. No conditions. -/
import Derived.Test.YtocfklnoklmocaaSeen
import Derived.Test.YtocfklnoklmocaaTick
namespace Go.Proofs.Ytocfklnoklmocaa
open Go.RowKit
set_option linter.unusedVariables false
set_option linter.unusedSimpArgs false

def aw1 : Int → Option Int := upd (fun _ => none) 7 2
theorem aw1_fine : Fine 2 aw1 := (show Fine 2 (fun _ => none) from ⟨by omega, by omega, fun x c h => by cases h⟩).upd 7
theorem aw1_none {ks : List Int} (h : Keys aw1 (fun c => c == 1) ks) : ks = [] :=
  h.same List.Pairwise.nil (fun x => by
    constructor
    · intro h; simp at h
    · rintro ⟨c, h1, h2⟩
      unfold aw1 upd at h1
      split at h1
      · cases h1; simp at h2
      · cases h1)
theorem aw2_one {ks : List Int} (h : Keys (tickF 2 aw1) (fun c => c == 1) ks) : ks = [7] :=
  h.same (by simp) (fun x => by
    constructor
    · intro h
      obtain rfl : x = 7 := by simpa using h
      exact ⟨1, rfl, rfl⟩
    · rintro ⟨c, h1, h2⟩
      unfold tickF aw1 upd at h1
      by_cases hx : x = 7
      · simp [hx]
      · simp [hx] at h1)
theorem u64_7 : U64 7 := by unfold U64; decide
theorem u64_5 : U64 5 := by unfold U64; decide

set_option maxRecDepth 100000 in
set_option maxHeartbeats 4000000 in
theorem awake_any (w : World) : Calls Try.prog 8 #[] w (Ret (.bool true) w) := by
  have N := new_ok 2 (by omega) (by omega) w
  have S := fun b B w1 => set_any b B 0 2 7 (fun _ => none) w1 u64_7 (by decide) (by omega)
  have Tk := fun b B w2 => tick_any b B 1 2 aw1 w2 (by omega) aw1_fine
  have Tk2 := fun b B w2 => tick_any b B 1 2 (tickF 2 aw1) w2 (by omega) aw1_fine.tick
  have TA := fun W w4 h => take_any w4 none [] 5 W u64_5 (by simp) h
  have TB := fun W w4 B h => take_any w4 (some B) (addL [] 5) 5 W u64_5 (by simp [addL]) h
  have MA := fun W w4 B h => many_any w4 (some B) (addL (addL [] 5) 5) W h
  go_enter Try.func8, Try.ntmps8
  go_wp2_with (first
    | (go_at_call 11; refine N.mono ?_; rintro e w1 ⟨b, B, rfl, hbl, hBl, T1, k1⟩)
    | (go_at_call 13; refine (S b B w1 T1).mono ?_; rintro e w2 ⟨rfl, T2, u2⟩; have T2' : TimAt w2 b B 1 2 aw1 := T2)
    | (go_at_call 18; refine (Tk b B w2 T2').mono ?_; rintro e w3 ⟨A, c, ks, rfl, n3, k3, _, _, T3, u3⟩; obtain rfl := aw1_none k3)
    | (go_at_call 18; refine (Tk2 b B w3 T3).mono ?_; rintro e w4 ⟨A4, c4, ks4, rfl, n4, k4, _, _, T4, u4⟩; obtain rfl := aw2_one k4; obtain ⟨_, _, e4, h4⟩ := n4; injection e4 with e4a e4b e4c; subst e4a; obtain ⟨g4, o4, rfl, hc4⟩ := h4 (by simp); have hx4 := hc4 0 7 rfl; rw [Nat.add_zero] at hx4; have hl4 := World.block_lt_of_cell? _ _ hx4)
    | (go_at_call 9; refine (TA _ w4.heap.size (SeenAt.new w4)).mono ?_; rintro e w5 ⟨rfl, B5, S5, hB5, u5⟩)
    | (go_at_call 9; refine (TB _ w4.heap.size B5 S5).mono ?_; rintro e w6 ⟨rfl, B6, S6, hB6, u6⟩; have x6 : w6.cell? ⟨g4, o4, none⟩ = some (.int .u64 7) := u6.cell (fun h => by
          rcases h with h | h
          · have h : g4 = w4.heap.size := h
            omega
          · have h : some B5 = some g4 := h
            cases h
            rcases hB5 with h | h
            · cases h
            · simp at h; omega) (u5.cell (fun h => by
          rcases h with h | h
          · have h : g4 = w4.heap.size := h
            omega
          · cases h) (keep_cell (below_alloc w4 _) hx4)))
    | (go_at_call 10; refine (MA _ w4.heap.size B6 S6).mono ?_; rintro e w7 ⟨rfl, rfl⟩))
  go_ret
  refine ⟨rfl, ?_⟩
  have h1 := below_upto (S := fun _ => False) k1
  have h2 := h1.trans u2 (fun k hk => .inr (by rw [hk]; exact hBl))
  have h3 := h2.trans u3 (fun k hk => .inr (by rw [hk]; exact hBl))
  have h4 := h3.trans u4 (fun k hk => .inr (by rw [hk]; exact hBl))
  have hz := h4.size
  have h5 := (h4.alloc (.cells #[.map none] 26)).trans u5 (fun k hk => .inr (by
    rcases hk with h | h
    · rw [h]; exact hz
    · cases h))
  have hz5 := h5.size
  have h6 := h5.trans u6 (fun k hk => .inr (by
    rcases hk with h | h
    · rw [h]; exact hz
    · cases h
      rcases hB5 with h | h
      · cases h
      · simp at h; omega))
  exact h6.toBelow (Nat.le_refl _) (fun _ h => h.elim)
end Go.Proofs.Ytocfklnoklmocaa
