/- A call's number, a number's call; both of the reference: what each answers. No conditions. -/
import Derived.Test.YtjmmbadpknlmcaaCalls
import Derived.Test.YtjmmbadpknlmcaaCond
namespace Go.Proofs.Ytjmmbadpknlmcaa
open Go.RowKit Go.Great
attribute [local go_sem ↓] Go.wp_at_zero Go.wp_at_succ
set_option linter.unusedVariables false
set_option linter.unusedSimpArgs false

theorem bchain {a b c : World} {n : Nat} (h1 : Below n a b) (hn : n ≤ b.heap.size) (h2 : Below b.heap.size b c) : Below n a c := h1.trans (h2.mono hn)

theorem bytes_ne {a s : ByteArray} (h : ¬ a = s) : (a.toList == s.toList) = false := by
  rw [beq_eq_false_iff_ne, ByteArray.toList_eq, ByteArray.toList_eq]
  intro h'
  exact h (ByteArray.ext (Array.toList_inj.1 h'))
theorem call_at : ∀ (k : Nat) (x : ByteArray × Int), known[k]? = some x → callCells[k * 2]? = some (.string x.1) ∧ callCells[k * 2 + 1]? = some (.int .u32 x.2)
  | 0, x, h => by cases h; exact ⟨rfl, rfl⟩
  | 1, x, h => by cases h; exact ⟨rfl, rfl⟩
  | 2, x, h => by cases h; exact ⟨rfl, rfl⟩
  | 3, x, h => by cases h; exact ⟨rfl, rfl⟩
  | 4, x, h => by cases h; exact ⟨rfl, rfl⟩
  | 5, x, h => by cases h; exact ⟨rfl, rfl⟩
  | 6, x, h => by cases h; exact ⟨rfl, rfl⟩
  | 7, x, h => by cases h; exact ⟨rfl, rfl⟩
  | 8, x, h => by cases h; exact ⟨rfl, rfl⟩
  | 9, x, h => by cases h; exact ⟨rfl, rfl⟩
  | 10, x, h => by cases h; exact ⟨rfl, rfl⟩
  | 11, x, h => by cases h; exact ⟨rfl, rfl⟩
  | 12, x, h => by cases h; exact ⟨rfl, rfl⟩
  | 13, x, h => by cases h; exact ⟨rfl, rfl⟩
  | 14, x, h => by cases h; exact ⟨rfl, rfl⟩
  | 15, x, h => by cases h; exact ⟨rfl, rfl⟩
  | 16, x, h => by cases h; exact ⟨rfl, rfl⟩
  | 17, x, h => by cases h; exact ⟨rfl, rfl⟩
  | 18, x, h => by cases h; exact ⟨rfl, rfl⟩
  | 19, x, h => by cases h; exact ⟨rfl, rfl⟩
  | 20, x, h => by cases h; exact ⟨rfl, rfl⟩
  | 21, x, h => by cases h; exact ⟨rfl, rfl⟩
  | 22, x, h => by cases h; exact ⟨rfl, rfl⟩
  | 23, x, h => by cases h; exact ⟨rfl, rfl⟩
  | 24, x, h => by cases h; exact ⟨rfl, rfl⟩
  | 25, x, h => by cases h; exact ⟨rfl, rfl⟩
  | 26, x, h => by cases h; exact ⟨rfl, rfl⟩
  | 27, x, h => by cases h; exact ⟨rfl, rfl⟩
  | 28, x, h => by cases h; exact ⟨rfl, rfl⟩
  | 29, x, h => by cases h; exact ⟨rfl, rfl⟩
  | k + 30, x, h => by simp [known] at h
def nameCells : Array Value := #[.string ⟨#[114, 101, 97, 100]⟩, .string ⟨#[119, 114, 105, 116, 101]⟩, .string ⟨#[111, 112, 101, 110]⟩, .string ⟨#[99, 108, 111, 115, 101]⟩, .string ⟨#[115, 116, 97, 116]⟩, .string ⟨#[102, 115, 116, 97, 116]⟩, .string ⟨#[108, 115, 116, 97, 116]⟩, .string ⟨#[112, 111, 108, 108]⟩, .string ⟨#[108, 115, 101, 101, 107]⟩, .string ⟨#[109, 109, 97, 112]⟩, .string ⟨#[109, 112, 114, 111, 116, 101, 99, 116]⟩, .string ⟨#[109, 117, 110, 109, 97, 112]⟩, .string ⟨#[98, 114, 107]⟩, .string ⟨#[105, 111, 99, 116, 108]⟩, .string ⟨#[97, 99, 99, 101, 115, 115]⟩, .string ⟨#[112, 105, 112, 101]⟩, .string ⟨#[100, 117, 112]⟩, .string ⟨#[103, 101, 116, 112, 105, 100]⟩, .string ⟨#[115, 111, 99, 107, 101, 116]⟩, .string ⟨#[99, 111, 110, 110, 101, 99, 116]⟩, .string ⟨#[102, 111, 114, 107]⟩, .string ⟨#[101, 120, 101, 99, 118, 101]⟩, .string ⟨#[101, 120, 105, 116]⟩, .string ⟨#[119, 97, 105, 116, 52]⟩, .string ⟨#[107, 105, 108, 108]⟩, .string ⟨#[117, 110, 97, 109, 101]⟩, .string ⟨#[109, 107, 100, 105, 114]⟩, .string ⟨#[117, 110, 108, 105, 110, 107]⟩, .string ⟨#[111, 112, 101, 110, 97, 116]⟩, .string ⟨#[115, 101, 99, 99, 111, 109, 112]⟩]
def nrCells : Array Value := #[.int .u32 0, .int .u32 1, .int .u32 2, .int .u32 3, .int .u32 4, .int .u32 5, .int .u32 6, .int .u32 7, .int .u32 8, .int .u32 9, .int .u32 10, .int .u32 11, .int .u32 12, .int .u32 16, .int .u32 21, .int .u32 22, .int .u32 32, .int .u32 39, .int .u32 41, .int .u32 42, .int .u32 57, .int .u32 59, .int .u32 60, .int .u32 61, .int .u32 62, .int .u32 63, .int .u32 83, .int .u32 87, .int .u32 257, .int .u32 317]
theorem name_at : ∀ (k : Nat) (x : ByteArray × Int), known[k]? = some x → nameCells[k]? = some (.string x.1)
  | 0, x, h => by cases h; exact rfl
  | 1, x, h => by cases h; exact rfl
  | 2, x, h => by cases h; exact rfl
  | 3, x, h => by cases h; exact rfl
  | 4, x, h => by cases h; exact rfl
  | 5, x, h => by cases h; exact rfl
  | 6, x, h => by cases h; exact rfl
  | 7, x, h => by cases h; exact rfl
  | 8, x, h => by cases h; exact rfl
  | 9, x, h => by cases h; exact rfl
  | 10, x, h => by cases h; exact rfl
  | 11, x, h => by cases h; exact rfl
  | 12, x, h => by cases h; exact rfl
  | 13, x, h => by cases h; exact rfl
  | 14, x, h => by cases h; exact rfl
  | 15, x, h => by cases h; exact rfl
  | 16, x, h => by cases h; exact rfl
  | 17, x, h => by cases h; exact rfl
  | 18, x, h => by cases h; exact rfl
  | 19, x, h => by cases h; exact rfl
  | 20, x, h => by cases h; exact rfl
  | 21, x, h => by cases h; exact rfl
  | 22, x, h => by cases h; exact rfl
  | 23, x, h => by cases h; exact rfl
  | 24, x, h => by cases h; exact rfl
  | 25, x, h => by cases h; exact rfl
  | 26, x, h => by cases h; exact rfl
  | 27, x, h => by cases h; exact rfl
  | 28, x, h => by cases h; exact rfl
  | 29, x, h => by cases h; exact rfl
  | k + 30, x, h => by simp [known] at h
theorem nr_at : ∀ (k : Nat) (x : ByteArray × Int), known[k]? = some x → nrCells[k]? = some (.int .u32 x.2)
  | 0, x, h => by cases h; exact rfl
  | 1, x, h => by cases h; exact rfl
  | 2, x, h => by cases h; exact rfl
  | 3, x, h => by cases h; exact rfl
  | 4, x, h => by cases h; exact rfl
  | 5, x, h => by cases h; exact rfl
  | 6, x, h => by cases h; exact rfl
  | 7, x, h => by cases h; exact rfl
  | 8, x, h => by cases h; exact rfl
  | 9, x, h => by cases h; exact rfl
  | 10, x, h => by cases h; exact rfl
  | 11, x, h => by cases h; exact rfl
  | 12, x, h => by cases h; exact rfl
  | 13, x, h => by cases h; exact rfl
  | 14, x, h => by cases h; exact rfl
  | 15, x, h => by cases h; exact rfl
  | 16, x, h => by cases h; exact rfl
  | 17, x, h => by cases h; exact rfl
  | 18, x, h => by cases h; exact rfl
  | 19, x, h => by cases h; exact rfl
  | 20, x, h => by cases h; exact rfl
  | 21, x, h => by cases h; exact rfl
  | 22, x, h => by cases h; exact rfl
  | 23, x, h => by cases h; exact rfl
  | 24, x, h => by cases h; exact rfl
  | 25, x, h => by cases h; exact rfl
  | 26, x, h => by cases h; exact rfl
  | 27, x, h => by cases h; exact rfl
  | 28, x, h => by cases h; exact rfl
  | 29, x, h => by cases h; exact rfl
  | k + 30, x, h => by simp [known] at h
theorem known_length : known.length = 30 := rfl

def nrL : List (ByteArray × Int) → ByteArray → Int × Bool
  | [], _ => (0, false)
  | x :: L, s => if x.1 = s then (x.2, true) else nrL L s
def nameL : List (ByteArray × Int) → Int → ByteArray × Bool
  | [], _ => (⟨#[]⟩, false)
  | x :: L, n => if x.2 = n then (x.1, true) else nameL L n
theorem nrL_at {L : List (ByteArray × Int)} {k : Nat} {a : ByteArray} {b : Int} (h : L[k]? = some (a, b)) (s : ByteArray) : nrL (L.drop k) s = if a = s then (b, true) else nrL (L.drop (k + 1)) s := by
  have hl := (List.getElem?_eq_some_iff.1 h).1
  rw [List.drop_eq_getElem_cons hl, (List.getElem?_eq_some_iff.1 h).2]
  rfl
theorem nameL_at {L : List (ByteArray × Int)} {k : Nat} {a : ByteArray} {b : Int} (h : L[k]? = some (a, b)) (s : Int) : nameL (L.drop k) s = if b = s then (a, true) else nameL (L.drop (k + 1)) s := by
  have hl := (List.getElem?_eq_some_iff.1 h).1
  rw [List.drop_eq_getElem_cons hl, (List.getElem?_eq_some_iff.1 h).2]
  rfl
def nrV (s : ByteArray) : Int × Bool := nrL known s
def nameV (n : Int) : ByteArray × Bool := nameL known n
def nrT (s : ByteArray) : Value := .tuple #[.int .u32 (nrV s).1, .bool (nrV s).2]
def nameT (n : Int) : Value := .tuple #[.string (nameV n).1, .bool (nameV n).2]

set_option maxRecDepth 100000 in
set_option maxHeartbeats 1000000 in
theorem names_is (w : World) : Calls Try.prog 43 #[] w (fun e w' => e = .returned (.slice (some ⟨w.heap.size, 0, none⟩) 30 30) ∧ w' = w.alloc (.cells nameCells 9)) := by
  go_enter Try.func43, Try.ntmps43
  go_step
  go_step
  go_step
  go_step
  go_step
  go_step
  go_step
  go_step
  go_step
  go_step
  go_step
  refine wpList_buildSliceTo rfl 41 9 30 _ rfl w.heap.size rfl (some 1) rfl (by kernel_rfl) nameCells (by kernel_rfl) ?_
  refine wpList_runTo rfl (some 0) rfl (.slice (some ⟨w.heap.size, 0, none⟩) 30 30) (w.alloc (.cells nameCells 9)) (by kernel_rfl) ?_
  refine wpList_nil ?_
  rename_i hK
  refine hK _ _ ?_
  apply wp_ret
  refine bodyPost_ret (fn := Try.f43) (v := .slice (some ⟨w.heap.size, 0, none⟩) 30 30) ?_ (by kernel_rfl) ⟨rfl, rfl⟩
  kernel_rfl

set_option maxRecDepth 100000 in
set_option maxHeartbeats 1000000 in
theorem nrs_is (w : World) : Calls Try.prog 44 #[] w (fun e w' => e = .returned (.slice (some ⟨w.heap.size, 0, none⟩) 30 30) ∧ w' = w.alloc (.cells nrCells 45)) := by
  go_enter Try.func44, Try.ntmps44
  go_step
  go_step
  go_step
  go_step
  go_step
  go_step
  go_step
  go_step
  go_step
  go_step
  go_step
  refine wpList_buildSliceTo rfl 60 45 30 _ rfl w.heap.size rfl (some 1) rfl (by kernel_rfl) nrCells (by kernel_rfl) ?_
  refine wpList_runTo rfl (some 0) rfl (.slice (some ⟨w.heap.size, 0, none⟩) 30 30) (w.alloc (.cells nrCells 45)) (by kernel_rfl) ?_
  refine wpList_nil ?_
  rename_i hK
  refine hK _ _ ?_
  apply wp_ret
  refine bodyPost_ret (fn := Try.f44) (v := .slice (some ⟨w.heap.size, 0, none⟩) 30 30) ?_ (by kernel_rfl) ⟨rfl, rfl⟩
  kernel_rfl

def NrRel (f : List (ByteArray × Int) → Prop) (w0 wa : World) (i : Value) (wr : World) : Prop :=
  ∃ k : Nat, k ≤ 30 ∧ i = .int .i64 k ∧ Below wa.heap.size wa wr ∧ f (known.drop k)
theorem cell_of_calls {w wr : World} (hb : Below (w.alloc (.cells callCells 111)).heap.size (w.alloc (.cells callCells 111)) wr) {j : Nat} {v : Value} (h : callCells[j]? = some v) : wr.cell? ⟨w.heap.size, j, none⟩ = some v :=
  keep_cell hb (by rw [World.cell?_alloc_new]; exact h)
theorem cell_of_names {w wr : World} (hb : Below (w.alloc (.cells nameCells 9)).heap.size (w.alloc (.cells nameCells 9)) wr) {j : Nat} {v : Value} (h : nameCells[j]? = some v) : wr.cell? ⟨w.heap.size, j, none⟩ = some v :=
  keep_cell hb (by rw [World.cell?_alloc_new]; exact h)
theorem cell_of_nrs {w wr : World} (hb : Below (w.alloc (.cells nrCells 45)).heap.size (w.alloc (.cells nrCells 45)) wr) {j : Nat} {v : Value} (h : nrCells[j]? = some v) : wr.cell? ⟨w.heap.size, j, none⟩ = some v :=
  keep_cell hb (by rw [World.cell?_alloc_new]; exact h)
theorem below_of {w wr : World} {o : Obj} (hb : Below (w.alloc o).heap.size (w.alloc o) wr) : Below w.heap.size w wr := bchain ((Below.refl _ _).alloc (Nat.le_refl _) o) (by simp) hb

set_option maxRecDepth 100000 in
set_option maxHeartbeats 2000000 in
theorem nr_any (s : ByteArray) (w : World) : Calls Try.prog 34 #[.string s] w (Ret (nrT s) w) := by
  have C := calls_is w
  go_enter Try.func34, Try.ntmps34
  go_wp2_with (go_at_call 36; (with_reducible refine C.mono ?_); rintro e w1 ⟨rfl, rfl⟩)
  generalize hwa : w.alloc (.cells callCells 111) = wa
  go_loopw [8] (fun i wr => NrRel (fun L => nrL known s = nrL L s) w wa i wr) (fun i _ => 30 - (intOf i).toNat)
  case atStart => exact ⟨0, by omega, rfl, Below.refl _ _, rfl⟩
  case round =>
    obtain ⟨k, hk, rfl, hb, hf⟩ := hrel
    by_cases hlt : k < 30
    · obtain ⟨⟨a, b⟩, hx⟩ : ∃ x, known[k]? = some x := ⟨_, List.getElem?_eq_getElem (by rw [known_length]; exact hlt)⟩
      obtain ⟨e0, e1⟩ := call_at k _ hx
      have c0 : wr.cell? ⟨w.heap.size, k * 2, none⟩ = some (.string a) := by subst hwa; exact cell_of_calls hb e0
      have c1 : wr.cell? ⟨w.heap.size, k * 2 + 1, none⟩ = some (.int .u32 b) := by subst hwa; exact cell_of_calls hb e1
      have hat := nrL_at hx s
      rw [hat] at hf
      have hlt' : (k : Int) < 30 := by omega
      have Hw := Lib.hid hwa
      clear e0 e1 hat hx hwa
      by_cases hab : a = s
      · rw [if_pos hab] at hf
        have Hf := Lib.hid hf
        clear hf
        go_wp2
        go_ret2
        refine ⟨by rw [nrT, nrV, Hf.out]; rfl, ?_⟩
        have := Hw.out
        subst this
        exact (below_of hb).alloc (below_of hb).size _
      · rw [if_neg hab] at hf
        have Hf := Lib.hid hf
        clear hf
        have hne := bytes_ne hab
        go_wp2
        go_roundw
        case rel => exact ⟨k + 1, by omega, by go_num, hb.alloc hb.size _, Hf.out⟩
        case measure => (simp [intOf] <;> omega)
    · obtain rfl : k = 30 := by omega
      have hf : nrL known s = nrL [] s := hf
      have Hf := Lib.hid hf
      have Hw := Lib.hid hwa
      clear hf hwa
      go_wp2
      go_ret2
      refine ⟨by rw [nrT, nrV, Hf.out]; rfl, ?_⟩
      have := Hw.out
      subst this
      exact below_of hb

set_option maxRecDepth 100000 in
set_option maxHeartbeats 2000000 in
theorem name_any (s : Int) (w : World) : Calls Try.prog 21 #[.int .u32 s] w (Ret (nameT s) w) := by
  have C := calls_is w
  go_enter Try.func21, Try.ntmps21
  go_wp2_with (go_at_call 36; (with_reducible refine C.mono ?_); rintro e w1 ⟨rfl, rfl⟩)
  generalize hwa : w.alloc (.cells callCells 111) = wa
  go_loopw [8] (fun i wr => NrRel (fun L => nameL known s = nameL L s) w wa i wr) (fun i _ => 30 - (intOf i).toNat)
  case atStart => exact ⟨0, by omega, rfl, Below.refl _ _, rfl⟩
  case round =>
    obtain ⟨k, hk, rfl, hb, hf⟩ := hrel
    by_cases hlt : k < 30
    · obtain ⟨⟨a, b⟩, hx⟩ : ∃ x, known[k]? = some x := ⟨_, List.getElem?_eq_getElem (by rw [known_length]; exact hlt)⟩
      obtain ⟨e0, e1⟩ := call_at k _ hx
      have c0 : wr.cell? ⟨w.heap.size, k * 2, none⟩ = some (.string a) := by subst hwa; exact cell_of_calls hb e0
      have c1 : wr.cell? ⟨w.heap.size, k * 2 + 1, none⟩ = some (.int .u32 b) := by subst hwa; exact cell_of_calls hb e1
      have hat := nameL_at hx s
      rw [hat] at hf
      have hlt' : (k : Int) < 30 := by omega
      have Hw := Lib.hid hwa
      clear e0 e1 hat hx hwa
      by_cases hab : b = s
      · rw [if_pos hab] at hf
        have Hf := Lib.hid hf
        clear hf
        go_wp2
        go_ret2
        refine ⟨by rw [nameT, nameV, Hf.out]; rfl, ?_⟩
        have := Hw.out
        subst this
        exact (below_of hb).alloc (below_of hb).size _
      · rw [if_neg hab] at hf
        have Hf := Lib.hid hf
        clear hf
        skip
        go_wp2
        go_roundw
        case rel => exact ⟨k + 1, by omega, by go_num, hb.alloc hb.size _, Hf.out⟩
        case measure => (simp [intOf] <;> omega)
    · obtain rfl : k = 30 := by omega
      have hf : nameL known s = nameL [] s := hf
      have Hf := Lib.hid hf
      have Hw := Lib.hid hwa
      clear hf hwa
      go_wp2
      go_ret2
      refine ⟨by rw [nameT, nameV, Hf.out]; rfl, ?_⟩
      have := Hw.out
      subst this
      exact below_of hb

set_option maxRecDepth 100000 in
set_option maxHeartbeats 2000000 in
theorem ref_nr_any (s : ByteArray) (w : World) : Calls Try.prog 25 #[.string s] w (Ret (nrT s) w) := by
  have C := names_is w
  go_enter Try.func25, Try.ntmps25
  go_wp2_with (go_at_call 43; (with_reducible refine C.mono ?_); rintro e w1 ⟨rfl, rfl⟩)
  generalize hwa : w.alloc (.cells nameCells 9) = wa
  go_loopw [5] (fun i wr => NrRel (fun L => nrL known s = nrL L s) w wa i wr) (fun i _ => 30 - (intOf i).toNat)
  case atStart => exact ⟨0, by omega, rfl, Below.refl _ _, rfl⟩
  case round =>
    obtain ⟨k, hk, rfl, hb, hf⟩ := hrel
    by_cases hlt : k < 30
    · obtain ⟨⟨a, b⟩, hx⟩ : ∃ x, known[k]? = some x := ⟨_, List.getElem?_eq_getElem (by rw [known_length]; exact hlt)⟩
      have e0 := name_at k _ hx
      have e1 := nr_at k _ hx
      have c0 : wr.cell? ⟨w.heap.size, k, none⟩ = some (.string a) := by subst hwa; exact cell_of_names hb e0
      have hat := nrL_at hx s
      rw [hat] at hf
      have hlt' : (k : Int) < 30 := by omega
      have Hw := Lib.hid hwa
      have C2 := nrs_is
      clear e0 hat hx hwa
      by_cases hab : a = s
      · rw [if_pos hab] at hf
        have Hf := Lib.hid hf
        have He := Lib.hid e1
        clear hf e1
        go_wp2_with (go_at_call 44; (with_reducible refine (C2 _).mono ?_); rintro e w2 ⟨rfl, hw2⟩; have d0 : w2.cell? ⟨wr.heap.size, k, none⟩ = some (.int .u32 b) := (by rw [hw2]; exact cell_of_nrs (Below.refl _ _) He.out); have hb2 : Below wr.heap.size wr w2 := (by rw [hw2]; exact (Below.refl _ _).alloc (Nat.le_refl _) _); have Hw2 := Lib.hid hw2; clear hw2)
        go_ret2
        refine ⟨by rw [nrT, nrV, Hf.out]; rfl, ?_⟩
        have := Hw.out
        subst this
        exact bchain (below_of hb) (below_of hb).size hb2
      · rw [if_neg hab] at hf
        have Hf := Lib.hid hf
        clear hf
        have hne := bytes_ne hab
        go_wp2
        go_roundw
        case rel => exact ⟨k + 1, by omega, by go_num, hb, Hf.out⟩
        case measure => (simp [intOf] <;> omega)
    · obtain rfl : k = 30 := by omega
      have hf : nrL known s = nrL [] s := hf
      have Hf := Lib.hid hf
      have Hw := Lib.hid hwa
      clear hf hwa
      go_wp2
      go_ret2
      refine ⟨by rw [nrT, nrV, Hf.out]; rfl, ?_⟩
      have := Hw.out
      subst this
      exact below_of hb

end Go.Proofs.Ytjmmbadpknlmcaa
