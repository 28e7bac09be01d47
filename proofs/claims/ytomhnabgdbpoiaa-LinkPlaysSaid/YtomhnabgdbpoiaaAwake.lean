/- awake: it answers true. No conditions. -/
import Derived.Test.YtomhnabgdbpoiaaAny
import Derived.Lib.SmallJoins
import Derived.Laws.BytesArg
namespace Go.Proofs.Ytomhnabgdbpoiaa
open Go.RowKit
attribute [local go_sem ↓] Go.wp_at_zero Go.wp_at_succ
set_option linter.unusedVariables false
set_option linter.unusedSimpArgs false

def Ret (v : Value) (w : World) (e : Ending) (w' : World) : Prop := e = .returned v ∧ Below w.heap.size w w'

theorem LinkAt.alloc {w : World} {g : Nat} {s : St} {F : Nat → Prop} (h : LinkAt w g s F) (o : Obj) : LinkAt (w.alloc o) g s F := h.keep ((Upto.refl (fun _ => False) _).alloc o) (fun _ _ h => h)
theorem LinkAt.drew {w : World} {g : Nat} {s : St} {F : Nat → Prop} (h : LinkAt w g s F) : LinkAt w.drew g s F := h.keep ((Upto.refl (fun _ => False) _).drew) (fun _ _ h => h)

theorem bytes_lit (w : World) (b : Int) (t : TypeId) (fr : Nat × Nat) (c g : Nat) (hg : g = w.heap.size) : BytesIn (w.alloc (.cells #[.int .u8 b] t fr)) (.slice (some ⟨g, 0, none⟩) 1 c) [b] := by
  subst hg
  refine ⟨_, _, rfl, fun _ => ⟨_, rfl, fun j u hj => ?_⟩⟩
  rw [addr_add, Nat.zero_add, World.cell?_alloc_mark]
  simpa using hj

/-- Since the world w0 only blocks made after it have turned; the link's blocks are such ones. -/
def Since (w0 w : World) (F : Nat → Prop) : Prop := Upto (fun _ => False) w0 w ∧ ∀ k, F k → w0.heap.size ≤ k ∧ k < w.heap.size
theorem Since.made (w : World) (o : Obj) : Since w (w.alloc o) (fun k => k = w.heap.size) := ⟨(Upto.refl _ _).alloc o, fun k h => by subst h; simp⟩
theorem Since.alloc {w0 w : World} {F : Nat → Prop} (h : Since w0 w F) (o : Obj) : Since w0 (w.alloc o) F := ⟨h.1.alloc o, fun k hk => ⟨(h.2 k hk).1, by have := (h.2 k hk).2; simp; omega⟩⟩
theorem Since.drew {w0 w : World} {F : Nat → Prop} (h : Since w0 w F) : Since w0 w.drew F := ⟨h.1.drew, h.2⟩
theorem Since.step {w0 w w' : World} {F F' D : Nat → Prop} (h : Since w0 w F) (U : Upto F w w') (G : ∀ k, F' k → (F k ∧ ¬ D k) ∨ (w.heap.size ≤ k ∧ k < w'.heap.size)) : Since w0 w' F' :=
  ⟨h.1.trans U (fun k hk => .inr (h.2 k hk).1), fun k hk => by
    rcases G k hk with h' | h'
    · exact ⟨(h.2 k h'.1).1, Nat.lt_of_lt_of_le (h.2 k h'.1).2 U.size⟩
    · exact ⟨Nat.le_trans h.1.size h'.1, h'.2⟩⟩
theorem Since.below {w0 w : World} {F : Nat → Prop} (h : Since w0 w F) : Below w0.heap.size w0 w := h.1.toBelow (Nat.le_refl _) (fun _ h => h.elim)

/-- Both rows. -/
def two (a b : List (List Int)) : St := fun u => if u then a else b
theorem send_is (g : Nat) (st : St) (F : Nat → Prop) (up : Bool) (bv : Value) (bs : List Int) (w : World) (hL : LinkAt w g st F) (hb : BytesIn w bv bs) (b : Bool) (st' : St) (h1 : sendOk (st up) bs = b) (h2 : sendP st up bs = st') :
    Calls Try.prog 9 #[.pointer (some ⟨g, 0, none⟩), .bool up, bv] w (Turns (.bool b) w g F st') := by
  subst h1 h2; exact send_any g st F up bv bs w hL hb
theorem spoil_is (g : Nat) (st : St) (F : Nat → Prop) (w : World) (hL : LinkAt w g st F) (j bit : Int) (jr : j < 9223372036854775808) (b : Bool) (st' : St) (h1 : dropB st j = b) (h2 : spoilP st j bit = st') :
    Calls Try.prog 15 #[.pointer (some ⟨g, 0, none⟩), .int .i64 j, .int .i64 bit] w (Turns (.bool b) w g F st') := by
  subst h1 h2; exact spoil_any g st F w hL j bit jr
theorem len_is (g : Nat) (st : St) (F : Nat → Prop) (up : Bool) (w : World) (hL : LinkAt w g st F) (n : Int) (h : ((st up).length : Int) = n) : Calls Try.prog 11 #[.pointer (some ⟨g, 0, none⟩), .bool up] w (Same (.int .i64 n) w) := by
  subst h; exact len_any g st F up w hL

theorem aw1 : sendOk ((fun _ => [] : St) true) [97] = true := by decide
theorem aw2 : sendP (fun _ => []) true [97] = two [[97]] [] := by funext u; cases u <;> rfl
theorem aw3 : sendOk (two [[97]] [] false) [99] = true := by decide
theorem aw4 : sendP (two [[97]] []) false [99] = two [[97]] [[99]] := by funext u; cases u <;> rfl
theorem aw5 : dropB (two [[97]] [[99]]) 1 = true := by decide
theorem aw6 : spoilP (two [[97]] [[99]]) 1 0 = two [[97]] [[98]] := by funext u; cases u <;> decide +kernel
theorem aw7 : upd (two [[97]] [[98]]) false ((two [[97]] [[98]] false).take 0 ++ (two [[97]] [[98]] false).drop (0 + 1)) = two [[97]] [] := by funext u; cases u <;> rfl

/-- What Take tells where there is a frame: its bytes can be turned into a string. -/
def TakesIs (w : World) (g : Nat) (F : Nat → Prop) (bs : List Int) (st' : St) (e : Ending) (w' : World) : Prop :=
  ∃ (gb c : Nat), e = .returned (.tuple #[.slice (some ⟨gb, 0, none⟩) bs.length c, .bool true]) ∧ Frm w' (.slice (some ⟨gb, 0, none⟩) bs.length c) gb bs ∧ 0 < bs.length ∧ bs.length ≤ 1024 ∧ F gb ∧ LinkPost w g F (Gone gb) st' w'
theorem take_is (g : Nat) (st : St) (F : Nat → Prop) (w : World) (hL : LinkAt w g st F) (up : Bool) (k : Nat) (bs : List Int) (st' : St) (h1 : (st up)[k]? = some bs) (h2 : upd st up ((st up).take k ++ (st up).drop (k + 1)) = st') :
    Calls Try.prog 10 #[.pointer (some ⟨g, 0, none⟩), .bool up, .int .i64 k] w (TakesIs w g F bs st') := by
  refine (take_any g st F w hL up k).mono ?_
  rintro e w' (⟨n, hn, hlt, fv, gb, bs', rfl, hbs, hF, h0, h3, hFg, hP⟩ | ⟨h, _⟩)
  · obtain rfl : k = n := by omega
    obtain rfl : bs = bs' := by rw [h1] at hbs; exact Option.some.inj hbs
    obtain ⟨c, rfl, _⟩ := frm_form hF
    subst h2
    exact ⟨gb, c, rfl, hF, h0, h3, hFg, hP⟩
  · have := (List.getElem?_eq_some_iff.1 h1).1
    omega

theorem Frm.conv {w : World} {gb n c : Nat} {bs : List Int} (h : Frm w (.slice (some ⟨gb, 0, none⟩) n c) gb bs) (hn : bs.length = n) : (convert 30 9 (.slice (some ⟨gb, 0, none⟩) n c)).run Try.prog w = .ok (.string (strOfNums bs)) w := by
  refine run_convert_bytes_arg (P := Try.prog) w 30 5 Try.underlying30 Try.underlying5 gb 0 n c bs hn (fun j hj => ?_) 9 Try.underlying9
  have hj' : j < bs.length := by omega
  have := h.1.cells (g := gb) rfl j (.int .u8 (bs.getD j 0)) (by simp [List.getElem?_eq_getElem hj', List.getD_eq_getElem?_getD])
  rw [addr_add] at this
  exact this

set_option maxRecDepth 100000 in
theorem awake_ok (w : World) : Calls Try.prog 8 #[] w (Ret (.bool true) w) := by
  have h0 := link_made w
  have kc := fun (w : World) (C : Array Value) (n c g : Nat) (hg : g = w.heap.size) => Joins.run_convert_bytes_const_at (P := Try.prog) w 30 5 C n c g hg Try.underlying30 Try.underlying5
  have es : strOfNums [98] = ⟨#[98]⟩ := rfl
  go_enter Try.func8, Try.ntmps8
  go_wp2_with (first
    | (go_at_call 9; have hx := h1; refine Calls.mono (send_is w.heap.size (two [[97]] []) F1 false _ [99] _ (h1.alloc _) (bytes_lit _ _ _ _ _ _ (by simp)) true (two [[97]] [[99]]) aw3 aw4) ?_; rintro e w2 ⟨rfl, F2, h2, U2, G2⟩)
    | (go_at_call 9; refine Calls.mono (send_is w.heap.size (fun _ => []) _ true _ [97] _ (h0.alloc _) (bytes_lit _ _ _ _ _ _ (by simp)) true (two [[97]] []) aw1 aw2) ?_; rintro e w1 ⟨rfl, F1, h1, U1, G1⟩)
    | (go_at_call 15; refine Calls.mono (spoil_is w.heap.size (two [[97]] [[99]]) F2 _ h2 1 0 (by omega) true (two [[97]] [[98]]) aw5 aw6) ?_; rintro e w3 ⟨rfl, F3, h3, U3, G3⟩)
    | (go_at_call 10; refine Calls.mono (take_is w.heap.size (two [[97]] [[98]]) F3 _ h3 false 0 [98] (two [[97]] []) rfl aw7) ?_; rintro e w4 ⟨gb, c, rfl, hF, _, _, FG, F4, h4, U4, G4⟩; have hc : (convert 30 9 (.slice (some ⟨gb, 0, none⟩) 1 c)).run Try.prog w4 = .ok (.string (strOfNums [98])) w4 := hF.conv rfl; rw [es] at hc)
    | (go_at_call 11; refine Calls.mono (len_is w.heap.size (two [[97]] []) F4 true _ h4 1 rfl) ?_; rintro e w5 ⟨rfl, rfl⟩))
  go_ret
  refine ⟨rfl, ?_⟩
  exact (((((Since.made w _).alloc _).step U1 G1).alloc _ |>.step U2 G2).step U3 G3 |>.step U4 G4).below
end Go.Proofs.Ytomhnabgdbpoiaa
