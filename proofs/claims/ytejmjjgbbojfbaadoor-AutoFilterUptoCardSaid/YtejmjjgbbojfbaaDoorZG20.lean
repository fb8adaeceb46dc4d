/- Merged: Span, SpanB. -/
import Derived.Test.YtejmjjgbbojfbaaDoorZExact
/- The machine of two bounds: between, both, start. -/
namespace Go.Proofs.YtejmjjgbbojfbaaDoor
set_option linter.unusedVariables false
open Go.ChangeShapes Go.WideShapes Go.ChangeAt Go.RowKit

/-- May some text lie between the bounds, where so much of them has been read (one more than that; 0 where the text has been left)? -/
def spanBt (b d : Bool) (s t : ByteArray) (L H : Nat) : Bool :=
  if H = 0 then true else if L = 0 then decide (H ≤ t.size) || d else if (s.toList == t.toList) = true then b && d else if Op.bytesLess s.toList t.toList = false then false else b || (d || !(t.toList == (s ++ ⟨#[0]⟩).toList))
theorem gtr_str (t : TypeId) (a b : ByteArray) (w : World) : (binOp .gtr t (.string a) (.string b)).run Tryd.prog w = .ok (.bool (!Op.bytesLess a.toList b.toList && !(a.toList == b.toList))) w := by
  simp [binOp, Op.stringOp]
set_option maxRecDepth 100000 in
set_option maxHeartbeats 1000000 in
theorem sbtw_any (w : World) (a b : Bool) (s : ByteArray) (c d : Bool) (t : ByteArray) (L H : Nat) (hL : L ≤ s.size + 1) (hH : H ≤ t.size + 1) (hs : s.size ≤ 1000000000) (ht : t.size ≤ 1000000000) :
    Calls Tryd.prog 127 #[.agg #[.bool a, .bool b, .string s, .bool c, .bool d, .string t], .int .i64 ((L : Int) - 1), .int .i64 ((H : Int) - 1)] w fun e w' => e = .returned (.bool (spanBt b d s t L H)) ∧ Below w.heap.size w w' := by
  have HB := Lib.hid (fun o : Obj => (Below.refl w.heap.size w).alloc (Nat.le_refl _) o)
  obtain ⟨lo, hlo⟩ : ∃ lo : Int, (L : Int) - 1 = lo := ⟨_, rfl⟩
  obtain ⟨hi, hhi⟩ : ∃ hi : Int, (H : Int) - 1 = hi := ⟨_, rfl⟩
  rw [hlo, hhi]
  by_cases h0 : H = 0
  · have hres : spanBt b d s t L H = true := by unfold spanBt; rw [if_pos h0]
    rw [hres]
    have t1 : decide (hi < 0) = true := decide_eq_true (by omega)
    clear hres h0 hlo hhi
    go_enter Tryd.func127, Tryd.ntmps127
    go_wp2
    go_quiet (fail)
    go_wp2
    go_ret
    exact ⟨rfl, below_drewN (HB.out _) _⟩
  have t1 : decide (hi < 0) = false := decide_eq_false (by omega)
  by_cases h1 : L = 0
  · have t2 : decide (lo < 0) = true := decide_eq_true (by omega)
    by_cases h2 : H ≤ t.size
    · have hres : spanBt b d s t L H = true := by unfold spanBt; rw [if_neg h0, if_pos h1, decide_eq_true h2]; rfl
      rw [hres]
      have t3 : decide (hi < (t.size : Int)) = true := decide_eq_true (by omega)
      clear hres h0 hlo hhi h1 h2
      go_enter Tryd.func127, Tryd.ntmps127
      go_wp2
      go_quiet (fail)
      go_wp2
      go_ret
      exact ⟨rfl, below_drewN (HB.out _) _⟩
    · have hres : spanBt b d s t L H = d := by unfold spanBt; rw [if_neg h0, if_pos h1, decide_eq_false h2]; rfl
      rw [hres]
      have t3 : decide (hi < (t.size : Int)) = false := decide_eq_false (by omega)
      clear hres h0 hlo hhi h1 h2
      go_enter Tryd.func127, Tryd.ntmps127
      go_wp2
      go_quiet (fail)
      go_wp2
      go_ret
      exact ⟨rfl, below_drewN (HB.out _) _⟩
  have t2 : decide (lo < 0) = false := decide_eq_false (by omega)
  have hgt := fun W => gtr_str 9 s t W
  have hsum : s.size + (⟨#[0]⟩ : ByteArray).size ≤ 9223372036854775807 := by show s.size + 1 ≤ _; omega
  cases he : (s.toList == t.toList) with
  | true =>
    have hres : spanBt b d s t L H = (b && d) := by unfold spanBt; rw [if_neg h0, if_neg h1, if_pos he]
    rw [hres]
    clear hres h0 hlo hhi h1 hgt
    cases b
    · go_enter Tryd.func127, Tryd.ntmps127
      go_wp2
      go_quiet (fail)
      go_wp2
      go_ret
      exact ⟨rfl, below_drewN (HB.out _) _⟩
    · go_enter Tryd.func127, Tryd.ntmps127
      go_wp2
      go_quiet (fail)
      go_wp2
      go_ret
      exact ⟨rfl, below_drewN (HB.out _) _⟩
  | false =>
    cases hl : Op.bytesLess s.toList t.toList with
    | true =>
      have hres : spanBt b d s t L H = (b || (d || !(t.toList == (s ++ ⟨#[0]⟩).toList))) := by unfold spanBt; rw [if_neg h0, if_neg h1, if_neg (by rw [he]; simp), if_neg (by rw [hl]; simp)]
      rw [hres]
      clear hres h0 hlo hhi h1
      cases b
      · cases d
        · go_enter Tryd.func127, Tryd.ntmps127
          go_wp2
          go_quiet (fail)
          go_wp2
          go_ret
          exact ⟨rfl, below_drewN (HB.out _) _⟩
        · go_enter Tryd.func127, Tryd.ntmps127
          go_wp2
          go_quiet (fail)
          go_wp2
          go_ret
          exact ⟨rfl, below_drewN (HB.out _) _⟩
      · go_enter Tryd.func127, Tryd.ntmps127
        go_wp2
        go_quiet (fail)
        go_wp2
        go_ret
        exact ⟨rfl, below_drewN (HB.out _) _⟩
    | false =>
      have hres : spanBt b d s t L H = false := by unfold spanBt; rw [if_neg h0, if_neg h1, if_neg (by rw [he]; simp), if_pos hl]
      rw [hres]
      clear hres h0 hlo hhi h1
      go_enter Tryd.func127, Tryd.ntmps127
      go_wp2
      go_quiet (fail)
      go_wp2
      go_ret
      exact ⟨rfl, below_drewN (HB.out _) _⟩
end Go.Proofs.YtejmjjgbbojfbaaDoor

/- The machine of two bounds: both, start. -/
namespace Go.Proofs.YtejmjjgbbojfbaaDoor
set_option linter.unusedVariables false
open Go.ChangeShapes Go.WideShapes Go.ChangeAt Go.RowKit

/-- The description of two readings. -/
def spanS (b d : Bool) (s t : ByteArray) (L H : Nat) : ByteArray := if spanBt b d s t L H = true then placeS L ++ placeS H else ⟨#[]⟩
set_option maxRecDepth 100000 in
set_option maxHeartbeats 1000000 in
theorem sboth_any (w : World) (a b : Bool) (s : ByteArray) (c d : Bool) (t : ByteArray) (L H : Nat) (hL : L ≤ s.size + 1) (hH : H ≤ t.size + 1) (hs : s.size ≤ 1000000000) (ht : t.size ≤ 1000000000) (lo hi : Int) (hlo : lo + 1 = (L : Int)) (hhi : hi + 1 = (H : Int)) :
    Calls Tryd.prog 126 #[.agg #[.bool a, .bool b, .string s, .bool c, .bool d, .string t], .int .i64 lo, .int .i64 hi] w fun e w' => e = .returned (.string (spanS b d s t L H)) ∧ Below w.heap.size w w' := by
  have C1 := fun W => sbtw_any W a b s c d t L H hL hH hs ht
  rw [show (L : Int) - 1 = lo by omega, show (H : Int) - 1 = hi by omega] at C1
  have HC1 := Lib.hid C1
  have HC2 := Lib.hid (fun W => place_any W L (by omega))
  have HC3 := Lib.hid (fun W => place_any W H (by omega))
  have z1 := placeS_size L
  have z2 := placeS_size H
  have hsum : (placeS L).size + (placeS H).size ≤ 9223372036854775807 := by omega
  have HB := Lib.hid (fun o : Obj => (Below.refl w.heap.size w).alloc (Nat.le_refl _) o)
  have hw1 : IntKind.i64.wrap (lo + 1) = (L : Int) := by rw [IntKind.wrap_i64]; omega
  have hw2 : IntKind.i64.wrap (hi + 1) = (H : Int) := by rw [IntKind.wrap_i64]; omega
  clear C1 z1 z2 hs ht hL hH
  cases hb : spanBt b d s t L H with
  | false =>
    have hres : spanS b d s t L H = ⟨#[]⟩ := by unfold spanS; rw [if_neg (by rw [hb]; simp)]
    rw [hres]
    rw [hb] at HC1
    clear hres hlo hhi hb hsum
    go_enter Tryd.func126, Tryd.ntmps126
    go_wp2_with fail
    refine (HC1.out _).mono ?_
    rintro e w1 ⟨rfl, hb1⟩
    have HB1 := Lib.hid ((HB.out _).trans (hb1.mono (HB.out _).size))
    clear hb1
    go_wp2
    go_ret
    exact ⟨rfl, HB1.out⟩
  | true =>
    have hres : spanS b d s t L H = placeS L ++ placeS H := by unfold spanS; rw [if_pos hb]
    rw [hres]
    rw [hb] at HC1
    clear hres hb hlo hhi
    go_enter Tryd.func126, Tryd.ntmps126
    go_wp2_with fail
    refine (HC1.out _).mono ?_
    rintro e w1 ⟨rfl, hb1⟩
    have HB1 := Lib.hid ((HB.out _).trans (hb1.mono (HB.out _).size))
    clear hb1
    go_wp2_with fail
    refine (HC2.out _).mono ?_
    rintro e w2 ⟨rfl, hb2⟩
    have HB2 := Lib.hid (HB1.out.trans (hb2.mono HB1.out.size))
    clear hb2
    go_wp2_with fail
    refine (HC3.out _).mono ?_
    rintro e w3 ⟨rfl, hb3⟩
    have HB3 := Lib.hid (HB2.out.trans (hb3.mono HB2.out.size))
    clear hb3
    go_wp2
    go_ret
    exact ⟨rfl, HB3.out⟩
set_option maxRecDepth 100000 in
theorem sstart_any (w : World) (a b : Bool) (s : ByteArray) (c d : Bool) (t : ByteArray) (hs : s.size ≤ 1000000000) (ht : t.size ≤ 1000000000) :
    Calls Tryd.prog 124 #[.agg #[.bool a, .bool b, .string s, .bool c, .bool d, .string t]] w fun e w' => e = .returned (.string (spanS b d s t (if a then 0 else 1) (if c then 0 else 1))) ∧ Below w.heap.size w w' := by
  have HB := Lib.hid (fun o : Obj => (Below.refl w.heap.size w).alloc (Nat.le_refl _) o)
  have key : ∀ W, Calls Tryd.prog 126 #[.agg #[.bool a, .bool b, .string s, .bool c, .bool d, .string t], .int .i64 (if a then -1 else 0), .int .i64 (if c then -1 else 0)] W fun e w' => e = .returned (.string (spanS b d s t (if a then 0 else 1) (if c then 0 else 1))) ∧ Below W.heap.size W w' := fun W =>
    sboth_any W a b s c d t (if a then 0 else 1) (if c then 0 else 1) (by split <;> omega) (by split <;> omega) hs ht _ _ (by cases a <;> rfl) (by cases c <;> rfl)
  cases a <;> cases c
  all_goals
    simp only [if_true, if_false, Bool.false_eq_true] at key ⊢
    have HC := Lib.hid key
    clear key
    go_enter Tryd.func124, Tryd.ntmps124
    go_wp2_with fail
    refine (HC.out _).mono ?_
    rintro e w1 ⟨rfl, hb1⟩
    have HB1 := Lib.hid ((HB.out _).trans (hb1.mono (HB.out _).size))
    clear hb1
    go_wp2
    go_ret
    exact ⟨rfl, HB1.out⟩
end Go.Proofs.YtejmjjgbbojfbaaDoor
