/- The step of two bounds (printed by wip/gen_span.py). -/
import Derived.Test.YtejmjjgbbojfbaaDoorZG20
namespace Go.Proofs.YtejmjjgbbojfbaaDoor
set_option linter.unusedVariables false
open Go.ChangeShapes Go.WideShapes Go.ChangeAt Go.RowKit

set_option maxRecDepth 100000 in
set_option maxHeartbeats 1000000 in
theorem sstep_z_z (w : World) (a b : Bool) (s : ByteArray) (c d : Bool) (t D D1 D2 : ByteArray) (LL HH bb : Int) (hd : D.size = 8) (e1 : D.extract 0 4 = D1) (e2 : D.extract 4 8 = D2)
    (N1 : ∀ W : World, Calls Tryd.prog 121 #[.string D1] W fun e w' => e = .returned (.int .i64 LL) ∧ ∃ k, w' = W.drewN k) (N2 : ∀ W : World, Calls Tryd.prog 121 #[.string D2] W fun e w' => e = .returned (.int .i64 HH) ∧ ∃ k, w' = W.drewN k)
    (aw : IntKind.i64.wrap (LL - 1) = -1) (bw : IntKind.i64.wrap (HH - 1) = -1) (hs : s.size ≤ 1000000000) (ht : t.size ≤ 1000000000) (R : ByteArray)
    (hC : ∀ W : World, Calls Tryd.prog 126 #[.agg #[.bool a, .bool b, .string s, .bool c, .bool d, .string t], .int .i64 (-1), .int .i64 (-1)] W fun e w' => e = .returned (.string R) ∧ Below W.heap.size W w') :
    Calls Tryd.prog 125 #[.agg #[.bool a, .bool b, .string s, .bool c, .bool d, .string t], .string D, .int .u8 bb] w fun e w' => e = .returned (.string R) ∧ Below w.heap.size w w' := by
  have HB := Lib.hid (fun o : Obj => (Below.refl w.heap.size w).alloc (Nat.le_refl _) o)
  have HN1 := Lib.hid N1
  have HN2 := Lib.hid N2
  have HC := Lib.hid hC
  clear hC
  clear N1 N2
  go_enter Tryd.func125, Tryd.ntmps125
  go_wp2
  go_quiet ((go_at_call 121; first | with_reducible exact quiet_leftK (HN1.out _) | with_reducible exact quiet_leftK (HN2.out _)))
  go_wp2_with fail
  refine (HC.out _).mono ?_
  rintro e w1 ⟨rfl, hb1⟩
  have HB1 := Lib.hid ((below_drewN (HB.out _) _).trans (hb1.mono (below_drewN (HB.out _) _).size))
  clear hb1
  go_wp2
  go_ret
  exact ⟨rfl, HB1.out⟩
set_option maxRecDepth 100000 in
set_option maxHeartbeats 1000000 in
theorem sstep_z_end (w : World) (a b : Bool) (s : ByteArray) (c d : Bool) (t D D1 D2 : ByteArray) (LL HH bb : Int) (m : Nat) (hd : D.size = 8) (e1 : D.extract 0 4 = D1) (e2 : D.extract 4 8 = D2)
    (N1 : ∀ W : World, Calls Tryd.prog 121 #[.string D1] W fun e w' => e = .returned (.int .i64 LL) ∧ ∃ k, w' = W.drewN k) (N2 : ∀ W : World, Calls Tryd.prog 121 #[.string D2] W fun e w' => e = .returned (.int .i64 HH) ∧ ∃ k, w' = W.drewN k)
    (aw : IntKind.i64.wrap (LL - 1) = -1) (bw : IntKind.i64.wrap (HH - 1) = (m : Int)) (be : ((m : Int) == (t.size : Int)) = true) (hs : s.size ≤ 1000000000) (ht : t.size ≤ 1000000000) :
    Calls Tryd.prog 125 #[.agg #[.bool a, .bool b, .string s, .bool c, .bool d, .string t], .string D, .int .u8 bb] w fun e w' => e = .returned (.string ⟨#[]⟩) ∧ Below w.heap.size w w' := by
  have HB := Lib.hid (fun o : Obj => (Below.refl w.heap.size w).alloc (Nat.le_refl _) o)
  have HN1 := Lib.hid N1
  have HN2 := Lib.hid N2
  clear N1 N2
  go_enter Tryd.func125, Tryd.ntmps125
  go_wp2
  go_quiet ((go_at_call 121; first | with_reducible exact quiet_leftK (HN1.out _) | with_reducible exact quiet_leftK (HN2.out _)))
  go_wp2
  go_ret
  exact ⟨rfl, below_drewN (HB.out _) _⟩
set_option maxRecDepth 100000 in
set_option maxHeartbeats 1000000 in
theorem sstep_z_gt (w : World) (a b : Bool) (s : ByteArray) (c d : Bool) (t D D1 D2 : ByteArray) (LL HH bb : Int) (m : Nat) (hd : D.size = 8) (e1 : D.extract 0 4 = D1) (e2 : D.extract 4 8 = D2)
    (N1 : ∀ W : World, Calls Tryd.prog 121 #[.string D1] W fun e w' => e = .returned (.int .i64 LL) ∧ ∃ k, w' = W.drewN k) (N2 : ∀ W : World, Calls Tryd.prog 121 #[.string D2] W fun e w' => e = .returned (.int .i64 HH) ∧ ∃ k, w' = W.drewN k)
    (aw : IntKind.i64.wrap (LL - 1) = -1) (bw : IntKind.i64.wrap (HH - 1) = (m : Int)) (be : ((m : Int) == (t.size : Int)) = false) (bl : m < t.size) (bg : decide (((t[m]'bl).toNat : Int) < bb) = true) (hs : s.size ≤ 1000000000) (ht : t.size ≤ 1000000000) :
    Calls Tryd.prog 125 #[.agg #[.bool a, .bool b, .string s, .bool c, .bool d, .string t], .string D, .int .u8 bb] w fun e w' => e = .returned (.string ⟨#[]⟩) ∧ Below w.heap.size w w' := by
  have HB := Lib.hid (fun o : Obj => (Below.refl w.heap.size w).alloc (Nat.le_refl _) o)
  have HN1 := Lib.hid N1
  have HN2 := Lib.hid N2
  clear N1 N2
  go_enter Tryd.func125, Tryd.ntmps125
  go_wp2
  go_quiet ((go_at_call 121; first | with_reducible exact quiet_leftK (HN1.out _) | with_reducible exact quiet_leftK (HN2.out _)))
  go_wp2
  go_ret
  exact ⟨rfl, below_drewN (HB.out _) _⟩
set_option maxRecDepth 100000 in
set_option maxHeartbeats 1000000 in
theorem sstep_z_lt (w : World) (a b : Bool) (s : ByteArray) (c d : Bool) (t D D1 D2 : ByteArray) (LL HH bb : Int) (m : Nat) (hd : D.size = 8) (e1 : D.extract 0 4 = D1) (e2 : D.extract 4 8 = D2)
    (N1 : ∀ W : World, Calls Tryd.prog 121 #[.string D1] W fun e w' => e = .returned (.int .i64 LL) ∧ ∃ k, w' = W.drewN k) (N2 : ∀ W : World, Calls Tryd.prog 121 #[.string D2] W fun e w' => e = .returned (.int .i64 HH) ∧ ∃ k, w' = W.drewN k)
    (aw : IntKind.i64.wrap (LL - 1) = -1) (bw : IntKind.i64.wrap (HH - 1) = (m : Int)) (be : ((m : Int) == (t.size : Int)) = false) (bl : m < t.size) (bg : decide (((t[m]'bl).toNat : Int) < bb) = false) (bm : decide (bb < ((t[m]'bl).toNat : Int)) = true) (hs : s.size ≤ 1000000000) (ht : t.size ≤ 1000000000) (R : ByteArray)
    (hC : ∀ W : World, Calls Tryd.prog 126 #[.agg #[.bool a, .bool b, .string s, .bool c, .bool d, .string t], .int .i64 (-1), .int .i64 (-1)] W fun e w' => e = .returned (.string R) ∧ Below W.heap.size W w') :
    Calls Tryd.prog 125 #[.agg #[.bool a, .bool b, .string s, .bool c, .bool d, .string t], .string D, .int .u8 bb] w fun e w' => e = .returned (.string R) ∧ Below w.heap.size w w' := by
  have HB := Lib.hid (fun o : Obj => (Below.refl w.heap.size w).alloc (Nat.le_refl _) o)
  have HN1 := Lib.hid N1
  have HN2 := Lib.hid N2
  have HC := Lib.hid hC
  clear hC
  clear N1 N2
  go_enter Tryd.func125, Tryd.ntmps125
  go_wp2
  go_quiet ((go_at_call 121; first | with_reducible exact quiet_leftK (HN1.out _) | with_reducible exact quiet_leftK (HN2.out _)))
  go_wp2_with fail
  refine (HC.out _).mono ?_
  rintro e w1 ⟨rfl, hb1⟩
  have HB1 := Lib.hid ((below_drewN (HB.out _) _).trans (hb1.mono (below_drewN (HB.out _) _).size))
  clear hb1
  go_wp2
  go_ret
  exact ⟨rfl, HB1.out⟩
set_option maxRecDepth 100000 in
set_option maxHeartbeats 1000000 in
theorem sstep_z_eq (w : World) (a b : Bool) (s : ByteArray) (c d : Bool) (t D D1 D2 : ByteArray) (LL HH bb : Int) (m : Nat) (hd : D.size = 8) (e1 : D.extract 0 4 = D1) (e2 : D.extract 4 8 = D2)
    (N1 : ∀ W : World, Calls Tryd.prog 121 #[.string D1] W fun e w' => e = .returned (.int .i64 LL) ∧ ∃ k, w' = W.drewN k) (N2 : ∀ W : World, Calls Tryd.prog 121 #[.string D2] W fun e w' => e = .returned (.int .i64 HH) ∧ ∃ k, w' = W.drewN k)
    (aw : IntKind.i64.wrap (LL - 1) = -1) (bw : IntKind.i64.wrap (HH - 1) = (m : Int)) (be : ((m : Int) == (t.size : Int)) = false) (bl : m < t.size) (bg : decide (((t[m]'bl).toNat : Int) < bb) = false) (bm : decide (bb < ((t[m]'bl).toNat : Int)) = false) (hs : s.size ≤ 1000000000) (ht : t.size ≤ 1000000000) (R : ByteArray)
    (hC : ∀ W : World, Calls Tryd.prog 126 #[.agg #[.bool a, .bool b, .string s, .bool c, .bool d, .string t], .int .i64 (-1), .int .i64 ((m : Int) + 1)] W fun e w' => e = .returned (.string R) ∧ Below W.heap.size W w') :
    Calls Tryd.prog 125 #[.agg #[.bool a, .bool b, .string s, .bool c, .bool d, .string t], .string D, .int .u8 bb] w fun e w' => e = .returned (.string R) ∧ Below w.heap.size w w' := by
  have HB := Lib.hid (fun o : Obj => (Below.refl w.heap.size w).alloc (Nat.le_refl _) o)
  have HN1 := Lib.hid N1
  have HN2 := Lib.hid N2
  have HC := Lib.hid hC
  clear hC
  clear N1 N2
  go_enter Tryd.func125, Tryd.ntmps125
  go_wp2
  go_quiet ((go_at_call 121; first | with_reducible exact quiet_leftK (HN1.out _) | with_reducible exact quiet_leftK (HN2.out _)))
  go_wp2_with fail
  refine (HC.out _).mono ?_
  rintro e w1 ⟨rfl, hb1⟩
  have HB1 := Lib.hid ((below_drewN (HB.out _) _).trans (hb1.mono (below_drewN (HB.out _) _).size))
  clear hb1
  go_wp2
  go_ret
  exact ⟨rfl, HB1.out⟩
set_option maxRecDepth 100000 in
set_option maxHeartbeats 1000000 in
theorem sstep_end_z (w : World) (a b : Bool) (s : ByteArray) (c d : Bool) (t D D1 D2 : ByteArray) (LL HH bb : Int) (n : Nat) (hd : D.size = 8) (e1 : D.extract 0 4 = D1) (e2 : D.extract 4 8 = D2)
    (N1 : ∀ W : World, Calls Tryd.prog 121 #[.string D1] W fun e w' => e = .returned (.int .i64 LL) ∧ ∃ k, w' = W.drewN k) (N2 : ∀ W : World, Calls Tryd.prog 121 #[.string D2] W fun e w' => e = .returned (.int .i64 HH) ∧ ∃ k, w' = W.drewN k)
    (aw : IntKind.i64.wrap (LL - 1) = (n : Int)) (ae : ((n : Int) == (s.size : Int)) = true) (bw : IntKind.i64.wrap (HH - 1) = -1) (hs : s.size ≤ 1000000000) (ht : t.size ≤ 1000000000) (R : ByteArray)
    (hC : ∀ W : World, Calls Tryd.prog 126 #[.agg #[.bool a, .bool b, .string s, .bool c, .bool d, .string t], .int .i64 (-1), .int .i64 (-1)] W fun e w' => e = .returned (.string R) ∧ Below W.heap.size W w') :
    Calls Tryd.prog 125 #[.agg #[.bool a, .bool b, .string s, .bool c, .bool d, .string t], .string D, .int .u8 bb] w fun e w' => e = .returned (.string R) ∧ Below w.heap.size w w' := by
  have HB := Lib.hid (fun o : Obj => (Below.refl w.heap.size w).alloc (Nat.le_refl _) o)
  have HN1 := Lib.hid N1
  have HN2 := Lib.hid N2
  have HC := Lib.hid hC
  clear hC
  clear N1 N2
  go_enter Tryd.func125, Tryd.ntmps125
  go_wp2
  go_quiet ((go_at_call 121; first | with_reducible exact quiet_leftK (HN1.out _) | with_reducible exact quiet_leftK (HN2.out _)))
  go_wp2_with fail
  refine (HC.out _).mono ?_
  rintro e w1 ⟨rfl, hb1⟩
  have HB1 := Lib.hid ((below_drewN (HB.out _) _).trans (hb1.mono (below_drewN (HB.out _) _).size))
  clear hb1
  go_wp2
  go_ret
  exact ⟨rfl, HB1.out⟩
set_option maxRecDepth 100000 in
set_option maxHeartbeats 1000000 in
theorem sstep_end_end (w : World) (a b : Bool) (s : ByteArray) (c d : Bool) (t D D1 D2 : ByteArray) (LL HH bb : Int) (n : Nat) (m : Nat) (hd : D.size = 8) (e1 : D.extract 0 4 = D1) (e2 : D.extract 4 8 = D2)
    (N1 : ∀ W : World, Calls Tryd.prog 121 #[.string D1] W fun e w' => e = .returned (.int .i64 LL) ∧ ∃ k, w' = W.drewN k) (N2 : ∀ W : World, Calls Tryd.prog 121 #[.string D2] W fun e w' => e = .returned (.int .i64 HH) ∧ ∃ k, w' = W.drewN k)
    (aw : IntKind.i64.wrap (LL - 1) = (n : Int)) (ae : ((n : Int) == (s.size : Int)) = true) (bw : IntKind.i64.wrap (HH - 1) = (m : Int)) (be : ((m : Int) == (t.size : Int)) = true) (hs : s.size ≤ 1000000000) (ht : t.size ≤ 1000000000) :
    Calls Tryd.prog 125 #[.agg #[.bool a, .bool b, .string s, .bool c, .bool d, .string t], .string D, .int .u8 bb] w fun e w' => e = .returned (.string ⟨#[]⟩) ∧ Below w.heap.size w w' := by
  have HB := Lib.hid (fun o : Obj => (Below.refl w.heap.size w).alloc (Nat.le_refl _) o)
  have HN1 := Lib.hid N1
  have HN2 := Lib.hid N2
  clear N1 N2
  go_enter Tryd.func125, Tryd.ntmps125
  go_wp2
  go_quiet ((go_at_call 121; first | with_reducible exact quiet_leftK (HN1.out _) | with_reducible exact quiet_leftK (HN2.out _)))
  go_wp2
  go_ret
  exact ⟨rfl, below_drewN (HB.out _) _⟩
set_option maxRecDepth 100000 in
set_option maxHeartbeats 1000000 in
theorem sstep_end_gt (w : World) (a b : Bool) (s : ByteArray) (c d : Bool) (t D D1 D2 : ByteArray) (LL HH bb : Int) (n : Nat) (m : Nat) (hd : D.size = 8) (e1 : D.extract 0 4 = D1) (e2 : D.extract 4 8 = D2)
    (N1 : ∀ W : World, Calls Tryd.prog 121 #[.string D1] W fun e w' => e = .returned (.int .i64 LL) ∧ ∃ k, w' = W.drewN k) (N2 : ∀ W : World, Calls Tryd.prog 121 #[.string D2] W fun e w' => e = .returned (.int .i64 HH) ∧ ∃ k, w' = W.drewN k)
    (aw : IntKind.i64.wrap (LL - 1) = (n : Int)) (ae : ((n : Int) == (s.size : Int)) = true) (bw : IntKind.i64.wrap (HH - 1) = (m : Int)) (be : ((m : Int) == (t.size : Int)) = false) (bl : m < t.size) (bg : decide (((t[m]'bl).toNat : Int) < bb) = true) (hs : s.size ≤ 1000000000) (ht : t.size ≤ 1000000000) :
    Calls Tryd.prog 125 #[.agg #[.bool a, .bool b, .string s, .bool c, .bool d, .string t], .string D, .int .u8 bb] w fun e w' => e = .returned (.string ⟨#[]⟩) ∧ Below w.heap.size w w' := by
  have HB := Lib.hid (fun o : Obj => (Below.refl w.heap.size w).alloc (Nat.le_refl _) o)
  have HN1 := Lib.hid N1
  have HN2 := Lib.hid N2
  clear N1 N2
  go_enter Tryd.func125, Tryd.ntmps125
  go_wp2
  go_quiet ((go_at_call 121; first | with_reducible exact quiet_leftK (HN1.out _) | with_reducible exact quiet_leftK (HN2.out _)))
  go_wp2
  go_ret
  exact ⟨rfl, below_drewN (HB.out _) _⟩
set_option maxRecDepth 100000 in
set_option maxHeartbeats 1000000 in
theorem sstep_end_lt (w : World) (a b : Bool) (s : ByteArray) (c d : Bool) (t D D1 D2 : ByteArray) (LL HH bb : Int) (n : Nat) (m : Nat) (hd : D.size = 8) (e1 : D.extract 0 4 = D1) (e2 : D.extract 4 8 = D2)
    (N1 : ∀ W : World, Calls Tryd.prog 121 #[.string D1] W fun e w' => e = .returned (.int .i64 LL) ∧ ∃ k, w' = W.drewN k) (N2 : ∀ W : World, Calls Tryd.prog 121 #[.string D2] W fun e w' => e = .returned (.int .i64 HH) ∧ ∃ k, w' = W.drewN k)
    (aw : IntKind.i64.wrap (LL - 1) = (n : Int)) (ae : ((n : Int) == (s.size : Int)) = true) (bw : IntKind.i64.wrap (HH - 1) = (m : Int)) (be : ((m : Int) == (t.size : Int)) = false) (bl : m < t.size) (bg : decide (((t[m]'bl).toNat : Int) < bb) = false) (bm : decide (bb < ((t[m]'bl).toNat : Int)) = true) (hs : s.size ≤ 1000000000) (ht : t.size ≤ 1000000000) (R : ByteArray)
    (hC : ∀ W : World, Calls Tryd.prog 126 #[.agg #[.bool a, .bool b, .string s, .bool c, .bool d, .string t], .int .i64 (-1), .int .i64 (-1)] W fun e w' => e = .returned (.string R) ∧ Below W.heap.size W w') :
    Calls Tryd.prog 125 #[.agg #[.bool a, .bool b, .string s, .bool c, .bool d, .string t], .string D, .int .u8 bb] w fun e w' => e = .returned (.string R) ∧ Below w.heap.size w w' := by
  have HB := Lib.hid (fun o : Obj => (Below.refl w.heap.size w).alloc (Nat.le_refl _) o)
  have HN1 := Lib.hid N1
  have HN2 := Lib.hid N2
  have HC := Lib.hid hC
  clear hC
  clear N1 N2
  go_enter Tryd.func125, Tryd.ntmps125
  go_wp2
  go_quiet ((go_at_call 121; first | with_reducible exact quiet_leftK (HN1.out _) | with_reducible exact quiet_leftK (HN2.out _)))
  go_wp2_with fail
  refine (HC.out _).mono ?_
  rintro e w1 ⟨rfl, hb1⟩
  have HB1 := Lib.hid ((below_drewN (HB.out _) _).trans (hb1.mono (below_drewN (HB.out _) _).size))
  clear hb1
  go_wp2
  go_ret
  exact ⟨rfl, HB1.out⟩
set_option maxRecDepth 100000 in
set_option maxHeartbeats 1000000 in
theorem sstep_end_eq (w : World) (a b : Bool) (s : ByteArray) (c d : Bool) (t D D1 D2 : ByteArray) (LL HH bb : Int) (n : Nat) (m : Nat) (hd : D.size = 8) (e1 : D.extract 0 4 = D1) (e2 : D.extract 4 8 = D2)
    (N1 : ∀ W : World, Calls Tryd.prog 121 #[.string D1] W fun e w' => e = .returned (.int .i64 LL) ∧ ∃ k, w' = W.drewN k) (N2 : ∀ W : World, Calls Tryd.prog 121 #[.string D2] W fun e w' => e = .returned (.int .i64 HH) ∧ ∃ k, w' = W.drewN k)
    (aw : IntKind.i64.wrap (LL - 1) = (n : Int)) (ae : ((n : Int) == (s.size : Int)) = true) (bw : IntKind.i64.wrap (HH - 1) = (m : Int)) (be : ((m : Int) == (t.size : Int)) = false) (bl : m < t.size) (bg : decide (((t[m]'bl).toNat : Int) < bb) = false) (bm : decide (bb < ((t[m]'bl).toNat : Int)) = false) (hs : s.size ≤ 1000000000) (ht : t.size ≤ 1000000000) (R : ByteArray)
    (hC : ∀ W : World, Calls Tryd.prog 126 #[.agg #[.bool a, .bool b, .string s, .bool c, .bool d, .string t], .int .i64 (-1), .int .i64 ((m : Int) + 1)] W fun e w' => e = .returned (.string R) ∧ Below W.heap.size W w') :
    Calls Tryd.prog 125 #[.agg #[.bool a, .bool b, .string s, .bool c, .bool d, .string t], .string D, .int .u8 bb] w fun e w' => e = .returned (.string R) ∧ Below w.heap.size w w' := by
  have HB := Lib.hid (fun o : Obj => (Below.refl w.heap.size w).alloc (Nat.le_refl _) o)
  have HN1 := Lib.hid N1
  have HN2 := Lib.hid N2
  have HC := Lib.hid hC
  clear hC
  clear N1 N2
  go_enter Tryd.func125, Tryd.ntmps125
  go_wp2
  go_quiet ((go_at_call 121; first | with_reducible exact quiet_leftK (HN1.out _) | with_reducible exact quiet_leftK (HN2.out _)))
  go_wp2_with fail
  refine (HC.out _).mono ?_
  rintro e w1 ⟨rfl, hb1⟩
  have HB1 := Lib.hid ((below_drewN (HB.out _) _).trans (hb1.mono (below_drewN (HB.out _) _).size))
  clear hb1
  go_wp2
  go_ret
  exact ⟨rfl, HB1.out⟩
set_option maxRecDepth 100000 in
set_option maxHeartbeats 1000000 in
theorem sstep_gt_z (w : World) (a b : Bool) (s : ByteArray) (c d : Bool) (t D D1 D2 : ByteArray) (LL HH bb : Int) (n : Nat) (hd : D.size = 8) (e1 : D.extract 0 4 = D1) (e2 : D.extract 4 8 = D2)
    (N1 : ∀ W : World, Calls Tryd.prog 121 #[.string D1] W fun e w' => e = .returned (.int .i64 LL) ∧ ∃ k, w' = W.drewN k) (N2 : ∀ W : World, Calls Tryd.prog 121 #[.string D2] W fun e w' => e = .returned (.int .i64 HH) ∧ ∃ k, w' = W.drewN k)
    (aw : IntKind.i64.wrap (LL - 1) = (n : Int)) (ae : ((n : Int) == (s.size : Int)) = false) (al : n < s.size) (ag : decide (((s[n]'al).toNat : Int) < bb) = true) (bw : IntKind.i64.wrap (HH - 1) = -1) (hs : s.size ≤ 1000000000) (ht : t.size ≤ 1000000000) (R : ByteArray)
    (hC : ∀ W : World, Calls Tryd.prog 126 #[.agg #[.bool a, .bool b, .string s, .bool c, .bool d, .string t], .int .i64 (-1), .int .i64 (-1)] W fun e w' => e = .returned (.string R) ∧ Below W.heap.size W w') :
    Calls Tryd.prog 125 #[.agg #[.bool a, .bool b, .string s, .bool c, .bool d, .string t], .string D, .int .u8 bb] w fun e w' => e = .returned (.string R) ∧ Below w.heap.size w w' := by
  have HB := Lib.hid (fun o : Obj => (Below.refl w.heap.size w).alloc (Nat.le_refl _) o)
  have HN1 := Lib.hid N1
  have HN2 := Lib.hid N2
  have HC := Lib.hid hC
  clear hC
  clear N1 N2
  go_enter Tryd.func125, Tryd.ntmps125
  go_wp2
  go_quiet ((go_at_call 121; first | with_reducible exact quiet_leftK (HN1.out _) | with_reducible exact quiet_leftK (HN2.out _)))
  go_wp2_with fail
  refine (HC.out _).mono ?_
  rintro e w1 ⟨rfl, hb1⟩
  have HB1 := Lib.hid ((below_drewN (HB.out _) _).trans (hb1.mono (below_drewN (HB.out _) _).size))
  clear hb1
  go_wp2
  go_ret
  exact ⟨rfl, HB1.out⟩
set_option maxRecDepth 100000 in
set_option maxHeartbeats 1000000 in
theorem sstep_gt_end (w : World) (a b : Bool) (s : ByteArray) (c d : Bool) (t D D1 D2 : ByteArray) (LL HH bb : Int) (n : Nat) (m : Nat) (hd : D.size = 8) (e1 : D.extract 0 4 = D1) (e2 : D.extract 4 8 = D2)
    (N1 : ∀ W : World, Calls Tryd.prog 121 #[.string D1] W fun e w' => e = .returned (.int .i64 LL) ∧ ∃ k, w' = W.drewN k) (N2 : ∀ W : World, Calls Tryd.prog 121 #[.string D2] W fun e w' => e = .returned (.int .i64 HH) ∧ ∃ k, w' = W.drewN k)
    (aw : IntKind.i64.wrap (LL - 1) = (n : Int)) (ae : ((n : Int) == (s.size : Int)) = false) (al : n < s.size) (ag : decide (((s[n]'al).toNat : Int) < bb) = true) (bw : IntKind.i64.wrap (HH - 1) = (m : Int)) (be : ((m : Int) == (t.size : Int)) = true) (hs : s.size ≤ 1000000000) (ht : t.size ≤ 1000000000) :
    Calls Tryd.prog 125 #[.agg #[.bool a, .bool b, .string s, .bool c, .bool d, .string t], .string D, .int .u8 bb] w fun e w' => e = .returned (.string ⟨#[]⟩) ∧ Below w.heap.size w w' := by
  have HB := Lib.hid (fun o : Obj => (Below.refl w.heap.size w).alloc (Nat.le_refl _) o)
  have HN1 := Lib.hid N1
  have HN2 := Lib.hid N2
  clear N1 N2
  go_enter Tryd.func125, Tryd.ntmps125
  go_wp2
  go_quiet ((go_at_call 121; first | with_reducible exact quiet_leftK (HN1.out _) | with_reducible exact quiet_leftK (HN2.out _)))
  go_wp2
  go_ret
  exact ⟨rfl, below_drewN (HB.out _) _⟩
set_option maxRecDepth 100000 in
set_option maxHeartbeats 1000000 in
theorem sstep_gt_gt (w : World) (a b : Bool) (s : ByteArray) (c d : Bool) (t D D1 D2 : ByteArray) (LL HH bb : Int) (n : Nat) (m : Nat) (hd : D.size = 8) (e1 : D.extract 0 4 = D1) (e2 : D.extract 4 8 = D2)
    (N1 : ∀ W : World, Calls Tryd.prog 121 #[.string D1] W fun e w' => e = .returned (.int .i64 LL) ∧ ∃ k, w' = W.drewN k) (N2 : ∀ W : World, Calls Tryd.prog 121 #[.string D2] W fun e w' => e = .returned (.int .i64 HH) ∧ ∃ k, w' = W.drewN k)
    (aw : IntKind.i64.wrap (LL - 1) = (n : Int)) (ae : ((n : Int) == (s.size : Int)) = false) (al : n < s.size) (ag : decide (((s[n]'al).toNat : Int) < bb) = true) (bw : IntKind.i64.wrap (HH - 1) = (m : Int)) (be : ((m : Int) == (t.size : Int)) = false) (bl : m < t.size) (bg : decide (((t[m]'bl).toNat : Int) < bb) = true) (hs : s.size ≤ 1000000000) (ht : t.size ≤ 1000000000) :
    Calls Tryd.prog 125 #[.agg #[.bool a, .bool b, .string s, .bool c, .bool d, .string t], .string D, .int .u8 bb] w fun e w' => e = .returned (.string ⟨#[]⟩) ∧ Below w.heap.size w w' := by
  have HB := Lib.hid (fun o : Obj => (Below.refl w.heap.size w).alloc (Nat.le_refl _) o)
  have HN1 := Lib.hid N1
  have HN2 := Lib.hid N2
  clear N1 N2
  go_enter Tryd.func125, Tryd.ntmps125
  go_wp2
  go_quiet ((go_at_call 121; first | with_reducible exact quiet_leftK (HN1.out _) | with_reducible exact quiet_leftK (HN2.out _)))
  go_wp2
  go_ret
  exact ⟨rfl, below_drewN (HB.out _) _⟩
set_option maxRecDepth 100000 in
set_option maxHeartbeats 1000000 in
theorem sstep_gt_lt (w : World) (a b : Bool) (s : ByteArray) (c d : Bool) (t D D1 D2 : ByteArray) (LL HH bb : Int) (n : Nat) (m : Nat) (hd : D.size = 8) (e1 : D.extract 0 4 = D1) (e2 : D.extract 4 8 = D2)
    (N1 : ∀ W : World, Calls Tryd.prog 121 #[.string D1] W fun e w' => e = .returned (.int .i64 LL) ∧ ∃ k, w' = W.drewN k) (N2 : ∀ W : World, Calls Tryd.prog 121 #[.string D2] W fun e w' => e = .returned (.int .i64 HH) ∧ ∃ k, w' = W.drewN k)
    (aw : IntKind.i64.wrap (LL - 1) = (n : Int)) (ae : ((n : Int) == (s.size : Int)) = false) (al : n < s.size) (ag : decide (((s[n]'al).toNat : Int) < bb) = true) (bw : IntKind.i64.wrap (HH - 1) = (m : Int)) (be : ((m : Int) == (t.size : Int)) = false) (bl : m < t.size) (bg : decide (((t[m]'bl).toNat : Int) < bb) = false) (bm : decide (bb < ((t[m]'bl).toNat : Int)) = true) (hs : s.size ≤ 1000000000) (ht : t.size ≤ 1000000000) (R : ByteArray)
    (hC : ∀ W : World, Calls Tryd.prog 126 #[.agg #[.bool a, .bool b, .string s, .bool c, .bool d, .string t], .int .i64 (-1), .int .i64 (-1)] W fun e w' => e = .returned (.string R) ∧ Below W.heap.size W w') :
    Calls Tryd.prog 125 #[.agg #[.bool a, .bool b, .string s, .bool c, .bool d, .string t], .string D, .int .u8 bb] w fun e w' => e = .returned (.string R) ∧ Below w.heap.size w w' := by
  have HB := Lib.hid (fun o : Obj => (Below.refl w.heap.size w).alloc (Nat.le_refl _) o)
  have HN1 := Lib.hid N1
  have HN2 := Lib.hid N2
  have HC := Lib.hid hC
  clear hC
  clear N1 N2
  go_enter Tryd.func125, Tryd.ntmps125
  go_wp2
  go_quiet ((go_at_call 121; first | with_reducible exact quiet_leftK (HN1.out _) | with_reducible exact quiet_leftK (HN2.out _)))
  go_wp2_with fail
  refine (HC.out _).mono ?_
  rintro e w1 ⟨rfl, hb1⟩
  have HB1 := Lib.hid ((below_drewN (HB.out _) _).trans (hb1.mono (below_drewN (HB.out _) _).size))
  clear hb1
  go_wp2
  go_ret
  exact ⟨rfl, HB1.out⟩
set_option maxRecDepth 100000 in
set_option maxHeartbeats 1000000 in
theorem sstep_gt_eq (w : World) (a b : Bool) (s : ByteArray) (c d : Bool) (t D D1 D2 : ByteArray) (LL HH bb : Int) (n : Nat) (m : Nat) (hd : D.size = 8) (e1 : D.extract 0 4 = D1) (e2 : D.extract 4 8 = D2)
    (N1 : ∀ W : World, Calls Tryd.prog 121 #[.string D1] W fun e w' => e = .returned (.int .i64 LL) ∧ ∃ k, w' = W.drewN k) (N2 : ∀ W : World, Calls Tryd.prog 121 #[.string D2] W fun e w' => e = .returned (.int .i64 HH) ∧ ∃ k, w' = W.drewN k)
    (aw : IntKind.i64.wrap (LL - 1) = (n : Int)) (ae : ((n : Int) == (s.size : Int)) = false) (al : n < s.size) (ag : decide (((s[n]'al).toNat : Int) < bb) = true) (bw : IntKind.i64.wrap (HH - 1) = (m : Int)) (be : ((m : Int) == (t.size : Int)) = false) (bl : m < t.size) (bg : decide (((t[m]'bl).toNat : Int) < bb) = false) (bm : decide (bb < ((t[m]'bl).toNat : Int)) = false) (hs : s.size ≤ 1000000000) (ht : t.size ≤ 1000000000) (R : ByteArray)
    (hC : ∀ W : World, Calls Tryd.prog 126 #[.agg #[.bool a, .bool b, .string s, .bool c, .bool d, .string t], .int .i64 (-1), .int .i64 ((m : Int) + 1)] W fun e w' => e = .returned (.string R) ∧ Below W.heap.size W w') :
    Calls Tryd.prog 125 #[.agg #[.bool a, .bool b, .string s, .bool c, .bool d, .string t], .string D, .int .u8 bb] w fun e w' => e = .returned (.string R) ∧ Below w.heap.size w w' := by
  have HB := Lib.hid (fun o : Obj => (Below.refl w.heap.size w).alloc (Nat.le_refl _) o)
  have HN1 := Lib.hid N1
  have HN2 := Lib.hid N2
  have HC := Lib.hid hC
  clear hC
  clear N1 N2
  go_enter Tryd.func125, Tryd.ntmps125
  go_wp2
  go_quiet ((go_at_call 121; first | with_reducible exact quiet_leftK (HN1.out _) | with_reducible exact quiet_leftK (HN2.out _)))
  go_wp2_with fail
  refine (HC.out _).mono ?_
  rintro e w1 ⟨rfl, hb1⟩
  have HB1 := Lib.hid ((below_drewN (HB.out _) _).trans (hb1.mono (below_drewN (HB.out _) _).size))
  clear hb1
  go_wp2
  go_ret
  exact ⟨rfl, HB1.out⟩
set_option maxRecDepth 100000 in
set_option maxHeartbeats 1000000 in
theorem sstep_lt_any (w : World) (a b : Bool) (s : ByteArray) (c d : Bool) (t D D1 D2 : ByteArray) (LL HH bb : Int) (n : Nat) (hv : Int) (hd : D.size = 8) (e1 : D.extract 0 4 = D1) (e2 : D.extract 4 8 = D2)
    (N1 : ∀ W : World, Calls Tryd.prog 121 #[.string D1] W fun e w' => e = .returned (.int .i64 LL) ∧ ∃ k, w' = W.drewN k) (N2 : ∀ W : World, Calls Tryd.prog 121 #[.string D2] W fun e w' => e = .returned (.int .i64 HH) ∧ ∃ k, w' = W.drewN k)
    (aw : IntKind.i64.wrap (LL - 1) = (n : Int)) (ae : ((n : Int) == (s.size : Int)) = false) (al : n < s.size) (ag : decide (((s[n]'al).toNat : Int) < bb) = false) (am : decide (bb < ((s[n]'al).toNat : Int)) = true) (bw : IntKind.i64.wrap (HH - 1) = hv) (hs : s.size ≤ 1000000000) (ht : t.size ≤ 1000000000) :
    Calls Tryd.prog 125 #[.agg #[.bool a, .bool b, .string s, .bool c, .bool d, .string t], .string D, .int .u8 bb] w fun e w' => e = .returned (.string ⟨#[]⟩) ∧ Below w.heap.size w w' := by
  have HB := Lib.hid (fun o : Obj => (Below.refl w.heap.size w).alloc (Nat.le_refl _) o)
  have HN1 := Lib.hid N1
  have HN2 := Lib.hid N2
  clear N1 N2
  go_enter Tryd.func125, Tryd.ntmps125
  go_wp2
  go_quiet ((go_at_call 121; first | with_reducible exact quiet_leftK (HN1.out _) | with_reducible exact quiet_leftK (HN2.out _)))
  go_wp2
  go_ret
  exact ⟨rfl, below_drewN (HB.out _) _⟩
set_option maxRecDepth 100000 in
set_option maxHeartbeats 1000000 in
theorem sstep_eq_z (w : World) (a b : Bool) (s : ByteArray) (c d : Bool) (t D D1 D2 : ByteArray) (LL HH bb : Int) (n : Nat) (hd : D.size = 8) (e1 : D.extract 0 4 = D1) (e2 : D.extract 4 8 = D2)
    (N1 : ∀ W : World, Calls Tryd.prog 121 #[.string D1] W fun e w' => e = .returned (.int .i64 LL) ∧ ∃ k, w' = W.drewN k) (N2 : ∀ W : World, Calls Tryd.prog 121 #[.string D2] W fun e w' => e = .returned (.int .i64 HH) ∧ ∃ k, w' = W.drewN k)
    (aw : IntKind.i64.wrap (LL - 1) = (n : Int)) (ae : ((n : Int) == (s.size : Int)) = false) (al : n < s.size) (ag : decide (((s[n]'al).toNat : Int) < bb) = false) (am : decide (bb < ((s[n]'al).toNat : Int)) = false) (bw : IntKind.i64.wrap (HH - 1) = -1) (hs : s.size ≤ 1000000000) (ht : t.size ≤ 1000000000) (R : ByteArray)
    (hC : ∀ W : World, Calls Tryd.prog 126 #[.agg #[.bool a, .bool b, .string s, .bool c, .bool d, .string t], .int .i64 ((n : Int) + 1), .int .i64 (-1)] W fun e w' => e = .returned (.string R) ∧ Below W.heap.size W w') :
    Calls Tryd.prog 125 #[.agg #[.bool a, .bool b, .string s, .bool c, .bool d, .string t], .string D, .int .u8 bb] w fun e w' => e = .returned (.string R) ∧ Below w.heap.size w w' := by
  have HB := Lib.hid (fun o : Obj => (Below.refl w.heap.size w).alloc (Nat.le_refl _) o)
  have HN1 := Lib.hid N1
  have HN2 := Lib.hid N2
  have HC := Lib.hid hC
  clear hC
  clear N1 N2
  go_enter Tryd.func125, Tryd.ntmps125
  go_wp2
  go_quiet ((go_at_call 121; first | with_reducible exact quiet_leftK (HN1.out _) | with_reducible exact quiet_leftK (HN2.out _)))
  go_wp2_with fail
  refine (HC.out _).mono ?_
  rintro e w1 ⟨rfl, hb1⟩
  have HB1 := Lib.hid ((below_drewN (HB.out _) _).trans (hb1.mono (below_drewN (HB.out _) _).size))
  clear hb1
  go_wp2
  go_ret
  exact ⟨rfl, HB1.out⟩
set_option maxRecDepth 100000 in
set_option maxHeartbeats 1000000 in
theorem sstep_eq_end (w : World) (a b : Bool) (s : ByteArray) (c d : Bool) (t D D1 D2 : ByteArray) (LL HH bb : Int) (n : Nat) (m : Nat) (hd : D.size = 8) (e1 : D.extract 0 4 = D1) (e2 : D.extract 4 8 = D2)
    (N1 : ∀ W : World, Calls Tryd.prog 121 #[.string D1] W fun e w' => e = .returned (.int .i64 LL) ∧ ∃ k, w' = W.drewN k) (N2 : ∀ W : World, Calls Tryd.prog 121 #[.string D2] W fun e w' => e = .returned (.int .i64 HH) ∧ ∃ k, w' = W.drewN k)
    (aw : IntKind.i64.wrap (LL - 1) = (n : Int)) (ae : ((n : Int) == (s.size : Int)) = false) (al : n < s.size) (ag : decide (((s[n]'al).toNat : Int) < bb) = false) (am : decide (bb < ((s[n]'al).toNat : Int)) = false) (bw : IntKind.i64.wrap (HH - 1) = (m : Int)) (be : ((m : Int) == (t.size : Int)) = true) (hs : s.size ≤ 1000000000) (ht : t.size ≤ 1000000000) :
    Calls Tryd.prog 125 #[.agg #[.bool a, .bool b, .string s, .bool c, .bool d, .string t], .string D, .int .u8 bb] w fun e w' => e = .returned (.string ⟨#[]⟩) ∧ Below w.heap.size w w' := by
  have HB := Lib.hid (fun o : Obj => (Below.refl w.heap.size w).alloc (Nat.le_refl _) o)
  have HN1 := Lib.hid N1
  have HN2 := Lib.hid N2
  clear N1 N2
  go_enter Tryd.func125, Tryd.ntmps125
  go_wp2
  go_quiet ((go_at_call 121; first | with_reducible exact quiet_leftK (HN1.out _) | with_reducible exact quiet_leftK (HN2.out _)))
  go_wp2
  go_ret
  exact ⟨rfl, below_drewN (HB.out _) _⟩
set_option maxRecDepth 100000 in
set_option maxHeartbeats 1000000 in
theorem sstep_eq_gt (w : World) (a b : Bool) (s : ByteArray) (c d : Bool) (t D D1 D2 : ByteArray) (LL HH bb : Int) (n : Nat) (m : Nat) (hd : D.size = 8) (e1 : D.extract 0 4 = D1) (e2 : D.extract 4 8 = D2)
    (N1 : ∀ W : World, Calls Tryd.prog 121 #[.string D1] W fun e w' => e = .returned (.int .i64 LL) ∧ ∃ k, w' = W.drewN k) (N2 : ∀ W : World, Calls Tryd.prog 121 #[.string D2] W fun e w' => e = .returned (.int .i64 HH) ∧ ∃ k, w' = W.drewN k)
    (aw : IntKind.i64.wrap (LL - 1) = (n : Int)) (ae : ((n : Int) == (s.size : Int)) = false) (al : n < s.size) (ag : decide (((s[n]'al).toNat : Int) < bb) = false) (am : decide (bb < ((s[n]'al).toNat : Int)) = false) (bw : IntKind.i64.wrap (HH - 1) = (m : Int)) (be : ((m : Int) == (t.size : Int)) = false) (bl : m < t.size) (bg : decide (((t[m]'bl).toNat : Int) < bb) = true) (hs : s.size ≤ 1000000000) (ht : t.size ≤ 1000000000) :
    Calls Tryd.prog 125 #[.agg #[.bool a, .bool b, .string s, .bool c, .bool d, .string t], .string D, .int .u8 bb] w fun e w' => e = .returned (.string ⟨#[]⟩) ∧ Below w.heap.size w w' := by
  have HB := Lib.hid (fun o : Obj => (Below.refl w.heap.size w).alloc (Nat.le_refl _) o)
  have HN1 := Lib.hid N1
  have HN2 := Lib.hid N2
  clear N1 N2
  go_enter Tryd.func125, Tryd.ntmps125
  go_wp2
  go_quiet ((go_at_call 121; first | with_reducible exact quiet_leftK (HN1.out _) | with_reducible exact quiet_leftK (HN2.out _)))
  go_wp2
  go_ret
  exact ⟨rfl, below_drewN (HB.out _) _⟩
set_option maxRecDepth 100000 in
set_option maxHeartbeats 1000000 in
theorem sstep_eq_lt (w : World) (a b : Bool) (s : ByteArray) (c d : Bool) (t D D1 D2 : ByteArray) (LL HH bb : Int) (n : Nat) (m : Nat) (hd : D.size = 8) (e1 : D.extract 0 4 = D1) (e2 : D.extract 4 8 = D2)
    (N1 : ∀ W : World, Calls Tryd.prog 121 #[.string D1] W fun e w' => e = .returned (.int .i64 LL) ∧ ∃ k, w' = W.drewN k) (N2 : ∀ W : World, Calls Tryd.prog 121 #[.string D2] W fun e w' => e = .returned (.int .i64 HH) ∧ ∃ k, w' = W.drewN k)
    (aw : IntKind.i64.wrap (LL - 1) = (n : Int)) (ae : ((n : Int) == (s.size : Int)) = false) (al : n < s.size) (ag : decide (((s[n]'al).toNat : Int) < bb) = false) (am : decide (bb < ((s[n]'al).toNat : Int)) = false) (bw : IntKind.i64.wrap (HH - 1) = (m : Int)) (be : ((m : Int) == (t.size : Int)) = false) (bl : m < t.size) (bg : decide (((t[m]'bl).toNat : Int) < bb) = false) (bm : decide (bb < ((t[m]'bl).toNat : Int)) = true) (hs : s.size ≤ 1000000000) (ht : t.size ≤ 1000000000) (R : ByteArray)
    (hC : ∀ W : World, Calls Tryd.prog 126 #[.agg #[.bool a, .bool b, .string s, .bool c, .bool d, .string t], .int .i64 ((n : Int) + 1), .int .i64 (-1)] W fun e w' => e = .returned (.string R) ∧ Below W.heap.size W w') :
    Calls Tryd.prog 125 #[.agg #[.bool a, .bool b, .string s, .bool c, .bool d, .string t], .string D, .int .u8 bb] w fun e w' => e = .returned (.string R) ∧ Below w.heap.size w w' := by
  have HB := Lib.hid (fun o : Obj => (Below.refl w.heap.size w).alloc (Nat.le_refl _) o)
  have HN1 := Lib.hid N1
  have HN2 := Lib.hid N2
  have HC := Lib.hid hC
  clear hC
  clear N1 N2
  go_enter Tryd.func125, Tryd.ntmps125
  go_wp2
  go_quiet ((go_at_call 121; first | with_reducible exact quiet_leftK (HN1.out _) | with_reducible exact quiet_leftK (HN2.out _)))
  go_wp2_with fail
  refine (HC.out _).mono ?_
  rintro e w1 ⟨rfl, hb1⟩
  have HB1 := Lib.hid ((below_drewN (HB.out _) _).trans (hb1.mono (below_drewN (HB.out _) _).size))
  clear hb1
  go_wp2
  go_ret
  exact ⟨rfl, HB1.out⟩
set_option maxRecDepth 100000 in
set_option maxHeartbeats 1000000 in
theorem sstep_eq_eq (w : World) (a b : Bool) (s : ByteArray) (c d : Bool) (t D D1 D2 : ByteArray) (LL HH bb : Int) (n : Nat) (m : Nat) (hd : D.size = 8) (e1 : D.extract 0 4 = D1) (e2 : D.extract 4 8 = D2)
    (N1 : ∀ W : World, Calls Tryd.prog 121 #[.string D1] W fun e w' => e = .returned (.int .i64 LL) ∧ ∃ k, w' = W.drewN k) (N2 : ∀ W : World, Calls Tryd.prog 121 #[.string D2] W fun e w' => e = .returned (.int .i64 HH) ∧ ∃ k, w' = W.drewN k)
    (aw : IntKind.i64.wrap (LL - 1) = (n : Int)) (ae : ((n : Int) == (s.size : Int)) = false) (al : n < s.size) (ag : decide (((s[n]'al).toNat : Int) < bb) = false) (am : decide (bb < ((s[n]'al).toNat : Int)) = false) (bw : IntKind.i64.wrap (HH - 1) = (m : Int)) (be : ((m : Int) == (t.size : Int)) = false) (bl : m < t.size) (bg : decide (((t[m]'bl).toNat : Int) < bb) = false) (bm : decide (bb < ((t[m]'bl).toNat : Int)) = false) (hs : s.size ≤ 1000000000) (ht : t.size ≤ 1000000000) (R : ByteArray)
    (hC : ∀ W : World, Calls Tryd.prog 126 #[.agg #[.bool a, .bool b, .string s, .bool c, .bool d, .string t], .int .i64 ((n : Int) + 1), .int .i64 ((m : Int) + 1)] W fun e w' => e = .returned (.string R) ∧ Below W.heap.size W w') :
    Calls Tryd.prog 125 #[.agg #[.bool a, .bool b, .string s, .bool c, .bool d, .string t], .string D, .int .u8 bb] w fun e w' => e = .returned (.string R) ∧ Below w.heap.size w w' := by
  have HB := Lib.hid (fun o : Obj => (Below.refl w.heap.size w).alloc (Nat.le_refl _) o)
  have HN1 := Lib.hid N1
  have HN2 := Lib.hid N2
  have HC := Lib.hid hC
  clear hC
  clear N1 N2
  go_enter Tryd.func125, Tryd.ntmps125
  go_wp2
  go_quiet ((go_at_call 121; first | with_reducible exact quiet_leftK (HN1.out _) | with_reducible exact quiet_leftK (HN2.out _)))
  go_wp2_with fail
  refine (HC.out _).mono ?_
  rintro e w1 ⟨rfl, hb1⟩
  have HB1 := Lib.hid ((below_drewN (HB.out _) _).trans (hb1.mono (below_drewN (HB.out _) _).size))
  clear hb1
  go_wp2
  go_ret
  exact ⟨rfl, HB1.out⟩
end Go.Proofs.YtejmjjgbbojfbaaDoor
