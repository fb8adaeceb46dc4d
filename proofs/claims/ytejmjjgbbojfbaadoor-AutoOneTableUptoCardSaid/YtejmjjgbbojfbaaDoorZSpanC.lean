/- The answer of two bounds (printed by wip/gen_span.py). -/
import Derived.Test.YtejmjjgbbojfbaaDoorZG13
namespace Go.Proofs.YtejmjjgbbojfbaaDoor
set_option linter.unusedVariables false
open Go.ChangeShapes Go.WideShapes Go.ChangeAt Go.RowKit

set_option maxRecDepth 100000 in
set_option maxHeartbeats 1000000 in
theorem sacc_z_z (w : World) (a b : Bool) (s : ByteArray) (c d : Bool) (t D D1 D2 : ByteArray) (LL HH : Int) (hd : D.size = 8) (e1 : D.extract 0 4 = D1) (e2 : D.extract 4 8 = D2)
    (N1 : ∀ W : World, Calls Tryd.prog 121 #[.string D1] W fun e w' => e = .returned (.int .i64 LL) ∧ ∃ k, w' = W.drewN k) (N2 : ∀ W : World, Calls Tryd.prog 121 #[.string D2] W fun e w' => e = .returned (.int .i64 HH) ∧ ∃ k, w' = W.drewN k)
    (aw : IntKind.i64.wrap (LL - 1) = -1) (bw : IntKind.i64.wrap (HH - 1) = -1) (bz : decide ((-1 : Int) < (t.size : Int)) = true) (hs : s.size ≤ 1000000000) (ht : t.size ≤ 1000000000) :
    Calls Tryd.prog 123 #[.agg #[.bool a, .bool b, .string s, .bool c, .bool d, .string t], .string D] w fun e w' => e = .returned (.bool true) ∧ Below w.heap.size w w' := by
  have HB := Lib.hid (fun o : Obj => (Below.refl w.heap.size w).alloc (Nat.le_refl _) o)
  have HN1 := Lib.hid N1
  have HN2 := Lib.hid N2
  clear N1 N2
  go_enter Tryd.func123, Tryd.ntmps123
  go_wp2
  go_quiet ((go_at_call 121; first | with_reducible exact quiet_leftK (HN1.out _) | with_reducible exact quiet_leftK (HN2.out _)))
  go_wp2
  go_ret
  exact ⟨rfl, below_drewN (HB.out _) _⟩
set_option maxRecDepth 100000 in
set_option maxHeartbeats 1000000 in
theorem sacc_z_in (w : World) (a b : Bool) (s : ByteArray) (c d : Bool) (t D D1 D2 : ByteArray) (LL HH : Int) (m : Nat) (hd : D.size = 8) (e1 : D.extract 0 4 = D1) (e2 : D.extract 4 8 = D2)
    (N1 : ∀ W : World, Calls Tryd.prog 121 #[.string D1] W fun e w' => e = .returned (.int .i64 LL) ∧ ∃ k, w' = W.drewN k) (N2 : ∀ W : World, Calls Tryd.prog 121 #[.string D2] W fun e w' => e = .returned (.int .i64 HH) ∧ ∃ k, w' = W.drewN k)
    (aw : IntKind.i64.wrap (LL - 1) = -1) (bw : IntKind.i64.wrap (HH - 1) = (m : Int)) (bl : decide ((m : Int) < (t.size : Int)) = true) (bl2 : decide (m < t.size) = true) (hs : s.size ≤ 1000000000) (ht : t.size ≤ 1000000000) :
    Calls Tryd.prog 123 #[.agg #[.bool a, .bool b, .string s, .bool c, .bool d, .string t], .string D] w fun e w' => e = .returned (.bool true) ∧ Below w.heap.size w w' := by
  have HB := Lib.hid (fun o : Obj => (Below.refl w.heap.size w).alloc (Nat.le_refl _) o)
  have HN1 := Lib.hid N1
  have HN2 := Lib.hid N2
  clear N1 N2
  go_enter Tryd.func123, Tryd.ntmps123
  go_wp2
  go_quiet ((go_at_call 121; first | with_reducible exact quiet_leftK (HN1.out _) | with_reducible exact quiet_leftK (HN2.out _)))
  go_wp2
  go_ret
  exact ⟨rfl, below_drewN (HB.out _) _⟩
set_option maxRecDepth 100000 in
set_option maxHeartbeats 1000000 in
theorem sacc_z_end (w : World) (a b : Bool) (s : ByteArray) (c d : Bool) (t D D1 D2 : ByteArray) (LL HH : Int) (m : Nat) (hd : D.size = 8) (e1 : D.extract 0 4 = D1) (e2 : D.extract 4 8 = D2)
    (N1 : ∀ W : World, Calls Tryd.prog 121 #[.string D1] W fun e w' => e = .returned (.int .i64 LL) ∧ ∃ k, w' = W.drewN k) (N2 : ∀ W : World, Calls Tryd.prog 121 #[.string D2] W fun e w' => e = .returned (.int .i64 HH) ∧ ∃ k, w' = W.drewN k)
    (aw : IntKind.i64.wrap (LL - 1) = -1) (bw : IntKind.i64.wrap (HH - 1) = (m : Int)) (bl : decide ((m : Int) < (t.size : Int)) = false) (bl2 : decide (m < t.size) = false) (hs : s.size ≤ 1000000000) (ht : t.size ≤ 1000000000) :
    Calls Tryd.prog 123 #[.agg #[.bool a, .bool b, .string s, .bool c, .bool d, .string t], .string D] w fun e w' => e = .returned (.bool d) ∧ Below w.heap.size w w' := by
  have HB := Lib.hid (fun o : Obj => (Below.refl w.heap.size w).alloc (Nat.le_refl _) o)
  have HN1 := Lib.hid N1
  have HN2 := Lib.hid N2
  clear N1 N2
  go_enter Tryd.func123, Tryd.ntmps123
  go_wp2
  go_quiet ((go_at_call 121; first | with_reducible exact quiet_leftK (HN1.out _) | with_reducible exact quiet_leftK (HN2.out _)))
  go_wp2
  go_ret
  exact ⟨rfl, below_drewN (HB.out _) _⟩
set_option maxRecDepth 100000 in
set_option maxHeartbeats 1000000 in
theorem sacc_in_any (w : World) (a b : Bool) (s : ByteArray) (c d : Bool) (t D D1 D2 : ByteArray) (LL HH : Int) (n : Nat) (hv : Int) (hd : D.size = 8) (e1 : D.extract 0 4 = D1) (e2 : D.extract 4 8 = D2)
    (N1 : ∀ W : World, Calls Tryd.prog 121 #[.string D1] W fun e w' => e = .returned (.int .i64 LL) ∧ ∃ k, w' = W.drewN k) (N2 : ∀ W : World, Calls Tryd.prog 121 #[.string D2] W fun e w' => e = .returned (.int .i64 HH) ∧ ∃ k, w' = W.drewN k)
    (aw : IntKind.i64.wrap (LL - 1) = (n : Int)) (al : decide ((n : Int) < (s.size : Int)) = true) (al2 : decide (n < s.size) = true) (bw : IntKind.i64.wrap (HH - 1) = hv) (hs : s.size ≤ 1000000000) (ht : t.size ≤ 1000000000) :
    Calls Tryd.prog 123 #[.agg #[.bool a, .bool b, .string s, .bool c, .bool d, .string t], .string D] w fun e w' => e = .returned (.bool false) ∧ Below w.heap.size w w' := by
  have HB := Lib.hid (fun o : Obj => (Below.refl w.heap.size w).alloc (Nat.le_refl _) o)
  have HN1 := Lib.hid N1
  have HN2 := Lib.hid N2
  clear N1 N2
  go_enter Tryd.func123, Tryd.ntmps123
  go_wp2
  go_quiet ((go_at_call 121; first | with_reducible exact quiet_leftK (HN1.out _) | with_reducible exact quiet_leftK (HN2.out _)))
  go_wp2
  go_ret
  exact ⟨rfl, below_drewN (HB.out _) _⟩
set_option maxRecDepth 100000 in
set_option maxHeartbeats 1000000 in
theorem sacc_end0_any (w : World) (a b : Bool) (s : ByteArray) (c d : Bool) (t D D1 D2 : ByteArray) (LL HH : Int) (n : Nat) (hv : Int) (hd : D.size = 8) (e1 : D.extract 0 4 = D1) (e2 : D.extract 4 8 = D2)
    (N1 : ∀ W : World, Calls Tryd.prog 121 #[.string D1] W fun e w' => e = .returned (.int .i64 LL) ∧ ∃ k, w' = W.drewN k) (N2 : ∀ W : World, Calls Tryd.prog 121 #[.string D2] W fun e w' => e = .returned (.int .i64 HH) ∧ ∃ k, w' = W.drewN k)
    (aw : IntKind.i64.wrap (LL - 1) = (n : Int)) (al : decide ((n : Int) < (s.size : Int)) = false) (al2 : decide (n < s.size) = false) (ab : b = false) (bw : IntKind.i64.wrap (HH - 1) = hv) (hs : s.size ≤ 1000000000) (ht : t.size ≤ 1000000000) :
    Calls Tryd.prog 123 #[.agg #[.bool a, .bool b, .string s, .bool c, .bool d, .string t], .string D] w fun e w' => e = .returned (.bool false) ∧ Below w.heap.size w w' := by
  have HB := Lib.hid (fun o : Obj => (Below.refl w.heap.size w).alloc (Nat.le_refl _) o)
  have HN1 := Lib.hid N1
  have HN2 := Lib.hid N2
  clear N1 N2
  subst ab
  go_enter Tryd.func123, Tryd.ntmps123
  go_wp2
  go_quiet ((go_at_call 121; first | with_reducible exact quiet_leftK (HN1.out _) | with_reducible exact quiet_leftK (HN2.out _)))
  go_wp2
  go_ret
  exact ⟨rfl, below_drewN (HB.out _) _⟩
set_option maxRecDepth 100000 in
set_option maxHeartbeats 1000000 in
theorem sacc_end1_z (w : World) (a b : Bool) (s : ByteArray) (c d : Bool) (t D D1 D2 : ByteArray) (LL HH : Int) (n : Nat) (hd : D.size = 8) (e1 : D.extract 0 4 = D1) (e2 : D.extract 4 8 = D2)
    (N1 : ∀ W : World, Calls Tryd.prog 121 #[.string D1] W fun e w' => e = .returned (.int .i64 LL) ∧ ∃ k, w' = W.drewN k) (N2 : ∀ W : World, Calls Tryd.prog 121 #[.string D2] W fun e w' => e = .returned (.int .i64 HH) ∧ ∃ k, w' = W.drewN k)
    (aw : IntKind.i64.wrap (LL - 1) = (n : Int)) (al : decide ((n : Int) < (s.size : Int)) = false) (al2 : decide (n < s.size) = false) (ab : b = true) (bw : IntKind.i64.wrap (HH - 1) = -1) (bz : decide ((-1 : Int) < (t.size : Int)) = true) (hs : s.size ≤ 1000000000) (ht : t.size ≤ 1000000000) :
    Calls Tryd.prog 123 #[.agg #[.bool a, .bool b, .string s, .bool c, .bool d, .string t], .string D] w fun e w' => e = .returned (.bool true) ∧ Below w.heap.size w w' := by
  have HB := Lib.hid (fun o : Obj => (Below.refl w.heap.size w).alloc (Nat.le_refl _) o)
  have HN1 := Lib.hid N1
  have HN2 := Lib.hid N2
  clear N1 N2
  subst ab
  go_enter Tryd.func123, Tryd.ntmps123
  go_wp2
  go_quiet ((go_at_call 121; first | with_reducible exact quiet_leftK (HN1.out _) | with_reducible exact quiet_leftK (HN2.out _)))
  go_wp2
  go_ret
  exact ⟨rfl, below_drewN (HB.out _) _⟩
set_option maxRecDepth 100000 in
set_option maxHeartbeats 1000000 in
theorem sacc_end1_in (w : World) (a b : Bool) (s : ByteArray) (c d : Bool) (t D D1 D2 : ByteArray) (LL HH : Int) (n : Nat) (m : Nat) (hd : D.size = 8) (e1 : D.extract 0 4 = D1) (e2 : D.extract 4 8 = D2)
    (N1 : ∀ W : World, Calls Tryd.prog 121 #[.string D1] W fun e w' => e = .returned (.int .i64 LL) ∧ ∃ k, w' = W.drewN k) (N2 : ∀ W : World, Calls Tryd.prog 121 #[.string D2] W fun e w' => e = .returned (.int .i64 HH) ∧ ∃ k, w' = W.drewN k)
    (aw : IntKind.i64.wrap (LL - 1) = (n : Int)) (al : decide ((n : Int) < (s.size : Int)) = false) (al2 : decide (n < s.size) = false) (ab : b = true) (bw : IntKind.i64.wrap (HH - 1) = (m : Int)) (bl : decide ((m : Int) < (t.size : Int)) = true) (bl2 : decide (m < t.size) = true) (hs : s.size ≤ 1000000000) (ht : t.size ≤ 1000000000) :
    Calls Tryd.prog 123 #[.agg #[.bool a, .bool b, .string s, .bool c, .bool d, .string t], .string D] w fun e w' => e = .returned (.bool true) ∧ Below w.heap.size w w' := by
  have HB := Lib.hid (fun o : Obj => (Below.refl w.heap.size w).alloc (Nat.le_refl _) o)
  have HN1 := Lib.hid N1
  have HN2 := Lib.hid N2
  clear N1 N2
  subst ab
  go_enter Tryd.func123, Tryd.ntmps123
  go_wp2
  go_quiet ((go_at_call 121; first | with_reducible exact quiet_leftK (HN1.out _) | with_reducible exact quiet_leftK (HN2.out _)))
  go_wp2
  go_ret
  exact ⟨rfl, below_drewN (HB.out _) _⟩
set_option maxRecDepth 100000 in
set_option maxHeartbeats 1000000 in
theorem sacc_end1_end (w : World) (a b : Bool) (s : ByteArray) (c d : Bool) (t D D1 D2 : ByteArray) (LL HH : Int) (n : Nat) (m : Nat) (hd : D.size = 8) (e1 : D.extract 0 4 = D1) (e2 : D.extract 4 8 = D2)
    (N1 : ∀ W : World, Calls Tryd.prog 121 #[.string D1] W fun e w' => e = .returned (.int .i64 LL) ∧ ∃ k, w' = W.drewN k) (N2 : ∀ W : World, Calls Tryd.prog 121 #[.string D2] W fun e w' => e = .returned (.int .i64 HH) ∧ ∃ k, w' = W.drewN k)
    (aw : IntKind.i64.wrap (LL - 1) = (n : Int)) (al : decide ((n : Int) < (s.size : Int)) = false) (al2 : decide (n < s.size) = false) (ab : b = true) (bw : IntKind.i64.wrap (HH - 1) = (m : Int)) (bl : decide ((m : Int) < (t.size : Int)) = false) (bl2 : decide (m < t.size) = false) (hs : s.size ≤ 1000000000) (ht : t.size ≤ 1000000000) :
    Calls Tryd.prog 123 #[.agg #[.bool a, .bool b, .string s, .bool c, .bool d, .string t], .string D] w fun e w' => e = .returned (.bool d) ∧ Below w.heap.size w w' := by
  have HB := Lib.hid (fun o : Obj => (Below.refl w.heap.size w).alloc (Nat.le_refl _) o)
  have HN1 := Lib.hid N1
  have HN2 := Lib.hid N2
  clear N1 N2
  subst ab
  go_enter Tryd.func123, Tryd.ntmps123
  go_wp2
  go_quiet ((go_at_call 121; first | with_reducible exact quiet_leftK (HN1.out _) | with_reducible exact quiet_leftK (HN2.out _)))
  go_wp2
  go_ret
  exact ⟨rfl, below_drewN (HB.out _) _⟩
end Go.Proofs.YtejmjjgbbojfbaaDoor
