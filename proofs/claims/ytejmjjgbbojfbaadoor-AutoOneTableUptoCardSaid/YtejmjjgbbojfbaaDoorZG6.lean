/- Merged: ErrEq, NumE. -/
import Derived.Test.YtejmjjgbbojfbaaDoorZG1
import Derived.LaidEql
/- Two errors, compared. -/
namespace Go.Proofs.YtejmjjgbbojfbaaDoor
set_option linter.unusedVariables false
open Go.ChangeShapes Go.WideShapes Go.ChangeAt Go.RowKit

theorem errComp : (Tryd.prog.info? 190).map (·.comparable) = some true := by kernel_rfl
theorem errSize : (Tryd.prog.info? 208).map (fun j => decide (j.size ≠ 0)) = some true := by kernel_rfl
theorem err_same (a : Addr) (w : World) : (binOp .eql 29 (.iface 190 (.pointer (some a))) (.iface 190 (.pointer (some a)))).run Tryd.prog w = .ok (.bool true) w := by
  obtain ⟨i, hi, hcmp⟩ := Option.map_eq_some_iff.1 errComp
  obtain ⟨j, hj, hjs⟩ := Option.map_eq_some_iff.1 errSize
  exact run_eql_iface_ptr_same (P := Tryd.prog) w a Tryd.underlying29 Tryd.underlying190 hi hcmp hj
end Go.Proofs.YtejmjjgbbojfbaaDoor

/- concordnum.Num: the number of an error (printed by wip/gen_nume.py). -/
namespace Go.Proofs.YtejmjjgbbojfbaaDoor
set_option linter.unusedVariables false
open Go.ChangeShapes Go.WideShapes Go.ChangeAt Go.RowKit

/-- The sentinels of the first numbers: where each variable lies, and that they differ. -/
structure Sent (w : World) (EA : Nat → Addr) : Prop where
  c1 : w.cell? ⟨3, 0, none⟩ = some (errV EA 1)
  c2 : w.cell? ⟨4, 0, none⟩ = some (errV EA 2)
  c3 : w.cell? ⟨5, 0, none⟩ = some (errV EA 3)
  c4 : w.cell? ⟨6, 0, none⟩ = some (errV EA 4)
  c5 : w.cell? ⟨7, 0, none⟩ = some (errV EA 5)
  c6 : w.cell? ⟨8, 0, none⟩ = some (errV EA 6)
  c7 : w.cell? ⟨9, 0, none⟩ = some (errV EA 7)
  c8 : w.cell? ⟨1, 0, none⟩ = some (errV EA 8)
  c9 : w.cell? ⟨10, 0, none⟩ = some (errV EA 9)
  c10 : w.cell? ⟨11, 0, none⟩ = some (errV EA 10)
  c11 : w.cell? ⟨12, 0, none⟩ = some (errV EA 11)
  c12 : w.cell? ⟨13, 0, none⟩ = some (errV EA 12)
  c13 : w.cell? ⟨14, 0, none⟩ = some (errV EA 13)
  c14 : w.cell? ⟨2, 0, none⟩ = some (errV EA 14)
  c15 : w.cell? ⟨0, 0, none⟩ = some (errV EA 15)
  c16 : w.cell? ⟨15, 0, none⟩ = some (errV EA 16)
  c17 : w.cell? ⟨16, 0, none⟩ = some (errV EA 17)
  c18 : w.cell? ⟨17, 0, none⟩ = some (errV EA 18)
  c19 : w.cell? ⟨18, 0, none⟩ = some (errV EA 19)
  c20 : w.cell? ⟨19, 0, none⟩ = some (errV EA 20)
  c21 : w.cell? ⟨20, 0, none⟩ = some (errV EA 21)
  c22 : w.cell? ⟨21, 0, none⟩ = some (errV EA 22)
  c23 : w.cell? ⟨22, 0, none⟩ = some (errV EA 23)
  c24 : w.cell? ⟨23, 0, none⟩ = some (errV EA 24)
  blk : ∀ k, 1 ≤ k → k ≤ 24 → ∃ c t, w.heap[(EA k).block]? = some (.cells c t (0, 0))
  ne : ∀ i j, 1 ≤ i → i ≤ 24 → 1 ≤ j → j ≤ 24 → i ≠ j → EA i ≠ EA j
theorem Sent.below {w w' : World} {EA : Nat → Addr} (h : Sent w EA) (hb : Below w.heap.size w w') : Sent w' EA where
  c1 := by rw [hb.cell (World.block_lt_of_cell? w _ h.c1)]; exact h.c1
  c2 := by rw [hb.cell (World.block_lt_of_cell? w _ h.c2)]; exact h.c2
  c3 := by rw [hb.cell (World.block_lt_of_cell? w _ h.c3)]; exact h.c3
  c4 := by rw [hb.cell (World.block_lt_of_cell? w _ h.c4)]; exact h.c4
  c5 := by rw [hb.cell (World.block_lt_of_cell? w _ h.c5)]; exact h.c5
  c6 := by rw [hb.cell (World.block_lt_of_cell? w _ h.c6)]; exact h.c6
  c7 := by rw [hb.cell (World.block_lt_of_cell? w _ h.c7)]; exact h.c7
  c8 := by rw [hb.cell (World.block_lt_of_cell? w _ h.c8)]; exact h.c8
  c9 := by rw [hb.cell (World.block_lt_of_cell? w _ h.c9)]; exact h.c9
  c10 := by rw [hb.cell (World.block_lt_of_cell? w _ h.c10)]; exact h.c10
  c11 := by rw [hb.cell (World.block_lt_of_cell? w _ h.c11)]; exact h.c11
  c12 := by rw [hb.cell (World.block_lt_of_cell? w _ h.c12)]; exact h.c12
  c13 := by rw [hb.cell (World.block_lt_of_cell? w _ h.c13)]; exact h.c13
  c14 := by rw [hb.cell (World.block_lt_of_cell? w _ h.c14)]; exact h.c14
  c15 := by rw [hb.cell (World.block_lt_of_cell? w _ h.c15)]; exact h.c15
  c16 := by rw [hb.cell (World.block_lt_of_cell? w _ h.c16)]; exact h.c16
  c17 := by rw [hb.cell (World.block_lt_of_cell? w _ h.c17)]; exact h.c17
  c18 := by rw [hb.cell (World.block_lt_of_cell? w _ h.c18)]; exact h.c18
  c19 := by rw [hb.cell (World.block_lt_of_cell? w _ h.c19)]; exact h.c19
  c20 := by rw [hb.cell (World.block_lt_of_cell? w _ h.c20)]; exact h.c20
  c21 := by rw [hb.cell (World.block_lt_of_cell? w _ h.c21)]; exact h.c21
  c22 := by rw [hb.cell (World.block_lt_of_cell? w _ h.c22)]; exact h.c22
  c23 := by rw [hb.cell (World.block_lt_of_cell? w _ h.c23)]; exact h.c23
  c24 := by rw [hb.cell (World.block_lt_of_cell? w _ h.c24)]; exact h.c24
  blk := fun k h1 h2 => by
    obtain ⟨c, t, hc⟩ := h.blk k h1 h2
    exact ⟨c, t, (hb.block _ (lt_of_heap hc)).trans hc⟩
  ne := h.ne
theorem Sent.diff {w : World} {EA : Nat → Addr} (h : Sent w EA) {i j : Nat} (hi : 1 ≤ i ∧ i ≤ 24) (hj : 1 ≤ j ∧ j ≤ 24) (hij : i ≠ j) :
    (binOp .eql 29 (.iface 190 (.pointer (some (EA i)))) (.iface 190 (.pointer (some (EA j))))).run Tryd.prog w = .ok (.bool false) w := by
  obtain ⟨i', hi', hcmp⟩ := Option.map_eq_some_iff.1 errComp
  obtain ⟨j', hj', hjs⟩ := Option.map_eq_some_iff.1 errSize
  obtain ⟨ca, ta, ha⟩ := h.blk i hi.1 hi.2
  obtain ⟨cb, tb, hb⟩ := h.blk j hj.1 hj.2
  exact run_eql_iface_ptr_other (P := Tryd.prog) w Tryd.underlying29 Tryd.underlying190 hi' hcmp hj' (of_decide_eq_true hjs) (h.ne i j hi.1 hi.2 hj.1 hj.2 hij) ha hb
set_option maxRecDepth 100000 in
theorem num_nil (w : World) : Calls Tryd.prog 33 #[.nilIface] w fun e w' => e = .returned (.int .i64 0) ∧ w = w' := by
  go_enter Tryd.func33, Tryd.ntmps33
  go_wp2
  go_ret
  exact ⟨rfl, rfl⟩
set_option maxRecDepth 100000 in
set_option maxHeartbeats 1000000 in
theorem num_Range (w : World) (EA : Nat → Addr) (h : Sent w EA) : Calls Tryd.prog 33 #[errV EA 8] w fun e w' => e = .returned (.int .i64 8) ∧ w = w' := by
  have k1 := h.c1
  have k2 := h.c2
  have k3 := h.c3
  have k4 := h.c4
  have k5 := h.c5
  have k6 := h.c6
  have k7 := h.c7
  have k8 := h.c8
  have q1 := h.diff (i := 8) (j := 1) (by decide) (by decide) (by decide)
  have q2 := h.diff (i := 8) (j := 2) (by decide) (by decide) (by decide)
  have q3 := h.diff (i := 8) (j := 3) (by decide) (by decide) (by decide)
  have q4 := h.diff (i := 8) (j := 4) (by decide) (by decide) (by decide)
  have q5 := h.diff (i := 8) (j := 5) (by decide) (by decide) (by decide)
  have q6 := h.diff (i := 8) (j := 6) (by decide) (by decide) (by decide)
  have q7 := h.diff (i := 8) (j := 7) (by decide) (by decide) (by decide)
  have q8 := err_same (EA 8) w
  unfold errV at *
  clear h
  go_enter Tryd.func33, Tryd.ntmps33
  go_wp2
  go_ret
  exact ⟨rfl, rfl⟩
set_option maxRecDepth 100000 in
set_option maxHeartbeats 1000000 in
theorem num_Pattern (w : World) (EA : Nat → Addr) (h : Sent w EA) : Calls Tryd.prog 33 #[errV EA 14] w fun e w' => e = .returned (.int .i64 14) ∧ w = w' := by
  have k1 := h.c1
  have k2 := h.c2
  have k3 := h.c3
  have k4 := h.c4
  have k5 := h.c5
  have k6 := h.c6
  have k7 := h.c7
  have k8 := h.c8
  have k9 := h.c9
  have k10 := h.c10
  have k11 := h.c11
  have k12 := h.c12
  have k13 := h.c13
  have k14 := h.c14
  have q1 := h.diff (i := 14) (j := 1) (by decide) (by decide) (by decide)
  have q2 := h.diff (i := 14) (j := 2) (by decide) (by decide) (by decide)
  have q3 := h.diff (i := 14) (j := 3) (by decide) (by decide) (by decide)
  have q4 := h.diff (i := 14) (j := 4) (by decide) (by decide) (by decide)
  have q5 := h.diff (i := 14) (j := 5) (by decide) (by decide) (by decide)
  have q6 := h.diff (i := 14) (j := 6) (by decide) (by decide) (by decide)
  have q7 := h.diff (i := 14) (j := 7) (by decide) (by decide) (by decide)
  have q8 := h.diff (i := 14) (j := 8) (by decide) (by decide) (by decide)
  have q9 := h.diff (i := 14) (j := 9) (by decide) (by decide) (by decide)
  have q10 := h.diff (i := 14) (j := 10) (by decide) (by decide) (by decide)
  have q11 := h.diff (i := 14) (j := 11) (by decide) (by decide) (by decide)
  have q12 := h.diff (i := 14) (j := 12) (by decide) (by decide) (by decide)
  have q13 := h.diff (i := 14) (j := 13) (by decide) (by decide) (by decide)
  have q14 := err_same (EA 14) w
  unfold errV at *
  clear h
  go_enter Tryd.func33, Tryd.ntmps33
  go_wp2
  go_ret
  exact ⟨rfl, rfl⟩
set_option maxRecDepth 100000 in
set_option maxHeartbeats 1000000 in
theorem num_States (w : World) (EA : Nat → Addr) (h : Sent w EA) : Calls Tryd.prog 33 #[errV EA 15] w fun e w' => e = .returned (.int .i64 15) ∧ w = w' := by
  have k1 := h.c1
  have k2 := h.c2
  have k3 := h.c3
  have k4 := h.c4
  have k5 := h.c5
  have k6 := h.c6
  have k7 := h.c7
  have k8 := h.c8
  have k9 := h.c9
  have k10 := h.c10
  have k11 := h.c11
  have k12 := h.c12
  have k13 := h.c13
  have k14 := h.c14
  have k15 := h.c15
  have q1 := h.diff (i := 15) (j := 1) (by decide) (by decide) (by decide)
  have q2 := h.diff (i := 15) (j := 2) (by decide) (by decide) (by decide)
  have q3 := h.diff (i := 15) (j := 3) (by decide) (by decide) (by decide)
  have q4 := h.diff (i := 15) (j := 4) (by decide) (by decide) (by decide)
  have q5 := h.diff (i := 15) (j := 5) (by decide) (by decide) (by decide)
  have q6 := h.diff (i := 15) (j := 6) (by decide) (by decide) (by decide)
  have q7 := h.diff (i := 15) (j := 7) (by decide) (by decide) (by decide)
  have q8 := h.diff (i := 15) (j := 8) (by decide) (by decide) (by decide)
  have q9 := h.diff (i := 15) (j := 9) (by decide) (by decide) (by decide)
  have q10 := h.diff (i := 15) (j := 10) (by decide) (by decide) (by decide)
  have q11 := h.diff (i := 15) (j := 11) (by decide) (by decide) (by decide)
  have q12 := h.diff (i := 15) (j := 12) (by decide) (by decide) (by decide)
  have q13 := h.diff (i := 15) (j := 13) (by decide) (by decide) (by decide)
  have q14 := h.diff (i := 15) (j := 14) (by decide) (by decide) (by decide)
  have q15 := err_same (EA 15) w
  unfold errV at *
  clear h
  go_enter Tryd.func33, Tryd.ntmps33
  go_wp2
  go_ret
  exact ⟨rfl, rfl⟩
set_option maxRecDepth 100000 in
set_option maxHeartbeats 1000000 in
theorem num_Order (w : World) (EA : Nat → Addr) (h : Sent w EA) : Calls Tryd.prog 33 #[errV EA 4] w fun e w' => e = .returned (.int .i64 4) ∧ w = w' := by
  have k1 := h.c1
  have k2 := h.c2
  have k3 := h.c3
  have k4 := h.c4
  have q1 := h.diff (i := 4) (j := 1) (by decide) (by decide) (by decide)
  have q2 := h.diff (i := 4) (j := 2) (by decide) (by decide) (by decide)
  have q3 := h.diff (i := 4) (j := 3) (by decide) (by decide) (by decide)
  have q4 := err_same (EA 4) w
  unfold errV at *
  clear h
  go_enter Tryd.func33, Tryd.ntmps33
  go_wp2
  go_ret
  exact ⟨rfl, rfl⟩
set_option maxRecDepth 100000 in
set_option maxHeartbeats 1000000 in
theorem num_Limit (w : World) (EA : Nat → Addr) (h : Sent w EA) : Calls Tryd.prog 33 #[errV EA 3] w fun e w' => e = .returned (.int .i64 3) ∧ w = w' := by
  have k1 := h.c1
  have k2 := h.c2
  have k3 := h.c3
  have q1 := h.diff (i := 3) (j := 1) (by decide) (by decide) (by decide)
  have q2 := h.diff (i := 3) (j := 2) (by decide) (by decide) (by decide)
  have q3 := err_same (EA 3) w
  unfold errV at *
  clear h
  go_enter Tryd.func33, Tryd.ntmps33
  go_wp2
  go_ret
  exact ⟨rfl, rfl⟩
set_option maxRecDepth 100000 in
set_option maxHeartbeats 1000000 in
theorem num_Corrupt (w : World) (EA : Nat → Addr) (h : Sent w EA) : Calls Tryd.prog 33 #[errV EA 10] w fun e w' => e = .returned (.int .i64 10) ∧ w = w' := by
  have k1 := h.c1
  have k2 := h.c2
  have k3 := h.c3
  have k4 := h.c4
  have k5 := h.c5
  have k6 := h.c6
  have k7 := h.c7
  have k8 := h.c8
  have k9 := h.c9
  have k10 := h.c10
  have q1 := h.diff (i := 10) (j := 1) (by decide) (by decide) (by decide)
  have q2 := h.diff (i := 10) (j := 2) (by decide) (by decide) (by decide)
  have q3 := h.diff (i := 10) (j := 3) (by decide) (by decide) (by decide)
  have q4 := h.diff (i := 10) (j := 4) (by decide) (by decide) (by decide)
  have q5 := h.diff (i := 10) (j := 5) (by decide) (by decide) (by decide)
  have q6 := h.diff (i := 10) (j := 6) (by decide) (by decide) (by decide)
  have q7 := h.diff (i := 10) (j := 7) (by decide) (by decide) (by decide)
  have q8 := h.diff (i := 10) (j := 8) (by decide) (by decide) (by decide)
  have q9 := h.diff (i := 10) (j := 9) (by decide) (by decide) (by decide)
  have q10 := err_same (EA 10) w
  unfold errV at *
  clear h
  go_enter Tryd.func33, Tryd.ntmps33
  go_wp2
  go_ret
  exact ⟨rfl, rfl⟩
set_option maxRecDepth 100000 in
set_option maxHeartbeats 1000000 in
theorem num_Short (w : World) (EA : Nat → Addr) (h : Sent w EA) : Calls Tryd.prog 33 #[errV EA 1] w fun e w' => e = .returned (.int .i64 1) ∧ w = w' := by
  have k1 := h.c1
  have q1 := err_same (EA 1) w
  unfold errV at *
  clear h
  go_enter Tryd.func33, Tryd.ntmps33
  go_wp2
  go_ret
  exact ⟨rfl, rfl⟩
set_option maxRecDepth 100000 in
set_option maxHeartbeats 1000000 in
theorem num_Varint (w : World) (EA : Nat → Addr) (h : Sent w EA) : Calls Tryd.prog 33 #[errV EA 2] w fun e w' => e = .returned (.int .i64 2) ∧ w = w' := by
  have k1 := h.c1
  have k2 := h.c2
  have q1 := h.diff (i := 2) (j := 1) (by decide) (by decide) (by decide)
  have q2 := err_same (EA 2) w
  unfold errV at *
  clear h
  go_enter Tryd.func33, Tryd.ntmps33
  go_wp2
  go_ret
  exact ⟨rfl, rfl⟩
set_option maxRecDepth 100000 in
set_option maxHeartbeats 1000000 in
theorem num_Tail (w : World) (EA : Nat → Addr) (h : Sent w EA) : Calls Tryd.prog 33 #[errV EA 5] w fun e w' => e = .returned (.int .i64 5) ∧ w = w' := by
  have k1 := h.c1
  have k2 := h.c2
  have k3 := h.c3
  have k4 := h.c4
  have k5 := h.c5
  have q1 := h.diff (i := 5) (j := 1) (by decide) (by decide) (by decide)
  have q2 := h.diff (i := 5) (j := 2) (by decide) (by decide) (by decide)
  have q3 := h.diff (i := 5) (j := 3) (by decide) (by decide) (by decide)
  have q4 := h.diff (i := 5) (j := 4) (by decide) (by decide) (by decide)
  have q5 := err_same (EA 5) w
  unfold errV at *
  clear h
  go_enter Tryd.func33, Tryd.ntmps33
  go_wp2
  go_ret
  exact ⟨rfl, rfl⟩
end Go.Proofs.YtejmjjgbbojfbaaDoor
