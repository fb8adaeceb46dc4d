/- Merged: ErrEq, NumE, Fuzz. -/
import Derived.Test.YtejmjjgbbojfbaaDoorZG1
import Derived.LaidEql
import Derived.Test.YtejmjjgbbojfbaaDoorZG9
/- Two errors, compared. -/
namespace Go.Proofs.YtejmjjgbbojfbaaDoor
set_option linter.unusedVariables false
open Go.ChangeShapes Go.WideShapes Go.ChangeAt Go.RowKit

theorem errComp : (Tryd.prog.info? 190).map (·.comparable) = some true := by kernel_rfl
theorem errSize : (Tryd.prog.info? 208).map (fun j => decide (j.size ≠ 0)) = some true := by kernel_rfl
theorem err_same (a : Addr) (w : World) : (binOp .eql 29 (.iface 190 (.pointer (some a))) (.iface 190 (.pointer (some a)))).run Tryd.prog w = .ok (.bool true) w := by
  obtain ⟨i, hi, hcmp⟩ := Option.map_eq_some_iff.1 errComp
  obtain ⟨j, hj, hjs⟩ := Option.map_eq_some_iff.1 errSize
  exact run_eql_iface_ptr_same (P := Tryd.prog) w a Tryd.underlying29 Tryd.underlying190 hi hcmp hj
end Go.Proofs.YtejmjjgbbojfbaaDoor

/- concordnum.Num: the number of an error (printed by wip/gen_nume.py). -/
namespace Go.Proofs.YtejmjjgbbojfbaaDoor
set_option linter.unusedVariables false
open Go.ChangeShapes Go.WideShapes Go.ChangeAt Go.RowKit

/-- The sentinels of the first numbers: where each variable lies, and that they differ. -/
structure Sent (w : World) (EA : Nat → Addr) : Prop where
  c1 : w.cell? ⟨3, 0, none⟩ = some (errV EA 1)
  c2 : w.cell? ⟨4, 0, none⟩ = some (errV EA 2)
  c3 : w.cell? ⟨5, 0, none⟩ = some (errV EA 3)
  c4 : w.cell? ⟨6, 0, none⟩ = some (errV EA 4)
  c5 : w.cell? ⟨7, 0, none⟩ = some (errV EA 5)
  c6 : w.cell? ⟨8, 0, none⟩ = some (errV EA 6)
  c7 : w.cell? ⟨9, 0, none⟩ = some (errV EA 7)
  c8 : w.cell? ⟨1, 0, none⟩ = some (errV EA 8)
  c9 : w.cell? ⟨10, 0, none⟩ = some (errV EA 9)
  c10 : w.cell? ⟨11, 0, none⟩ = some (errV EA 10)
  c11 : w.cell? ⟨12, 0, none⟩ = some (errV EA 11)
  c12 : w.cell? ⟨13, 0, none⟩ = some (errV EA 12)
  c13 : w.cell? ⟨14, 0, none⟩ = some (errV EA 13)
  c14 : w.cell? ⟨2, 0, none⟩ = some (errV EA 14)
  c15 : w.cell? ⟨0, 0, none⟩ = some (errV EA 15)
  c16 : w.cell? ⟨15, 0, none⟩ = some (errV EA 16)
  c17 : w.cell? ⟨16, 0, none⟩ = some (errV EA 17)
  c18 : w.cell? ⟨17, 0, none⟩ = some (errV EA 18)
  c19 : w.cell? ⟨18, 0, none⟩ = some (errV EA 19)
  c20 : w.cell? ⟨19, 0, none⟩ = some (errV EA 20)
  c21 : w.cell? ⟨20, 0, none⟩ = some (errV EA 21)
  c22 : w.cell? ⟨21, 0, none⟩ = some (errV EA 22)
  c23 : w.cell? ⟨22, 0, none⟩ = some (errV EA 23)
  c24 : w.cell? ⟨23, 0, none⟩ = some (errV EA 24)
  blk : ∀ k, 1 ≤ k → k ≤ 24 → ∃ c t, w.heap[(EA k).block]? = some (.cells c t (0, 0))
  ne : ∀ i j, 1 ≤ i → i ≤ 24 → 1 ≤ j → j ≤ 24 → i ≠ j → EA i ≠ EA j
theorem Sent.below {w w' : World} {EA : Nat → Addr} (h : Sent w EA) (hb : Below w.heap.size w w') : Sent w' EA where
  c1 := by rw [hb.cell (World.block_lt_of_cell? w _ h.c1)]; exact h.c1
  c2 := by rw [hb.cell (World.block_lt_of_cell? w _ h.c2)]; exact h.c2
  c3 := by rw [hb.cell (World.block_lt_of_cell? w _ h.c3)]; exact h.c3
  c4 := by rw [hb.cell (World.block_lt_of_cell? w _ h.c4)]; exact h.c4
  c5 := by rw [hb.cell (World.block_lt_of_cell? w _ h.c5)]; exact h.c5
  c6 := by rw [hb.cell (World.block_lt_of_cell? w _ h.c6)]; exact h.c6
  c7 := by rw [hb.cell (World.block_lt_of_cell? w _ h.c7)]; exact h.c7
  c8 := by rw [hb.cell (World.block_lt_of_cell? w _ h.c8)]; exact h.c8
  c9 := by rw [hb.cell (World.block_lt_of_cell? w _ h.c9)]; exact h.c9
  c10 := by rw [hb.cell (World.block_lt_of_cell? w _ h.c10)]; exact h.c10
  c11 := by rw [hb.cell (World.block_lt_of_cell? w _ h.c11)]; exact h.c11
  c12 := by rw [hb.cell (World.block_lt_of_cell? w _ h.c12)]; exact h.c12
  c13 := by rw [hb.cell (World.block_lt_of_cell? w _ h.c13)]; exact h.c13
  c14 := by rw [hb.cell (World.block_lt_of_cell? w _ h.c14)]; exact h.c14
  c15 := by rw [hb.cell (World.block_lt_of_cell? w _ h.c15)]; exact h.c15
  c16 := by rw [hb.cell (World.block_lt_of_cell? w _ h.c16)]; exact h.c16
  c17 := by rw [hb.cell (World.block_lt_of_cell? w _ h.c17)]; exact h.c17
  c18 := by rw [hb.cell (World.block_lt_of_cell? w _ h.c18)]; exact h.c18
  c19 := by rw [hb.cell (World.block_lt_of_cell? w _ h.c19)]; exact h.c19
  c20 := by rw [hb.cell (World.block_lt_of_cell? w _ h.c20)]; exact h.c20
  c21 := by rw [hb.cell (World.block_lt_of_cell? w _ h.c21)]; exact h.c21
  c22 := by rw [hb.cell (World.block_lt_of_cell? w _ h.c22)]; exact h.c22
  c23 := by rw [hb.cell (World.block_lt_of_cell? w _ h.c23)]; exact h.c23
  c24 := by rw [hb.cell (World.block_lt_of_cell? w _ h.c24)]; exact h.c24
  blk := fun k h1 h2 => by
    obtain ⟨c, t, hc⟩ := h.blk k h1 h2
    exact ⟨c, t, (hb.block _ (lt_of_heap hc)).trans hc⟩
  ne := h.ne
theorem Sent.diff {w : World} {EA : Nat → Addr} (h : Sent w EA) {i j : Nat} (hi : 1 ≤ i ∧ i ≤ 24) (hj : 1 ≤ j ∧ j ≤ 24) (hij : i ≠ j) :
    (binOp .eql 29 (.iface 190 (.pointer (some (EA i)))) (.iface 190 (.pointer (some (EA j))))).run Tryd.prog w = .ok (.bool false) w := by
  obtain ⟨i', hi', hcmp⟩ := Option.map_eq_some_iff.1 errComp
  obtain ⟨j', hj', hjs⟩ := Option.map_eq_some_iff.1 errSize
  obtain ⟨ca, ta, ha⟩ := h.blk i hi.1 hi.2
  obtain ⟨cb, tb, hb⟩ := h.blk j hj.1 hj.2
  exact run_eql_iface_ptr_other (P := Tryd.prog) w Tryd.underlying29 Tryd.underlying190 hi' hcmp hj' (of_decide_eq_true hjs) (h.ne i j hi.1 hi.2 hj.1 hj.2 hij) ha hb
set_option maxRecDepth 100000 in
theorem num_nil (w : World) : Calls Tryd.prog 33 #[.nilIface] w fun e w' => e = .returned (.int .i64 0) ∧ w = w' := by
  go_enter Tryd.func33, Tryd.ntmps33
  go_wp2
  go_ret
  exact ⟨rfl, rfl⟩
set_option maxRecDepth 100000 in
set_option maxHeartbeats 1000000 in
theorem num_Range (w : World) (EA : Nat → Addr) (h : Sent w EA) : Calls Tryd.prog 33 #[errV EA 8] w fun e w' => e = .returned (.int .i64 8) ∧ w = w' := by
  have k1 := h.c1
  have k2 := h.c2
  have k3 := h.c3
  have k4 := h.c4
  have k5 := h.c5
  have k6 := h.c6
  have k7 := h.c7
  have k8 := h.c8
  have q1 := h.diff (i := 8) (j := 1) (by decide) (by decide) (by decide)
  have q2 := h.diff (i := 8) (j := 2) (by decide) (by decide) (by decide)
  have q3 := h.diff (i := 8) (j := 3) (by decide) (by decide) (by decide)
  have q4 := h.diff (i := 8) (j := 4) (by decide) (by decide) (by decide)
  have q5 := h.diff (i := 8) (j := 5) (by decide) (by decide) (by decide)
  have q6 := h.diff (i := 8) (j := 6) (by decide) (by decide) (by decide)
  have q7 := h.diff (i := 8) (j := 7) (by decide) (by decide) (by decide)
  have q8 := err_same (EA 8) w
  unfold errV at *
  clear h
  go_enter Tryd.func33, Tryd.ntmps33
  go_wp2
  go_ret
  exact ⟨rfl, rfl⟩
set_option maxRecDepth 100000 in
set_option maxHeartbeats 1000000 in
theorem num_Pattern (w : World) (EA : Nat → Addr) (h : Sent w EA) : Calls Tryd.prog 33 #[errV EA 14] w fun e w' => e = .returned (.int .i64 14) ∧ w = w' := by
  have k1 := h.c1
  have k2 := h.c2
  have k3 := h.c3
  have k4 := h.c4
  have k5 := h.c5
  have k6 := h.c6
  have k7 := h.c7
  have k8 := h.c8
  have k9 := h.c9
  have k10 := h.c10
  have k11 := h.c11
  have k12 := h.c12
  have k13 := h.c13
  have k14 := h.c14
  have q1 := h.diff (i := 14) (j := 1) (by decide) (by decide) (by decide)
  have q2 := h.diff (i := 14) (j := 2) (by decide) (by decide) (by decide)
  have q3 := h.diff (i := 14) (j := 3) (by decide) (by decide) (by decide)
  have q4 := h.diff (i := 14) (j := 4) (by decide) (by decide) (by decide)
  have q5 := h.diff (i := 14) (j := 5) (by decide) (by decide) (by decide)
  have q6 := h.diff (i := 14) (j := 6) (by decide) (by decide) (by decide)
  have q7 := h.diff (i := 14) (j := 7) (by decide) (by decide) (by decide)
  have q8 := h.diff (i := 14) (j := 8) (by decide) (by decide) (by decide)
  have q9 := h.diff (i := 14) (j := 9) (by decide) (by decide) (by decide)
  have q10 := h.diff (i := 14) (j := 10) (by decide) (by decide) (by decide)
  have q11 := h.diff (i := 14) (j := 11) (by decide) (by decide) (by decide)
  have q12 := h.diff (i := 14) (j := 12) (by decide) (by decide) (by decide)
  have q13 := h.diff (i := 14) (j := 13) (by decide) (by decide) (by decide)
  have q14 := err_same (EA 14) w
  unfold errV at *
  clear h
  go_enter Tryd.func33, Tryd.ntmps33
  go_wp2
  go_ret
  exact ⟨rfl, rfl⟩
set_option maxRecDepth 100000 in
set_option maxHeartbeats 1000000 in
theorem num_States (w : World) (EA : Nat → Addr) (h : Sent w EA) : Calls Tryd.prog 33 #[errV EA 15] w fun e w' => e = .returned (.int .i64 15) ∧ w = w' := by
  have k1 := h.c1
  have k2 := h.c2
  have k3 := h.c3
  have k4 := h.c4
  have k5 := h.c5
  have k6 := h.c6
  have k7 := h.c7
  have k8 := h.c8
  have k9 := h.c9
  have k10 := h.c10
  have k11 := h.c11
  have k12 := h.c12
  have k13 := h.c13
  have k14 := h.c14
  have k15 := h.c15
  have q1 := h.diff (i := 15) (j := 1) (by decide) (by decide) (by decide)
  have q2 := h.diff (i := 15) (j := 2) (by decide) (by decide) (by decide)
  have q3 := h.diff (i := 15) (j := 3) (by decide) (by decide) (by decide)
  have q4 := h.diff (i := 15) (j := 4) (by decide) (by decide) (by decide)
  have q5 := h.diff (i := 15) (j := 5) (by decide) (by decide) (by decide)
  have q6 := h.diff (i := 15) (j := 6) (by decide) (by decide) (by decide)
  have q7 := h.diff (i := 15) (j := 7) (by decide) (by decide) (by decide)
  have q8 := h.diff (i := 15) (j := 8) (by decide) (by decide) (by decide)
  have q9 := h.diff (i := 15) (j := 9) (by decide) (by decide) (by decide)
  have q10 := h.diff (i := 15) (j := 10) (by decide) (by decide) (by decide)
  have q11 := h.diff (i := 15) (j := 11) (by decide) (by decide) (by decide)
  have q12 := h.diff (i := 15) (j := 12) (by decide) (by decide) (by decide)
  have q13 := h.diff (i := 15) (j := 13) (by decide) (by decide) (by decide)
  have q14 := h.diff (i := 15) (j := 14) (by decide) (by decide) (by decide)
  have q15 := err_same (EA 15) w
  unfold errV at *
  clear h
  go_enter Tryd.func33, Tryd.ntmps33
  go_wp2
  go_ret
  exact ⟨rfl, rfl⟩
set_option maxRecDepth 100000 in
set_option maxHeartbeats 1000000 in
theorem num_Order (w : World) (EA : Nat → Addr) (h : Sent w EA) : Calls Tryd.prog 33 #[errV EA 4] w fun e w' => e = .returned (.int .i64 4) ∧ w = w' := by
  have k1 := h.c1
  have k2 := h.c2
  have k3 := h.c3
  have k4 := h.c4
  have q1 := h.diff (i := 4) (j := 1) (by decide) (by decide) (by decide)
  have q2 := h.diff (i := 4) (j := 2) (by decide) (by decide) (by decide)
  have q3 := h.diff (i := 4) (j := 3) (by decide) (by decide) (by decide)
  have q4 := err_same (EA 4) w
  unfold errV at *
  clear h
  go_enter Tryd.func33, Tryd.ntmps33
  go_wp2
  go_ret
  exact ⟨rfl, rfl⟩
set_option maxRecDepth 100000 in
set_option maxHeartbeats 1000000 in
theorem num_Limit (w : World) (EA : Nat → Addr) (h : Sent w EA) : Calls Tryd.prog 33 #[errV EA 3] w fun e w' => e = .returned (.int .i64 3) ∧ w = w' := by
  have k1 := h.c1
  have k2 := h.c2
  have k3 := h.c3
  have q1 := h.diff (i := 3) (j := 1) (by decide) (by decide) (by decide)
  have q2 := h.diff (i := 3) (j := 2) (by decide) (by decide) (by decide)
  have q3 := err_same (EA 3) w
  unfold errV at *
  clear h
  go_enter Tryd.func33, Tryd.ntmps33
  go_wp2
  go_ret
  exact ⟨rfl, rfl⟩
set_option maxRecDepth 100000 in
set_option maxHeartbeats 1000000 in
theorem num_Corrupt (w : World) (EA : Nat → Addr) (h : Sent w EA) : Calls Tryd.prog 33 #[errV EA 10] w fun e w' => e = .returned (.int .i64 10) ∧ w = w' := by
  have k1 := h.c1
  have k2 := h.c2
  have k3 := h.c3
  have k4 := h.c4
  have k5 := h.c5
  have k6 := h.c6
  have k7 := h.c7
  have k8 := h.c8
  have k9 := h.c9
  have k10 := h.c10
  have q1 := h.diff (i := 10) (j := 1) (by decide) (by decide) (by decide)
  have q2 := h.diff (i := 10) (j := 2) (by decide) (by decide) (by decide)
  have q3 := h.diff (i := 10) (j := 3) (by decide) (by decide) (by decide)
  have q4 := h.diff (i := 10) (j := 4) (by decide) (by decide) (by decide)
  have q5 := h.diff (i := 10) (j := 5) (by decide) (by decide) (by decide)
  have q6 := h.diff (i := 10) (j := 6) (by decide) (by decide) (by decide)
  have q7 := h.diff (i := 10) (j := 7) (by decide) (by decide) (by decide)
  have q8 := h.diff (i := 10) (j := 8) (by decide) (by decide) (by decide)
  have q9 := h.diff (i := 10) (j := 9) (by decide) (by decide) (by decide)
  have q10 := err_same (EA 10) w
  unfold errV at *
  clear h
  go_enter Tryd.func33, Tryd.ntmps33
  go_wp2
  go_ret
  exact ⟨rfl, rfl⟩
set_option maxRecDepth 100000 in
set_option maxHeartbeats 1000000 in
theorem num_Short (w : World) (EA : Nat → Addr) (h : Sent w EA) : Calls Tryd.prog 33 #[errV EA 1] w fun e w' => e = .returned (.int .i64 1) ∧ w = w' := by
  have k1 := h.c1
  have q1 := err_same (EA 1) w
  unfold errV at *
  clear h
  go_enter Tryd.func33, Tryd.ntmps33
  go_wp2
  go_ret
  exact ⟨rfl, rfl⟩
set_option maxRecDepth 100000 in
set_option maxHeartbeats 1000000 in
theorem num_Varint (w : World) (EA : Nat → Addr) (h : Sent w EA) : Calls Tryd.prog 33 #[errV EA 2] w fun e w' => e = .returned (.int .i64 2) ∧ w = w' := by
  have k1 := h.c1
  have k2 := h.c2
  have q1 := h.diff (i := 2) (j := 1) (by decide) (by decide) (by decide)
  have q2 := err_same (EA 2) w
  unfold errV at *
  clear h
  go_enter Tryd.func33, Tryd.ntmps33
  go_wp2
  go_ret
  exact ⟨rfl, rfl⟩
set_option maxRecDepth 100000 in
set_option maxHeartbeats 1000000 in
theorem num_Tail (w : World) (EA : Nat → Addr) (h : Sent w EA) : Calls Tryd.prog 33 #[errV EA 5] w fun e w' => e = .returned (.int .i64 5) ∧ w = w' := by
  have k1 := h.c1
  have k2 := h.c2
  have k3 := h.c3
  have k4 := h.c4
  have k5 := h.c5
  have q1 := h.diff (i := 5) (j := 1) (by decide) (by decide) (by decide)
  have q2 := h.diff (i := 5) (j := 2) (by decide) (by decide) (by decide)
  have q3 := h.diff (i := 5) (j := 3) (by decide) (by decide) (by decide)
  have q4 := h.diff (i := 5) (j := 4) (by decide) (by decide) (by decide)
  have q5 := err_same (EA 5) w
  unfold errV at *
  clear h
  go_enter Tryd.func33, Tryd.ntmps33
  go_wp2
  go_ret
  exact ⟨rfl, rfl⟩
end Go.Proofs.YtejmjjgbbojfbaaDoor

/- The machine of a word and edits: what it computes, and the walks of its methods. -/
namespace Go.Proofs.YtejmjjgbbojfbaaDoor
set_option linter.unusedVariables false
open Go.ChangeShapes Go.WideShapes Go.ChangeAt Go.RowKit

def natB (l : List Nat) : List UInt8 := l.map UInt8.ofNat
theorem natB_length (l : List Nat) : (natB l).length = l.length := by simp [natB]
def strN (l : List Nat) : ByteArray := strOf (natB l)
def natsOf (d : ByteArray) : List Nat := d.data.toList.map UInt8.toNat
theorem natsOf_strN {l : List Nat} (h : ∀ x ∈ l, x < 256) : natsOf (strN l) = l := by
  unfold natsOf strN strOf natB
  rw [List.toList_toArray, List.map_map]
  conv => rhs; rw [← List.map_id l]
  exact List.map_congr_left fun x hx => by have := h x hx; simp; omega
/-- The row's value i behind one more letter. -/
def fz (w : List UInt8) (m : Nat) (D : List Nat) (b : UInt8) : Nat → Nat
  | 0 => min (D.getD 0 0 + 1) (m + 1)
  | i + 1 => min (min (D.getD i 0 + if w.getD i 0 = b then 0 else 1) (D.getD (i + 1) 0 + 1)) (min (fz w m D b i + 1) (m + 1))
theorem fz_le (w : List UInt8) (m : Nat) (D : List Nat) (b : UInt8) (i : Nat) : fz w m D b i ≤ m + 1 := by
  cases i <;> (rw [fz]; omega)
def startF (w : List UInt8) (m : Nat) : List Nat := (List.range (w.length + 1)).map fun i => min i (m + 1)
def stepF (w : List UInt8) (m : Nat) (D : List Nat) (b : UInt8) : List Nat := (List.range (w.length + 1)).map (fz w m D b)
def fuzzM (w : List UInt8) (m : Nat) : Mach where
  start := strN (startF w m)
  step d b := if (stepF w m (natsOf d) b).any (fun x => decide (x ≤ m)) then strN (stepF w m (natsOf d) b) else ⟨#[]⟩
  acc d := decide ((natsOf d).getD w.length 0 ≤ m)
def setN (s : List Nat) : List Value := bytesV (natB s)
theorem setN_length (s : List Nat) : (setN s).length = s.length := by simp [setN, bytesV, natB]
theorem setN_get {s : List Nat} {i : Nat} (h : i < s.length) (hb : ∀ x ∈ s, x < 256) : (setN s)[i]? = some (.int .u8 (s.getD i 0 : Nat)) := by
  unfold setN bytesV natB
  rw [List.map_map, List.getElem?_map, List.getElem?_eq_getElem h, List.getD_eq_getElem?_getD, List.getElem?_eq_getElem h]
  have := hb s[i] (List.getElem_mem h)
  simp; omega
theorem setN_set (s : List Nat) (i x : Nat) (h : x < 256) : (setN s).set i (.int .u8 (x : Nat)) = setN (s.set i x) := by
  unfold setN bytesV natB
  rw [List.map_map, List.map_map, List.map_set]
  congr 1
  simp; omega
theorem madeN (n : Nat) : madeCells #[.int .u8 0] n = (setN (List.replicate n 0)).toArray := by
  refine Array.ext (by rw [size_madeCells]; simp [setN_length]) fun i h1 h2 => ?_
  simp [madeCells, setN, bytesV, natB, Nat.mod_one]
/-- The row when the values up to i are there. -/
def rowI (f : Nat → Nat) (n i : Nat) : List Nat := (List.range n).map fun j => if j < i then f j else 0
theorem rowI_length (f : Nat → Nat) (n i : Nat) : (rowI f n i).length = n := by simp [rowI]
theorem rowI_zero (f : Nat → Nat) (n : Nat) : rowI f n 0 = List.replicate n 0 := by
  unfold rowI
  apply List.ext_getElem (by simp)
  intro i h1 h2; simp
theorem rowI_set (f : Nat → Nat) (n i : Nat) (h : i < n) : (rowI f n i).set i (f i) = rowI f n (i + 1) := by
  unfold rowI
  apply List.ext_getElem (by simp)
  intro j h1 h2
  rw [List.getElem_set]
  by_cases e : i = j
  · subst e; simp
  · rw [if_neg e]
    simp only [List.getElem_map, List.getElem_range]
    by_cases h3 : j < i
    · rw [if_pos h3, if_pos (by omega)]
    · rw [if_neg h3, if_neg (by omega)]
theorem rowI_all (f : Nat → Nat) (n : Nat) : rowI f n n = (List.range n).map f := by
  unfold rowI
  exact List.map_congr_left fun j hj => by rw [if_pos (List.mem_range.1 hj)]
theorem rowI_lt {f : Nat → Nat} {n i m : Nat} (hf : ∀ j, f j ≤ m) (hm : m < 256) : ∀ x ∈ rowI f n i, x < 256 := fun x hx => by
  obtain ⟨j, _, rfl⟩ := List.mem_map.1 hx
  have := hf j
  split <;> omega
theorem rowI_get (f : Nat → Nat) (n i j : Nat) (h : j < n) : (rowI f n i).getD j 0 = if j < i then f j else 0 := by
  unfold rowI
  rw [List.getD_eq_getElem?_getD, List.getElem?_map, List.getElem?_range h]; rfl

set_option maxRecDepth 100000 in
set_option maxHeartbeats 1000000 in
theorem fstart_any (w : World) (s : ByteArray) (m : Nat) (hs : s.size ≤ 1000000000) (hm : m ≤ 2) :
    Calls Tryd.prog 112 #[.agg #[.string s, .int .u8 (m : Nat)]] w fun e w' => e = .returned (.string (strN (startF s.data.toList m))) ∧ Below w.heap.size w w' := by
  have hsl : s.size = s.data.toList.length := (Array.length_toList (xs := s.data)).symm
  obtain ⟨N, hN⟩ : ∃ N, N = s.size + 1 := ⟨_, rfl⟩
  have HN := Lib.hid hN
  have HSL := Lib.hid hsl
  have q1 : (s.size : Int) + 1 = (N : Int) := by omega
  have q2 : (N : Int) ≤ 1000000001 := by omega
  have q3 : N ≤ 1000000000000 := by omega
  clear hN hsl
  obtain ⟨ob, hob⟩ : ∃ ob, ob = Obj.cells #[.string s, .int .u8 (m : Nat)] 79 := ⟨_, rfl⟩
  obtain ⟨om, hom⟩ : ∃ om, om = Obj.cells (madeCells #[.int .u8 0] N) 5 := ⟨_, rfl⟩
  have hb1 : Below w.heap.size w ((w.alloc ob).alloc om) := ((Below.refl _ _).alloc (Nat.le_refl _) _).alloc (by simp) _
  have hs1 : (w.alloc ob).heap.size = w.heap.size + 1 := by simp
  have hs2 : ((w.alloc ob).alloc om).heap.size = w.heap.size + 2 := by simp
  have ho : Own ((w.alloc ob).alloc om) (w.heap.size + 1) 5 (.slice (some ⟨w.heap.size + 1, 0, none⟩) N N) (setN (rowI (fun i => min i (m + 1)) N 0)) := by
    have h := own_lit (w.alloc ob) (w.heap.size + 1) 5 (setN (List.replicate N 0)) (by rw [hs1]; exact Nat.le_refl _) (by rw [setN_length]; simp [maxLen]; omega)
    rw [← madeN, ← hom, hs1, setN_length, List.length_replicate] at h
    rw [rowI_zero]; exact h
  have hbx : ((w.alloc ob).alloc om).heap[w.heap.size]? = some (.cells #[.string s, .int .u8 (m : Nat)] 79) := by
    have h := (Below.heap_alloc (w.alloc ob) om w.heap.size (by rw [hs1]; omega)).trans (heap_alloc_new w ob)
    exact h.trans (congrArg some hob)
  obtain ⟨w1, hw1⟩ : ∃ w1, w1 = (w.alloc ob).alloc om := ⟨_, rfl⟩
  rw [← hw1] at hb1 hs2 ho hbx
  have HOB := Lib.hid hob
  have HOM := Lib.hid hom
  have HB1 := Lib.hid hb1
  have HO := Lib.hid ho
  have HBX := Lib.hid hbx
  have HW1 := Lib.hid hw1
  have HS2 := Lib.hid hs2
  have hmk := fun (w : World) => make_row elBytes rfl N q3 (N : Int) rfl w
  clear hb1 ho hbx hs1 hs2
  go_enter Tryd.func112, Tryd.ntmps112
  go_wp2
  rw [← HOB.out, ← HOM.out, ← HW1.out]
  go_loopw [12] (fun s12 wr => ∃ i : Nat, s12 = .int .i64 i ∧ i ≤ N ∧ Own wr (w.heap.size + 1) 5 (.slice (some ⟨w.heap.size + 1, 0, none⟩) N N) (setN (rowI (fun i => min i (m + 1)) N i)) ∧ Eff (· = w.heap.size + 1) w1 wr) (fun s12 _ => N - (intOf s12).toNat)
  case atStart => exact ⟨0, rfl, Nat.zero_le _, HO.out, Eff.refl _ _⟩
  case round =>
    clear HO
    obtain ⟨i, rfl, hi, hown, heff⟩ := hrel
    by_cases hlt : i < N
    · have hbxi : wr.heap[w.heap.size]? = some (.cells #[.string s, .int .u8 (m : Nat)] 79) := (heff.block _ (by rw [HS2.out]; omega) (fun h => by have h : w.heap.size = w.heap.size + 1 := h; omega)).trans HBX.out
      have c1 : wr.cell? ⟨w.heap.size, 1, none⟩ = some (.int .u8 (m : Nat)) := blk_cell hbxi 1
      have hlt256 : ∀ x ∈ rowI (fun i => min i (m + 1)) N i, x < 256 := rowI_lt (m := m + 1) (fun j => Nat.min_le_right _ _) (by omega)
      have hget := hown.get (setN_get (by rw [rowI_length]; exact hlt) hlt256)
      have hfz := hown.frozen i
      have hset := hown.set i (.int .u8 ((min i (m + 1) : Nat) : Int))
      rw [setN_set _ _ _ (by omega), show (rowI (fun i => min i (m + 1)) N i).set i (min i (m + 1)) = rowI (fun i => min i (m + 1)) N (i + 1) from rowI_set (fun i => min i (m + 1)) N i hlt] at hset
      have heff2 := heff.setCell (p := ⟨w.heap.size + 1, i, none⟩) (fun _ => rfl) (.int .u8 ((min i (m + 1) : Nat) : Int))
      have hcast : ((min i (m + 1) : Nat) : Int) = min (i : Int) ((m : Int) + 1) := by omega
      rw [hcast] at hset heff2
      have HSET := Lib.hid hset
      have HE2 := Lib.hid heff2
      clear hown heff hbxi hlt256 hset heff2 hcast
      go_wp2
      go_roundw
      case rel => exact ⟨i + 1, by go_num, by omega, HSET.out, HE2.out⟩
      case measure => simp [intOf]; omega
    · obtain rfl : i = N := by omega
      rw [rowI_all] at hown
      have r4 := run_str (P := Tryd.prog) Tryd.underlying26 Tryd.underlying5 Tryd.underlying9 hown.rd
      have hb2 := HB1.out.trans (heff.below (B := w.heap.size) (fun k hk => by subst hk; omega) (by rw [HS2.out]; omega))
      have HB2 := Lib.hid hb2
      have hfin : (List.range i).map (fun j => min j (m + 1)) = startF s.data.toList m := by unfold startF; rw [← HSL.out, ← HN.out]
      have HF := Lib.hid hfin
      clear hown heff hb2 hfin
      go_wp2
      go_ret
      exact ⟨by rw [← HF.out]; rfl, HB2.out⟩
theorem strN_ix {d : ByteArray} {D : List Nat} (hd : d = strN D) (hb : ∀ x ∈ D, x < 256) (i : Nat) (h : i < d.size) : ((d[i]'h).toNat : Int) = (D.getD i 0 : Nat) := by
  have e : d.data.toList = natB D := by rw [hd]; unfold strN strOf; rw [List.toList_toArray]
  have hs : d.size = D.length := by rw [hd, strN, strOf_size, natB_length]
  have e2 : d[i]'h = d.data.toList[i]'(by rw [e, natB_length]; omega) := rfl
  have e3 : (d.data.toList)[i]? = some (UInt8.ofNat (D.getD i 0)) := by
    rw [e]; unfold natB; rw [List.getElem?_map, List.getElem?_eq_getElem (by omega), List.getD_eq_getElem?_getD, List.getElem?_eq_getElem (by omega)]; rfl
  obtain ⟨_, e6⟩ := List.getElem?_eq_some_iff.1 e3
  have h256 : D.getD i 0 < 256 := by
    rw [List.getD_eq_getElem?_getD, List.getElem?_eq_getElem (by omega)]
    exact hb _ (List.getElem_mem _)
  rw [e2, e6, u8_ofNat]
  omega
set_option maxRecDepth 100000 in
theorem facc_any (w : World) (s : ByteArray) (m : Nat) (hs : s.size ≤ 1000000000) (hm : m ≤ 2) (d : ByteArray) (D : List Nat) (hd : d = strN D) (hD : D.length = s.size + 1) (hb : ∀ x ∈ D, x ≤ m + 1) :
    Calls Tryd.prog 111 #[.agg #[.string s, .int .u8 (m : Nat)], .string d] w fun e w' => e = .returned (.bool (decide (D.getD s.size 0 ≤ m))) ∧ Below w.heap.size w w' := by
  have hsz : d.size = s.size + 1 := by rw [hd, strN, strOf_size, natB_length, hD]
  have hlt : s.size < d.size := by omega
  have hix := strN_ix hd (fun x hx => by have := hb x hx; omega) s.size hlt
  obtain ⟨v, hv⟩ : ∃ v, D.getD s.size 0 = v := ⟨_, rfl⟩
  rw [hv] at hix ⊢
  have HB := Lib.hid (fun o => (Below.refl w.heap.size w).alloc (Nat.le_refl _) o)
  clear hd hD hsz hv hb
  by_cases hvm : v ≤ m
  · go_enter Tryd.func111, Tryd.ntmps111
    go_wp2
    go_quiet (fail)
    go_wp2
    go_ret
    exact ⟨by rw [decide_eq_true hvm]; rfl, below_drewN (HB.out _) _⟩
  · go_enter Tryd.func111, Tryd.ntmps111
    go_wp2
    go_quiet (fail)
    go_wp2
    go_ret
    exact ⟨by rw [decide_eq_false hvm]; rfl, below_drewN (HB.out _) _⟩
end Go.Proofs.YtejmjjgbbojfbaaDoor
