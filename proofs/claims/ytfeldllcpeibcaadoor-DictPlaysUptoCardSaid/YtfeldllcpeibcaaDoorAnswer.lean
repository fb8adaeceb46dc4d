/- The law's answer, of every kind. -/
import Derived.Test.YtfeldllcpeibcaaDoorAnsSz
import Derived.Test.YtfeldllcpeibcaaDoorHeads
import Derived.Test.YtfeldllcpeibcaaDoorRef6E
import Derived.Test.YtfeldllcpeibcaaDoorWalked
import Derived.Deep.RegionHeld3
namespace Go.Proofs.YtfeldllcpeibcaaDoor
set_option linter.unusedVariables false
open Go.ChangeShapes Go.WideShapes Go.ChangeAt Go.RowKit

/-- What answer answers. -/
def AnsPost (w : World) (e : Ending) (w' : World) : Prop := e = .returned (.bool true) ∧ Below w.heap.size w w'
set_option maxRecDepth 100000 in
set_option maxHeartbeats 2000000 in
theorem answer_out (w : World) (base q : Nat) (v : Value) (es : List EntV) (hD : DictAt w base q v es) (hel : es.length ≤ 1000000000) (a : Option Addr) (n c : Nat) (hl : RdEnt w a n es) (i : Int) (hi : i < 0 ∨ (es.length : Int) ≤ i) (s : ByteArray) :
    Calls Tryd.prog 18 #[.pointer (some ⟨q, 0, none⟩), .slice a n c, .agg #[.int .i64 1, .int .i64 i, .string s]] w (AnsPost w) := by
  obtain rfl := hl.1
  obtain ⟨W, hW⟩ : ∃ W, W = w.alloc (.cells #[.int .i64 1, .int .i64 i, .string s] 44) := ⟨_, rfl⟩
  have hbW : Below w.heap.size w W := by rw [hW]; exact (Below.refl _ _).alloc (Nat.le_refl _) _
  have C1 := at_out W base q v es (hD.below hbW (Nat.le_refl _)) hel i hi
  have hzW : W.heap.size = w.heap.size + 1 := by rw [hW]; simp
  have hxW : W.heap[w.heap.size]? = some (.cells #[.int .i64 1, .int .i64 i, .string s] 44 (0, 0)) := by rw [hW]; exact heap_alloc_new w _
  have HX := Lib.hid hxW
  clear hxW
  rw [hW] at C1
  have HW := Lib.hid hW
  have HBW := Lib.hid hbW
  have HZ := Lib.hid hzW
  have hgd := guard_ent
  have heq := fun w => eql_ent w noEnt noEnt
  simp only [(entEq_iff noEnt noEnt).2 rfl] at heq
  simp only [noEnt] at heq
  clear hW hbW hzW hD hl
  by_cases h0 : i < 0
  · have t1 : decide (i < 0) = true := decide_eq_true h0
    clear hi
    go_enter Tryd.func18, Tryd.ntmps18
    go_wp2_with fail
    refine C1.mono ?_
    rintro e w1 ⟨rfl, hb1⟩
    clear C1
    rw [← HW.out] at hb1
    have hc0 : w1.cell? ⟨w.heap.size, 1, none⟩ = some (.int .i64 i) := blk_cell ((hb1.block _ (by rw [HZ.out]; omega)).trans HX.out) 1
    have HB1 := Lib.hid (HBW.out.trans (hb1.mono HBW.out.size))
    have hlt : w.heap.size < w1.heap.size := by have := hb1.size; rw [HZ.out] at this; omega
    obtain ⟨W1, hW1⟩ : ∃ W1, W1 = w1.alloc (.cells #[.string ⟨#[]⟩, .int .i64 0, .int .i64 0, .int .i64 0, .int .i64 0] 32) := ⟨_, rfl⟩
    have hx1 : W1.heap[w1.heap.size]? = some (.cells #[.string ⟨#[]⟩, .int .i64 0, .int .i64 0, .int .i64 0, .int .i64 0] 32 (0, 0)) := by rw [hW1]; exact heap_alloc_new w1 _
    have hc1 : W1.cell? ⟨w.heap.size, 1, none⟩ = some (.int .i64 i) := by rw [hW1, World.cell?_of_block (a := ⟨w.heap.size, 1, none⟩) (Below.heap_alloc w1 _ _ hlt)]; exact hc0
    have d0 := blk_cell hx1 0
    have d1 := blk_cell hx1 1
    have d2 := blk_cell hx1 2
    have d3 := blk_cell hx1 3
    have d4 := blk_cell hx1 4
    rw [hW1] at hc1 d0 d1 d2 d3 d4
    clear hb1 hx1 hW1 hc0
    go_wp2
    go_ret
    exact ⟨rfl, HB1.out.alloc HB1.out.size _⟩
  · have t1 : decide (i < 0) = false := decide_eq_false h0
    have t2 : decide ((es.length : Int) ≤ i) = true := decide_eq_true (by omega)
    clear hi
    go_enter Tryd.func18, Tryd.ntmps18
    go_wp2_with fail
    refine C1.mono ?_
    rintro e w1 ⟨rfl, hb1⟩
    clear C1
    rw [← HW.out] at hb1
    have hc0 : w1.cell? ⟨w.heap.size, 1, none⟩ = some (.int .i64 i) := blk_cell ((hb1.block _ (by rw [HZ.out]; omega)).trans HX.out) 1
    have HB1 := Lib.hid (HBW.out.trans (hb1.mono HBW.out.size))
    have hlt : w.heap.size < w1.heap.size := by have := hb1.size; rw [HZ.out] at this; omega
    obtain ⟨W1, hW1⟩ : ∃ W1, W1 = w1.alloc (.cells #[.string ⟨#[]⟩, .int .i64 0, .int .i64 0, .int .i64 0, .int .i64 0] 32) := ⟨_, rfl⟩
    have hx1 : W1.heap[w1.heap.size]? = some (.cells #[.string ⟨#[]⟩, .int .i64 0, .int .i64 0, .int .i64 0, .int .i64 0] 32 (0, 0)) := by rw [hW1]; exact heap_alloc_new w1 _
    have hc1 : W1.cell? ⟨w.heap.size, 1, none⟩ = some (.int .i64 i) := by rw [hW1, World.cell?_of_block (a := ⟨w.heap.size, 1, none⟩) (Below.heap_alloc w1 _ _ hlt)]; exact hc0
    have d0 := blk_cell hx1 0
    have d1 := blk_cell hx1 1
    have d2 := blk_cell hx1 2
    have d3 := blk_cell hx1 3
    have d4 := blk_cell hx1 4
    rw [hW1] at hc1 d0 d1 d2 d3 d4
    clear hb1 hx1 hW1 hc0
    go_wp2
    go_ret
    exact ⟨rfl, HB1.out.alloc HB1.out.size _⟩
set_option maxRecDepth 100000 in
set_option maxHeartbeats 2000000 in
theorem answer_in (w : World) (base q : Nat) (v : Value) (es : List EntV) (hD : DictAt w base q v es) (hel : es.length ≤ 1000000000) (a : Option Addr) (n c : Nat) (hl : RdEnt w a n es) (i : Nat) (hi : i < es.length) (s : ByteArray) :
    Calls Tryd.prog 18 #[.pointer (some ⟨q, 0, none⟩), .slice a n c, .agg #[.int .i64 1, .int .i64 i, .string s]] w (AnsPost w) := by
  obtain rfl := hl.1
  obtain ⟨W, hW⟩ : ∃ W, W = w.alloc (.cells #[.int .i64 1, .int .i64 i, .string s] 44) := ⟨_, rfl⟩
  have hbW : Below w.heap.size w W := by rw [hW]; exact (Below.refl _ _).alloc (Nat.le_refl _) _
  have C1 := at_in W base q v es (hD.below hbW (Nat.le_refl _)) hel i hi
  have hzW : W.heap.size = w.heap.size + 1 := by rw [hW]; simp
  have hxW : W.heap[w.heap.size]? = some (.cells #[.int .i64 1, .int .i64 i, .string s] 44 (0, 0)) := by rw [hW]; exact heap_alloc_new w _
  have HX := Lib.hid hxW
  clear hxW
  rw [hW] at C1
  have HW := Lib.hid hW
  have HBW := Lib.hid hbW
  have HZ := Lib.hid hzW
  have hgd := guard_ent
  obtain ⟨b, o, rfl, hg⟩ := hl.at_ (by omega)
  have hat := hg i hi
  have hbl : b < w.heap.size := hl.lt b o (by omega) rfl
  obtain ⟨x, hx⟩ : ∃ x, es[i] = x := ⟨_, rfl⟩
  rw [hx] at C1 hat
  obtain ⟨ek, ed, et, ea, ez⟩ := x
  simp only [EntV.cells] at C1
  have heq := fun w => eql_ent w ⟨ek, ed, et, ea, ez⟩ ⟨ek, ed, et, ea, ez⟩
  simp only [(entEq_iff ⟨ek, ed, et, ea, ez⟩ ⟨ek, ed, et, ea, ez⟩).2 rfl] at heq
  have HAT := Lib.hid hat
  have t1 : decide ((i : Int) < 0) = false := decide_eq_false (by omega)
  have t2 : decide (es.length ≤ i) = false := decide_eq_false (by omega)
  have t3 : (i : Int) < (es.length : Int) := by omega
  clear hW hbW hzW hD hl hat hg hx
  go_enter Tryd.func18, Tryd.ntmps18
  go_wp2_with fail
  refine C1.mono ?_
  rintro e w1 ⟨rfl, hb1⟩
  clear C1
  rw [← HW.out] at hb1
  have HB1 := Lib.hid (HBW.out.trans (hb1.mono HBW.out.size))
  have hlt : w.heap.size < w1.heap.size := by have := hb1.size; rw [HZ.out] at this; omega
  obtain ⟨W1, hW1⟩ : ∃ W1, W1 = w1.alloc (.cells #[.string ek, .int .i64 ed, .int .i64 et, .int .i64 ea, .int .i64 ez] 32) := ⟨_, rfl⟩
  have hb2 : Below w.heap.size w W1 := by rw [hW1]; exact HB1.out.alloc HB1.out.size _
  have hc1 : W1.cell? ⟨w.heap.size, 1, none⟩ = some (.int .i64 i) := by rw [hW1, World.cell?_of_block (a := ⟨w.heap.size, 1, none⟩) (Below.heap_alloc w1 _ _ hlt)]; exact blk_cell ((hb1.block _ (by rw [HZ.out]; omega)).trans HX.out) 1
  have hx1 : W1.heap[w1.heap.size]? = some (.cells #[.string ek, .int .i64 ed, .int .i64 et, .int .i64 ea, .int .i64 ez] 32 (0, 0)) := by rw [hW1]; exact heap_alloc_new w1 _
  have d0 := blk_cell hx1 0
  have d1 := blk_cell hx1 1
  have d2 := blk_cell hx1 2
  have d3 := blk_cell hx1 3
  have d4 := blk_cell hx1 4
  have keep : ∀ (j : Nat) (u : Value), w.cell? ⟨b, j, none⟩ = some u → W1.cell? ⟨b, j, none⟩ = some u := fun j u h => by rw [hb2.cell (p := ⟨b, j, none⟩) hbl]; exact h
  have k0 := keep _ _ HAT.out.k
  have k1 := keep _ _ HAT.out.d
  have k2 := keep _ _ HAT.out.t
  have k3 := keep _ _ HAT.out.a
  have k4 := keep _ _ HAT.out.s
  have HB2 := Lib.hid hb2
  have HW1 := Lib.hid hW1
  rw [hW1] at hc1 d0 d1 d2 d3 d4 k0 k1 k2 k3 k4
  clear hb1 hx1 hW1 hb2 keep
  go_upto_region 6 with fail
  go_quiet (fail)
  go_wp2
  go_ret
  rw [← HW1.out]
  exact ⟨rfl, below_drewN HB2.out _⟩
set_option maxRecDepth 100000 in
set_option maxHeartbeats 2000000 in
theorem answer_find (w : World) (base q : Nat) (v : Value) (es : List EntV) (hD : DictAt w base q v es) (hr : rising none es) (hel : es.length ≤ 1000000000) (a : Option Addr) (n c : Nat) (hl : RdEnt w a n es) (i : Int) (s : ByteArray) :
    Calls Tryd.prog 18 #[.pointer (some ⟨q, 0, none⟩), .slice a n c, .agg #[.int .i64 2, .int .i64 i, .string s]] w (AnsPost w) := by
  obtain ⟨W, hW⟩ : ∃ W, W = w.alloc (.cells #[.int .i64 2, .int .i64 i, .string s] 44) := ⟨_, rfl⟩
  have hbW : Below w.heap.size w W := by rw [hW]; exact (Below.refl _ _).alloc (Nat.le_refl _) _
  have hzW : W.heap.size = w.heap.size + 1 := by rw [hW]; simp
  have C1 := find_any W base q v es (hD.below hbW (Nat.le_refl _)) hr hel s
  have hxW : W.heap[w.heap.size]? = some (.cells #[.int .i64 2, .int .i64 i, .string s] 44 (0, 0)) := by rw [hW]; exact heap_alloc_new w _
  have HX := Lib.hid hxW
  clear hxW
  have HC := Lib.hid (fun (w1 : World) (hb : Below W.heap.size W w1) => rfind_any w1 a n c es ((hl.below hbW (Nat.le_refl _)).below hb (Nat.le_refl _)) hr hel s)
  obtain ⟨⟨x, y⟩, hF⟩ : ∃ p, findP es s.data.toList = p := ⟨_, rfl⟩
  rw [hF] at C1 HC
  rw [hW] at C1
  have HW := Lib.hid hW
  have HBW := Lib.hid hbW
  have HZ := Lib.hid hzW
  clear hW hbW hzW hD hl hr hF
  go_enter Tryd.func18, Tryd.ntmps18
  go_wp2_with fail
  refine C1.mono ?_
  rintro e w1 ⟨rfl, hb1⟩
  clear C1
  rw [← HW.out] at hb1
  have C2 := HC.out w1 hb1
  have hc1 : w1.cell? ⟨w.heap.size, 2, none⟩ = some (.string s) := blk_cell ((hb1.block _ (by rw [HZ.out]; omega)).trans HX.out) 2
  have HB1 := Lib.hid (HBW.out.trans (hb1.mono HBW.out.size))
  clear hb1 HC
  go_wp2_with fail
  refine C2.mono ?_
  rintro e w2 ⟨rfl, rfl⟩
  clear C2
  go_wp2
  go_ret
  exact ⟨by cases y <;> rfl, HB1.out⟩
set_option maxRecDepth 100000 in
set_option maxHeartbeats 2000000 in
theorem answer_heads (w : World) (base q : Nat) (v : Value) (es : List EntV) (hD : DictAt w base q v es) (hr : rising none es) (hel : es.length ≤ 1000000000) (a : Option Addr) (n c : Nat) (hl : RdEnt w a n es) (i : Int) (s : ByteArray) :
    Calls Tryd.prog 18 #[.pointer (some ⟨q, 0, none⟩), .slice a n c, .agg #[.int .i64 4, .int .i64 i, .string s]] w (AnsPost w) := by
  obtain ⟨W, hW⟩ : ∃ W, W = w.alloc (.cells #[.int .i64 4, .int .i64 i, .string s] 44) := ⟨_, rfl⟩
  have hbW : Below w.heap.size w W := by rw [hW]; exact (Below.refl _ _).alloc (Nat.le_refl _) _
  have hzW : W.heap.size = w.heap.size + 1 := by rw [hW]; simp
  have C1 := heads_any W base q v es (hD.below hbW (Nat.le_refl _)) hr hel s
  have hxW : W.heap[w.heap.size]? = some (.cells #[.int .i64 4, .int .i64 i, .string s] 44 (0, 0)) := by rw [hW]; exact heap_alloc_new w _
  have HX := Lib.hid hxW
  clear hxW
  have HC := Lib.hid (fun (w1 : World) (hb : Below W.heap.size W w1) => rheads_any w1 a n c es ((hl.below hbW (Nat.le_refl _)).below hb (Nat.le_refl _)) hr hel s)
  obtain ⟨x, hx⟩ : ∃ p, seekP es s.data.toList = p := ⟨_, rfl⟩
  rw [hx] at C1 HC
  obtain ⟨y, hy⟩ : ∃ p, x + headsN es s.data.toList = p := ⟨_, rfl⟩
  rw [hy] at C1 HC
  rw [hW] at C1
  have HW := Lib.hid hW
  have HBW := Lib.hid hbW
  have HZ := Lib.hid hzW
  clear hW hbW hzW hD hl hr hx hy
  go_enter Tryd.func18, Tryd.ntmps18
  go_wp2_with fail
  refine C1.mono ?_
  rintro e w1 ⟨rfl, hb1⟩
  clear C1
  rw [← HW.out] at hb1
  have C2 := HC.out w1 hb1
  have hc1 : w1.cell? ⟨w.heap.size, 2, none⟩ = some (.string s) := blk_cell ((hb1.block _ (by rw [HZ.out]; omega)).trans HX.out) 2
  have HB1 := Lib.hid (HBW.out.trans (hb1.mono HBW.out.size))
  clear hb1 HC
  go_wp2_with fail
  refine C2.mono ?_
  rintro e w2 ⟨rfl, rfl⟩
  clear C2
  go_wp2
  go_ret
  exact ⟨rfl, HB1.out⟩
set_option maxRecDepth 100000 in
set_option maxHeartbeats 2000000 in
theorem answer_walk (w : World) (base q : Nat) (v : Value) (es : List EntV) (hD : DictAt w base q v es) (hel : es.length ≤ 1000000000) (a : Option Addr) (n c : Nat) (hl : RdEnt w a n es) (i : Int) (hi : i ≤ 9223372036854775807) (s : ByteArray) :
    Calls Tryd.prog 18 #[.pointer (some ⟨q, 0, none⟩), .slice a n c, .agg #[.int .i64 5, .int .i64 i, .string s]] w (AnsPost w) := by
  obtain ⟨W, hW⟩ : ∃ W, W = w.alloc (.cells #[.int .i64 5, .int .i64 i, .string s] 44) := ⟨_, rfl⟩
  have hbW : Below w.heap.size w W := by rw [hW]; exact (Below.refl _ _).alloc (Nat.le_refl _) _
  have C1 := walked_any W base q v es (hD.below hbW (Nat.le_refl _)) a n c (hl.below hbW (Nat.le_refl _)) hel i hi
  rw [hW] at C1
  have HW := Lib.hid hW
  have HBW := Lib.hid hbW
  clear hW hbW hD hl
  go_enter Tryd.func18, Tryd.ntmps18
  go_wp2_with fail
  refine C1.mono ?_
  rintro e w1 ⟨rfl, hb1⟩
  clear C1
  rw [← HW.out] at hb1
  have HB1 := Lib.hid (HBW.out.trans (hb1.mono HBW.out.size))
  clear hb1
  go_wp2
  go_ret
  exact ⟨rfl, HB1.out⟩
set_option maxRecDepth 100000 in
set_option maxHeartbeats 2000000 in
theorem answer_else (w : World) (q : Nat) (a : Option Addr) (n c : Nat) (k : Int) (hk : ¬ (1 ≤ k ∧ k ≤ 6)) (i : Int) (s : ByteArray) :
    Calls Tryd.prog 18 #[.pointer (some ⟨q, 0, none⟩), .slice a n c, .agg #[.int .i64 k, .int .i64 i, .string s]] w (AnsPost w) := by
  have k1 : (k == 1) = false := by rw [beq_eq_false_iff_ne]; omega
  have k2 : (k == 2) = false := by rw [beq_eq_false_iff_ne]; omega
  have k3 : (k == 3) = false := by rw [beq_eq_false_iff_ne]; omega
  have k4 : (k == 4) = false := by rw [beq_eq_false_iff_ne]; omega
  have k5 : (k == 5) = false := by rw [beq_eq_false_iff_ne]; omega
  have k6 : (k == 6) = false := by rw [beq_eq_false_iff_ne]; omega
  have HB := Lib.hid (fun o : Obj => (Below.refl w.heap.size w).alloc (Nat.le_refl _) o)
  clear hk
  go_enter Tryd.func18, Tryd.ntmps18
  go_wp2
  go_ret
  exact ⟨rfl, HB.out _⟩
end Go.Proofs.YtfeldllcpeibcaaDoor
