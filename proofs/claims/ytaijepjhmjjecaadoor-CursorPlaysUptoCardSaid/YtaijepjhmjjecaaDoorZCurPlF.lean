/- CursorPlays: the walk (printed by wip/gen_plays.py). -/
import Derived.Test.YtaijepjhmjjecaaDoorZG24
import Derived.Test.YtaijepjhmjjecaaDoorZStep
import Derived.Test.YtaijepjhmjjecaaDoorZG23
namespace Go.Proofs.YtaijepjhmjjecaaDoor
set_option linter.unusedVariables false
open Go.ChangeShapes Go.WideShapes Go.ChangeAt Go.RowKit

set_option maxRecDepth 100000 in
theorem step_any (w0 w : World) (base q R : Nat) (lp : Value) (ps : List PostV) (IM : List UInt8) (a : Option Addr) (c u mv : Nat) (told asked : Bool) (h : StC w0 w base q R lp ps IM a ps.length c u mv told asked) (hr : RdPost w0 a ps.length ps) (hT : totalV ps ≤ 20000000) (hmv : mv ≤ 900000000000000) (kind which N : Int) (EA : Nat → Addr) (hS : Sent6 w0 EA) :
    Calls Tryd.prog 28 #[.pointer (some ⟨q, 0, none⟩), .pointer (some ⟨R, 0, none⟩), .agg #[.int .i64 kind, .int .i64 which, .int .i64 N]] w (StepP w0 w base q R lp ps IM a ps.length c mv) := by
  by_cases g1 : kind = 1
  · subst g1; exact step1 w0 w base q R lp ps IM a c u mv told asked h hr hT hmv which N EA hS
  by_cases g2 : kind = 2
  · subst g2; exact step2 w0 w base q R lp ps IM a c u mv told asked h hr hT hmv which N EA hS
  by_cases g3 : kind = 3
  · subst g3; exact step3 w0 w base q R lp ps IM a c u mv told asked h hr hT hmv which N EA hS
  by_cases g4 : kind = 4
  · subst g4; exact step4 w0 w base q R lp ps IM a c u mv told asked h hr hT hmv which N EA hS
  by_cases g5 : kind = 5
  · subst g5; exact step5 w0 w base q R lp ps IM a c u mv told asked h hr hT hmv which N EA hS
  by_cases g6 : kind = 6
  · subst g6; exact step6 w0 w base q R lp ps IM a c u mv told asked h hr hT hmv which N EA hS
  by_cases g7 : kind = 7
  · subst g7; exact step7 w0 w base q R lp ps IM a c u mv told asked h hr hT hmv which N EA hS
  exact step0 w0 w base q R lp ps IM a c u mv told asked h hr hT hmv kind (beq_false_of_ne g1) (beq_false_of_ne g2) (beq_false_of_ne g3) (beq_false_of_ne g4) (beq_false_of_ne g5) (beq_false_of_ne g6) (beq_false_of_ne g7) which N EA hS
/-- A pair of cursors somewhere, its moves bounded. -/
def PrS (w W : World) (base q R : Nat) (lp : Value) (ps : List PostV) (IM : List UInt8) (a : Option Addr) (c m : Nat) : Prop := ∃ u mv told asked, StC w W base q R lp ps IM a ps.length c u mv told asked ∧ mv ≤ m * 200000000
theorem PrS.below {w W W' : World} {base q R : Nat} {lp : Value} {ps : List PostV} {IM : List UInt8} {a : Option Addr} {c m : Nat} (h : PrS w W base q R lp ps IM a c m) (hb : Below W.heap.size W W') : PrS w W' base q R lp ps IM a c m := by
  obtain ⟨u, mv, told, asked, h1, h2⟩ := h
  exact ⟨u, mv, told, asked, h1.below hb, h2⟩
set_option maxRecDepth 100000 in
theorem PrS.up {w W : World} {base q R : Nat} {lp : Value} {ps : List PostV} {IM : List UInt8} {a : Option Addr} {c m : Nat} (h : PrS w W base q R lp ps IM a c m) : PrS w W base q R lp ps IM a c (m + 1) := by
  obtain ⟨u, mv, told, asked, h1, h2⟩ := h
  exact ⟨u, mv, told, asked, h1, by rw [Nat.succ_mul]; exact Nat.le_add_right_of_le h2⟩
theorem PrS.other {w W W' : World} {base q R q2 R2 : Nat} {lp : Value} {ps : List PostV} {IM : List UInt8} {a : Option Addr} {c m : Nat} (h : PrS w W base q R lp ps IM a c m) (e : Eff (fun k => k = q2 ∨ k = R2) W W') (hF : CurF W (fun k => k = q2 ∨ k = R2)) (h1 : q ≠ q2) (h2 : R ≠ R2) (h3 : q ≠ R2) (h4 : R ≠ q2)
    (h5 : w.heap.size ≤ q2) (h6 : w.heap.size ≤ R2) : PrS w W' base q R lp ps IM a c m := by
  obtain ⟨u, mv, told, asked, h7, h8⟩ := h
  exact ⟨u, mv, told, asked, h7.other e hF h1 h2 h3 h4 h5 h6, h8⟩
/-- The three pairs. -/
structure PlS (w W : World) (b1 q1 R1 b2 q2 R2 b3 q3 R3 : Nat) (l1 l2 : Value) (ps : List PostV) (IM : List UInt8) (a : Option Addr) (c m : Nat) : Prop where
  p1 : PrS w W b1 q1 R1 l1 ps IM a c m
  p2 : PrS w W b2 q2 R2 l2 ps IM a c m
  p3 : PrS w W b3 q3 R3 (.pointer none) [] [] none 0 m
  n1 : q1 ≠ q2 ∧ q1 ≠ q3 ∧ q2 ≠ q3 ∧ R1 ≠ R2 ∧ R1 ≠ R3 ∧ R2 ≠ R3
  n2 : q1 ≠ R2 ∧ q1 ≠ R3 ∧ q2 ≠ R1 ∧ q2 ≠ R3 ∧ q3 ≠ R1 ∧ q3 ≠ R2
theorem PlS.below {w W W' : World} {b1 q1 R1 b2 q2 R2 b3 q3 R3 : Nat} {l1 l2 : Value} {ps : List PostV} {IM : List UInt8} {a : Option Addr} {c m : Nat} (h : PlS w W b1 q1 R1 b2 q2 R2 b3 q3 R3 l1 l2 ps IM a c m) (hb : Below W.heap.size W W') : PlS w W' b1 q1 R1 b2 q2 R2 b3 q3 R3 l1 l2 ps IM a c m :=
  ⟨h.p1.below hb, h.p2.below hb, h.p3.below hb, h.n1, h.n2⟩
theorem PlS.bel {w W : World} {b1 q1 R1 b2 q2 R2 b3 q3 R3 : Nat} {l1 l2 : Value} {ps : List PostV} {IM : List UInt8} {a : Option Addr} {c m : Nat} (h : PlS w W b1 q1 R1 b2 q2 R2 b3 q3 R3 l1 l2 ps IM a c m) : Below w.heap.size w W := by
  obtain ⟨_, _, _, _, h1, _⟩ := h.p1
  exact h1.bel
/-- What is known of a step of one pair. -/
theorem PrS.step {w W : World} {base q R : Nat} {lp : Value} {ps : List PostV} {IM : List UInt8} {a : Option Addr} {c m : Nat} (h : PrS w W base q R lp ps IM a c m) (hr : RdPost w a ps.length ps) (hT : totalV ps ≤ 20000000) (hm : m ≤ 1048576) (kind which N : Int) (EA : Nat → Addr) (hS : Sent6 w EA) :
    Calls Tryd.prog 28 #[.pointer (some ⟨q, 0, none⟩), .pointer (some ⟨R, 0, none⟩), .agg #[.int .i64 kind, .int .i64 which, .int .i64 N]] W fun e W' => e = .returned (.bool true) ∧ PrS w W' base q R lp ps IM a c (m + 1) ∧ Eff (fun k => k = q ∨ k = R) W W' ∧ CurF W (fun k => k = q ∨ k = R) ∧ w.heap.size ≤ q ∧ w.heap.size ≤ R := by
  obtain ⟨u, mv, told, asked, h1, h2⟩ := h
  refine (step_any w W base q R lp ps IM a c u mv told asked h1 hr hT (by omega) kind which N EA hS).mono fun e W' hp => ?_
  obtain ⟨u', mv', told', asked', rfl, h3, h4, h5⟩ := hp
  exact ⟨rfl, ⟨u', mv', told', asked', h3, by omega⟩, h5, h1.curF, h1.hq, h1.hR⟩
theorem PlS.step1 {w W : World} {b1 q1 R1 b2 q2 R2 b3 q3 R3 : Nat} {l1 l2 : Value} {ps : List PostV} {IM : List UInt8} {a : Option Addr} {c m : Nat} (h : PlS w W b1 q1 R1 b2 q2 R2 b3 q3 R3 l1 l2 ps IM a c m) (hr : RdPost w a ps.length ps) (hT : totalV ps ≤ 20000000) (hm : m ≤ 1048576) (kind which N : Int) (EA : Nat → Addr) (hS : Sent6 w EA) :
    Calls Tryd.prog 28 #[.pointer (some ⟨q1, 0, none⟩), .pointer (some ⟨R1, 0, none⟩), .agg #[.int .i64 kind, .int .i64 which, .int .i64 N]] W fun e W' => e = .returned (.bool true) ∧ PlS w W' b1 q1 R1 b2 q2 R2 b3 q3 R3 l1 l2 ps IM a c (m + 1) := by
  refine (h.p1.step hr hT hm kind which N EA hS).mono fun e W' hp => ?_
  obtain ⟨rfl, h1, h2, h3, h4, h5⟩ := hp
  obtain ⟨n1, n2, n3, n4, n5, n6⟩ := h.n1
  obtain ⟨m1, m2, m3, m4, m5, m6⟩ := h.n2
  exact ⟨rfl, h1, (h.p2.other h2 h3 (Ne.symm n1) (Ne.symm n4) m3 (Ne.symm m1) h4 h5).up, (h.p3.other h2 h3 (Ne.symm n2) (Ne.symm n5) m5 (Ne.symm m2) h4 h5).up, h.n1, h.n2⟩
theorem PlS.step2 {w W : World} {b1 q1 R1 b2 q2 R2 b3 q3 R3 : Nat} {l1 l2 : Value} {ps : List PostV} {IM : List UInt8} {a : Option Addr} {c m : Nat} (h : PlS w W b1 q1 R1 b2 q2 R2 b3 q3 R3 l1 l2 ps IM a c m) (hr : RdPost w a ps.length ps) (hT : totalV ps ≤ 20000000) (hm : m ≤ 1048576) (kind which N : Int) (EA : Nat → Addr) (hS : Sent6 w EA) :
    Calls Tryd.prog 28 #[.pointer (some ⟨q2, 0, none⟩), .pointer (some ⟨R2, 0, none⟩), .agg #[.int .i64 kind, .int .i64 which, .int .i64 N]] W fun e W' => e = .returned (.bool true) ∧ PlS w W' b1 q1 R1 b2 q2 R2 b3 q3 R3 l1 l2 ps IM a c (m + 1) := by
  refine (h.p2.step hr hT hm kind which N EA hS).mono fun e W' hp => ?_
  obtain ⟨rfl, h1, h2, h3, h4, h5⟩ := hp
  obtain ⟨n1, n2, n3, n4, n5, n6⟩ := h.n1
  obtain ⟨m1, m2, m3, m4, m5, m6⟩ := h.n2
  exact ⟨rfl, (h.p1.other h2 h3 n1 n4 m1 (Ne.symm m3) h4 h5).up, h1, (h.p3.other h2 h3 (Ne.symm n3) (Ne.symm n6) m6 (Ne.symm m4) h4 h5).up, h.n1, h.n2⟩
theorem PlS.step3 {w W : World} {b1 q1 R1 b2 q2 R2 b3 q3 R3 : Nat} {l1 l2 : Value} {ps : List PostV} {IM : List UInt8} {a : Option Addr} {c m : Nat} (h : PlS w W b1 q1 R1 b2 q2 R2 b3 q3 R3 l1 l2 ps IM a c m) (hm : m ≤ 1048576) (kind which N : Int) (EA : Nat → Addr) (hS : Sent6 w EA) :
    Calls Tryd.prog 28 #[.pointer (some ⟨q3, 0, none⟩), .pointer (some ⟨R3, 0, none⟩), .agg #[.int .i64 kind, .int .i64 which, .int .i64 N]] W fun e W' => e = .returned (.bool true) ∧ PlS w W' b1 q1 R1 b2 q2 R2 b3 q3 R3 l1 l2 ps IM a c (m + 1) := by
  refine (h.p3.step ⟨rfl, fun h => by simp at h⟩ (by decide) hm kind which N EA hS).mono fun e W' hp => ?_
  obtain ⟨rfl, h1, h2, h3, h4, h5⟩ := hp
  obtain ⟨n1, n2, n3, n4, n5, n6⟩ := h.n1
  obtain ⟨m1, m2, m3, m4, m5, m6⟩ := h.n2
  exact ⟨rfl, (h.p1.other h2 h3 n2 n5 m2 (Ne.symm m5) h4 h5).up, (h.p2.other h2 h3 n3 n6 m4 (Ne.symm m6) h4 h5).up, h1, h.n1, h.n2⟩
/-- A call of the script. -/
structure Op3 where
  k : Int
  wh : Int
  n : Int
def RdOp3 (w : World) (a : Option Addr) (n : Nat) (os : List Op3) : Prop :=
  n = os.length ∧ ∀ (i : Nat) (h : i < os.length), ∃ b o, a = some ⟨b, o, none⟩ ∧ w.cell? ⟨b, o + i * 3, none⟩ = some (.int .i64 os[i].k) ∧ w.cell? ⟨b, o + i * 3 + 1, none⟩ = some (.int .i64 os[i].wh) ∧ w.cell? ⟨b, o + i * 3 + 2, none⟩ = some (.int .i64 os[i].n)
theorem RdOp3.below {w w' : World} {a : Option Addr} {n B : Nat} {os : List Op3} (h : RdOp3 w a n os) (hb : Below B w w') (hB : w.heap.size ≤ B) : RdOp3 w' a n os := by
  refine ⟨h.1, fun i hi => ?_⟩
  obtain ⟨b, o, e, h1, h2, h3⟩ := h.2 i hi
  have hlt := Nat.lt_of_lt_of_le (World.block_lt_of_cell? w _ h1) hB
  exact ⟨b, o, e, by rw [hb.cell hlt]; exact h1, by rw [hb.cell (Nat.lt_of_lt_of_le (World.block_lt_of_cell? w _ h2) hB)]; exact h2, by rw [hb.cell (Nat.lt_of_lt_of_le (World.block_lt_of_cell? w _ h3) hB)]; exact h3⟩
theorem ropen_any2 (w : World) (a : Option Addr) (n c : Nat) :
    Calls Tryd.prog 27 #[.slice a n c] w fun e w' => e = .returned (.agg #[.slice a n c, .int .i64 (-1), .int .i64 0, .bool false]) ∧ Below w.heap.size w w' :=
  (ropen_any w a n c).mono fun e w' h => ⟨h.1, h.2⟩
/-- Three blocks for the document's cursors. -/
theorem rc_three (w : World) (s : Nat) (hs : w.heap.size = s) (a : Option Addr) (n c : Nat) (X : World) (hX : ((w.alloc (.cells #[.slice a n c, .int .i64 (-1), .int .i64 0, .bool false] 57)).alloc (.cells #[.slice a n c, .int .i64 (-1), .int .i64 0, .bool false] 57)).alloc (.cells #[.slice none 0 0, .int .i64 (-1), .int .i64 0, .bool false] 57) = X) :
    RcB X s a n c (-1) 0 false ∧ RcB X (s + 1) a n c (-1) 0 false ∧ RcB X (s + 2) none 0 0 (-1) 0 false ∧ Below s w X ∧ X.heap.size = s + 3 := by
  subst hs
  obtain ⟨o1, ho1⟩ : ∃ o, o = Obj.cells #[.slice a n c, .int .i64 (-1), .int .i64 0, .bool false] 57 := ⟨_, rfl⟩
  obtain ⟨o3, ho3⟩ : ∃ o, o = Obj.cells #[.slice none 0 0, .int .i64 (-1), .int .i64 0, .bool false] 57 := ⟨_, rfl⟩
  rw [← ho1, ← ho3] at hX
  have z1 : (w.alloc o1).heap.size = w.heap.size + 1 := by simp
  have z2 : ((w.alloc o1).alloc o1).heap.size = w.heap.size + 2 := by simp
  have z3 : (((w.alloc o1).alloc o1).alloc o3).heap.size = w.heap.size + 3 := by simp
  have h1 := heap_alloc_new w o1
  have h2 := heap_alloc_new (w.alloc o1) o1
  have h3 := heap_alloc_new ((w.alloc o1).alloc o1) o3
  rw [z1] at h2
  rw [z2] at h3
  have b1 := (Below.refl w.heap.size w).alloc (Nat.le_refl _) o1
  have b2 := (Below.refl (w.heap.size + 1) (w.alloc o1)).alloc (by omega) o1
  have b3 := (Below.refl (w.heap.size + 2) ((w.alloc o1).alloc o1)).alloc (by omega) o3
  have g1 := (b3.block _ (by omega)).trans ((b2.block _ (by omega)).trans h1)
  have g2 := (b3.block _ (by omega)).trans h2
  have g4 := (b1.trans (b2.mono (by omega))).trans (b3.mono (by omega))
  rw [hX] at g1 g2 g4 z3 h3
  rw [ho1] at g1 g2
  rw [ho3] at h3
  exact ⟨⟨g1⟩, ⟨g2⟩, ⟨h3⟩, g4, z3⟩
set_option maxRecDepth 100000 in
set_option maxHeartbeats 16000000 in
theorem cursorPlays_walk (w : World) (a : Option Addr) (n c : Nat) (ps : List PostV) (hr : RdPost w a n ps) (hnc : n ≤ c) (hf : FitP ps) (hl : ps.length ≤ 1048576) (hT : totalV ps ≤ 1048576)
    (a2 : Option Addr) (n2 c2 : Nat) (os : List Op3) (hro : RdOp3 w a2 n2 os) (hol : os.length ≤ 1048576) (EA : Nat → Addr) (hS : Sent6 w EA) :
    Calls Tryd.prog 7 #[.slice a n c, .slice a2 n2 c2] w fun e w' => e = .returned (.bool true) ∧ Below w.heap.size w w' := by
  have C1 := fixed_any w EA hS
  obtain rfl := hr.1
  obtain rfl := hro.1
  have HS := Lib.hid hS
  have HR := Lib.hid hr
  have HRO := Lib.hid hro
  have HF := Lib.hid hf
  have HNC := Lib.hid hnc
  have C2 := fun (W : World) (hb : Below w.heap.size w W) => renc_any W a ps.length c ps (hr.below hb (Nat.le_refl _)) hnc hf hl (by omega) EA (hS.below hb)
  have HC2 := Lib.hid C2
  clear hS hr hro hf hnc C2
  go_enter Tryd.func7, Tryd.ntmps7
  go_wp2_with fail
  with_reducible refine C1.mono ?_
  rintro e w1 ⟨rfl, hb1⟩
  have HB1 := Lib.hid hb1
  clear C1 hb1
  go_wp2_with fail
  with_reducible refine (HC2.out _ HB1.out).mono ?_
  rintro e w2 ⟨h1, h2⟩
  by_cases ok : okV (-1) ps
  · obtain ⟨A2, N2, K2, rfl, ho2, hb2⟩ := h1 ok
    have HB2 := Lib.hid (HB1.out.trans (hb2.mono HB1.out.size))
    have him := image_le HF.out ok (by omega) (by omega)
    have hrd := ho2.rd
    have C3 := fun (W : World) (hb : Below w2.heap.size w2 W) => copen_ok W A2 N2 K2 ps ok HF.out hl (by omega) him (hrd.below hb (Nat.le_refl _)) EA (HS.out.below (HB2.out.trans (hb.mono HB2.out.size)))
    have HC3 := Lib.hid C3
    clear h1 h2 ho2 hb2 him hrd C3 HC2 HF HNC HB1 ok
    go_wp2_with fail
    with_reducible refine (HC3.out w2 (Below.refl _ _)).mono ?_
    rintro e w3 ⟨q1, pl1, rfl, hc1, hb3⟩
    have HC1 := Lib.hid hc1
    have HB3 := Lib.hid hb3
    clear hc1 hb3
    go_wp2_with fail
    with_reducible refine (HC3.out w3 HB3.out).mono ?_
    rintro e w4 ⟨q2, pl2, rfl, hc2, hb4⟩
    have HQ := Lib.hid (And.intro (HC1.out.below hb4 (Nat.le_refl _)) hc2)
    have HB4 := Lib.hid (HB3.out.trans (hb4.mono HB3.out.size))
    have hz43 := hb4.size
    have hz32 := HB3.out.size
    have C5 := cempty_any w4 ((HS.out.below (HB2.out.trans (HB4.out.mono HB2.out.size))).low)
    have HC5 := Lib.hid C5
    have hlt1 : q1 < w3.heap.size := by obtain ⟨_, h9⟩ := HC1.out.blk; exact lt_of_heap h9
    clear hc2 hb4 HC3 C5 HB3 HC1
    go_wp2_with fail
    with_reducible refine HC5.out.mono ?_
    rintro e w5 ⟨q3, rfl, hc3, hb5⟩
    obtain ⟨hc1, hc2⟩ := HQ.out
    have hlt2 : q2 < w4.heap.size := by obtain ⟨_, h9⟩ := hc2.blk; exact lt_of_heap h9
    have hge2 : w3.heap.size ≤ q2 := by obtain ⟨_, _, h9⟩ := hc2; exact h9.hq
    have hge1 : w2.heap.size ≤ q1 := by obtain ⟨_, _, h9⟩ := hc1; exact h9.hq
    have hge3 : w4.heap.size ≤ q3 := by obtain ⟨_, _, h9⟩ := hc3; exact h9.hq
    have hlt3 : q3 < w5.heap.size := by obtain ⟨_, h9⟩ := hc3.blk; exact lt_of_heap h9
    have HCC := Lib.hid (And.intro (hc1.below hb5 (Nat.le_refl _)) (And.intro (hc2.below hb5 (Nat.le_refl _)) hc3))
    have HB5 := Lib.hid (HB2.out.trans ((HB4.out.trans (hb5.mono (Nat.le_trans hz32 hz43))).mono HB2.out.size))
    have hz54 := hb5.size
    have hzw2 := HB2.out.size
    clear hc1 hc2 hc3 hb5 HC5 HQ HB4 HB2
    go_upto_region 11 with fail
    have C6 := fun (W : World) => ropen_any2 W a ps.length c
    have C7 := fun (W : World) => ropen_any2 W none 0 0
    have HC6 := Lib.hid C6
    have HC7 := Lib.hid C7
    clear C6 C7
    go_wp2_with fail
    with_reducible refine (HC6.out _).mono ?_
    rintro e w6 ⟨rfl, hb6⟩
    go_wp2_with fail
    with_reducible refine (HC6.out _).mono ?_
    rintro e w7 ⟨rfl, hb7⟩
    go_wp2_with fail
    with_reducible refine (HC7.out _).mono ?_
    rintro e w8 ⟨rfl, hb8⟩
    obtain ⟨s, hs⟩ : ∃ s, w8.heap.size = s := ⟨_, rfl⟩
    have hb58 : Below w5.heap.size w5 w8 := (hb6.trans (hb7.mono hb6.size)).trans (hb8.mono (Nat.le_trans hb6.size hb7.size))
    have hs5 : w5.heap.size ≤ s := by rw [← hs]; exact hb58.size
    have HS5 := Lib.hid hs5
    have HB58 := Lib.hid hb58
    clear hb6 hb7 hb8 HC6 HC7 hb58 hs5
    go_upto_region 12 with fail
    obtain ⟨wA, hwA⟩ : ∃ wA, ((w8.alloc (.cells #[.slice a ps.length c, .int .i64 (-1), .int .i64 0, .bool false] 57)).alloc (.cells #[.slice a ps.length c, .int .i64 (-1), .int .i64 0, .bool false] 57)).alloc (.cells #[.slice none 0 0, .int .i64 (-1), .int .i64 0, .bool false] 57) = wA := ⟨_, rfl⟩
    obtain ⟨k1, k2, k3, k4, k5⟩ := rc_three w8 s hs a ps.length c wA hwA
    rw [hwA]
    have hb5A : Below w5.heap.size w5 wA := HB58.out.trans (k4.mono HS5.out)
    obtain ⟨hc1, hc2, hc3⟩ := HCC.out
    have hbA := HB5.out.trans (hb5A.mono HB5.out.size)
    have hs5 := HS5.out
    have st1 : StC w wA w2.heap.size q1 s (.pointer (some ⟨pl1, 0, none⟩)) ps (imageV ps) a ps.length c 0 0 false false :=
      ⟨hc1.below hb5A (Nat.le_refl _), k1, hbA, hzw2, by omega, by omega, fun _ => rfl⟩
    have st2 : StC w wA w3.heap.size q2 (s + 1) (.pointer (some ⟨pl2, 0, none⟩)) ps (imageV ps) a ps.length c 0 0 false false :=
      ⟨hc2.below hb5A (Nat.le_refl _), k2, hbA, by omega, by omega, by omega, fun _ => rfl⟩
    have st3 : StC w wA w4.heap.size q3 (s + 2) (.pointer none) [] [] none 0 0 0 0 false false :=
      ⟨hc3.below hb5A (Nat.le_refl _), k3, hbA, by omega, by omega, by omega, fun _ => rfl⟩
    have hpl : PlS w wA w2.heap.size q1 s w3.heap.size q2 (s + 1) w4.heap.size q3 (s + 2) (.pointer (some ⟨pl1, 0, none⟩)) (.pointer (some ⟨pl2, 0, none⟩)) ps (imageV ps) a c 0 :=
      ⟨⟨0, 0, false, false, st1, by omega⟩, ⟨0, 0, false, false, st2, by omega⟩, ⟨0, 0, false, false, st3, by omega⟩, by omega, by omega⟩
    obtain ⟨b1, hb1e⟩ : ∃ b, w2.heap.size = b := ⟨_, rfl⟩
    obtain ⟨b2, hb2e⟩ : ∃ b, w3.heap.size = b := ⟨_, rfl⟩
    obtain ⟨b3, hb3e⟩ : ∃ b, w4.heap.size = b := ⟨_, rfl⟩
    obtain ⟨R2, hR2⟩ : ∃ b, s + 1 = b := ⟨_, rfl⟩
    obtain ⟨R3, hR3⟩ : ∃ b, s + 2 = b := ⟨_, rfl⟩
    obtain ⟨IM, hIM⟩ : ∃ b, imageV ps = b := ⟨_, rfl⟩
    rw [hb1e, hb2e, hb3e, hR3, hR2, hIM] at hpl
    rw [hR3, hR2]
    have HP := Lib.hid hpl
    clear k1 k2 k3 k4 k5 hb5A hc1 hc2 hc3 hbA hs5 st1 st2 st3 hpl hb1e hb2e hb3e hR2 hR3 hIM HS5 HB58 hs hwA HCC HB5 hlt1 hlt2 hlt3 hge1 hge2 hge3 hz32 hz43 hz54 hzw2
    go_wp2
    go_loopw [16, 17, 63] (fun s16 s17 s63 wr => ∃ (i : Nat) (t16 t17 : Value), s16 = t16 ∧ s17 = t17 ∧ s63 = .int .i64 i ∧ i ≤ os.length ∧ RowKit.Hid (PlS w wr b1 q1 s b2 q2 R2 b3 q3 R3 (.pointer (some ⟨pl1, 0, none⟩)) (.pointer (some ⟨pl2, 0, none⟩)) ps IM a c i)) (fun _ _ s63 _ => os.length - (intOf s63).toNat)
    case atStart => exact ⟨0, _, _, rfl, rfl, rfl, Nat.zero_le _, HP⟩
    case round =>
      clear HP
      obtain ⟨i, t16, t17, rfl, rfl, rfl, hi, HP⟩ := hrel
      by_cases hlt : i < os.length
      · obtain ⟨b, o, hae, k0, k1, k2⟩ := HRO.out.2 i hlt
        subst hae
        have hbel := HP.out.bel
        have k0 := (hbel.cell (World.block_lt_of_cell? w _ k0)).trans k0
        have k1 := (hbel.cell (World.block_lt_of_cell? w _ k1)).trans k1
        have k2 := (hbel.cell (World.block_lt_of_cell? w _ k2)).trans k2
        obtain ⟨kk, hkk⟩ : ∃ x, os[i].k = x := ⟨_, rfl⟩
        obtain ⟨kw, hkw⟩ : ∃ x, os[i].wh = x := ⟨_, rfl⟩
        obtain ⟨kn, hkn⟩ : ∃ x, os[i].n = x := ⟨_, rfl⟩
        rw [hkk] at k0
        rw [hkw] at k1
        rw [hkn] at k2
        have i1 : (i : Int) < (os.length : Int) := by omega
        have HB := Lib.hid hbel
        clear hkk hkw hkn hbel
        go_upto_region 15 with fail
        have hX := heap_alloc_new wr (.cells #[.int .i64 kk, .int .i64 kw, .int .i64 kn] 60)
        have hp := HP.out.below ((Below.refl wr.heap.size wr).alloc (Nat.le_refl _) (.cells #[.int .i64 kk, .int .i64 kw, .int .i64 kn] 60))
        clear k0 k1 k2 HP HB
        generalize wr.alloc (.cells #[.int .i64 kk, .int .i64 kw, .int .i64 kn] 60) = wX at hX hp ⊢
        generalize wr.heap.size = z at hX ⊢
        have k0 : wX.cell? ⟨z, 0, none⟩ = some (.int .i64 kk) := blk_cell hX 0
        have k1 : wX.cell? ⟨z, 1, none⟩ = some (.int .i64 kw) := blk_cell hX 1
        have k2 : wX.cell? ⟨z, 2, none⟩ = some (.int .i64 kn) := blk_cell hX 2
        have hr9 := HR.out.below hp.bel (Nat.le_refl _)
        have HP := Lib.hid hp
        clear hX hr9 hp
        have s9 : IntKind.u64.wrap kw = kw % 18446744073709551616 := IntKind.wrap_u64 kw
        obtain ⟨X9, hX9⟩ : ∃ X, kw % 18446744073709551616 = X := ⟨_, rfl⟩
        rw [hX9] at s9
        have hx0 : 0 ≤ X9 := by omega
        have hx3 : X9.tmod 3 = 0 ∨ X9.tmod 3 = 1 ∨ X9.tmod 3 = 2 := by rw [Int.tmod_eq_emod_of_nonneg hx0]; omega
        clear hX9 hx0
        rcases hx3 with hx3 | hx3 | hx3
        · have h2 : X9.tmod 3 = 0 := hx3
          have h3 : IntKind.u64.wrap (X9.tmod 3) = 0 := by rw [h2]; rfl
          have C4 := HP.out.step1 HR.out (by omega) (by omega) kk kw kn EA HS.out
          have HC4 := Lib.hid C4
          clear C4 hx3
          go_wp2_with fail
          with_reducible refine HC4.out.mono ?_
          rintro e w9 ⟨rfl, hp9⟩
          have HP9 := Lib.hid hp9
          clear hp9 HC4 HP k0 k1 k2
          go_wp2
          go_roundw
          case rel => exact ⟨i + 1, _, _, rfl, rfl, by go_num, by omega, HP9⟩
          case measure => simp [intOf]; omega
        · have h2 : X9.tmod 3 = 1 := hx3
          have h3 : IntKind.u64.wrap (X9.tmod 3) = 1 := by rw [h2]; rfl
          have C4 := HP.out.step2 HR.out (by omega) (by omega) kk kw kn EA HS.out
          have HC4 := Lib.hid C4
          clear C4 hx3
          go_wp2_with fail
          with_reducible refine HC4.out.mono ?_
          rintro e w9 ⟨rfl, hp9⟩
          have HP9 := Lib.hid hp9
          clear hp9 HC4 HP k0 k1 k2
          go_wp2
          go_roundw
          case rel => exact ⟨i + 1, _, _, rfl, rfl, by go_num, by omega, HP9⟩
          case measure => simp [intOf]; omega
        · have h2 : X9.tmod 3 = 2 := hx3
          have h3 : IntKind.u64.wrap (X9.tmod 3) = 2 := by rw [h2]; rfl
          have C4 := HP.out.step3 (by omega) kk kw kn EA HS.out
          have HC4 := Lib.hid C4
          clear C4 hx3
          go_wp2_with fail
          with_reducible refine HC4.out.mono ?_
          rintro e w9 ⟨rfl, hp9⟩
          have HP9 := Lib.hid hp9
          clear hp9 HC4 HP k0 k1 k2
          go_wp2
          go_roundw
          case rel => exact ⟨i + 1, _, _, rfl, rfl, by go_num, by omega, HP9⟩
          case measure => simp [intOf]; omega
      · obtain rfl : i = os.length := by omega
        have i1 : ¬ ((os.length : Int) < (os.length : Int)) := by omega
        obtain ⟨u1, m1, td1, ad1, st1, -⟩ := HP.out.p1
        obtain ⟨u2, m2, td2, ad2, st2, -⟩ := HP.out.p2
        obtain ⟨u3, m3, td3, ad3, st3, -⟩ := HP.out.p3
        obtain ⟨pl, hpl⟩ : ∃ pl : Int, (u1 : Int) - 1 = pl := ⟨_, rfl⟩
        have hfb := HP.out.bel
        obtain ⟨hl1, -, hl3⟩ := st1.cur.lens
        have hsx : ∀ X, Below wr.heap.size wr X → X.cell? ⟨s, 0, none⟩ = some (.slice a ps.length c) ∧ X.cell? ⟨s, 1, none⟩ = some (.int .i64 pl) ∧ X.cell? ⟨s, 2, none⟩ = some (.int .i64 (m1 : Nat)) ∧ X.cell? ⟨s, 3, none⟩ = some (.bool ad1) ∧ X.cell? ⟨R2, 2, none⟩ = some (.int .i64 (m2 : Nat)) ∧ X.cell? ⟨R3, 2, none⟩ = some (.int .i64 (m3 : Nat)) := fun X hb => by
          have k1 := (st1.below hb).rc
          rw [hpl] at k1
          exact ⟨k1.c0, k1.c1, k1.c2, k1.c3, (st2.below hb).rc.c2, (st3.below hb).rc.c2⟩
        have CM1 := fun (X : World) (hb : Below wr.heap.size wr X) => (show Calls Tryd.prog 29 #[.pointer (some ⟨q1, 0, none⟩)] X (fun e w' => e = .returned (.int .i64 (m1 : Nat)) ∧ Below X.heap.size X w') by
          obtain ⟨bk, rv, hcb⟩ := (st1.below hb).cur
          exact (movB_any X b1 q1 _ _ _ _ u1 m1 td1 bk rv hcb).mono fun e w' h => ⟨h.1, h.2 ▸ Below.refl _ _⟩)
        have CM2 := fun (X : World) (hb : Below wr.heap.size wr X) => (show Calls Tryd.prog 29 #[.pointer (some ⟨q2, 0, none⟩)] X (fun e w' => e = .returned (.int .i64 (m2 : Nat)) ∧ Below X.heap.size X w') by
          obtain ⟨bk, rv, hcb⟩ := (st2.below hb).cur
          exact (movB_any X b2 q2 _ _ _ _ u2 m2 td2 bk rv hcb).mono fun e w' h => ⟨h.1, h.2 ▸ Below.refl _ _⟩)
        have CM3 := fun (X : World) (hb : Below wr.heap.size wr X) => (show Calls Tryd.prog 29 #[.pointer (some ⟨q3, 0, none⟩)] X (fun e w' => e = .returned (.int .i64 (m3 : Nat)) ∧ Below X.heap.size X w') by
          obtain ⟨bk, rv, hcb⟩ := (st3.below hb).cur
          exact (movB_any X b3 q3 _ _ _ _ u3 m3 td3 bk rv hcb).mono fun e w' h => ⟨h.1, h.2 ▸ Below.refl _ _⟩)
        have CB := fun (X : World) (hb : Below wr.heap.size wr X) => (show Calls Tryd.prog 30 #[.pointer (some ⟨q1, 0, none⟩)] X (fun e w' => e = .returned (.int .i64 (docU ps u1)) ∧ Below X.heap.size X w') by
          obtain ⟨bk, rv, hcb⟩ := (st1.below hb).cur
          exact (docB_any X b1 q1 _ _ _ _ u1 m1 td1 bk rv hcb).mono fun e w' h => ⟨h.1, h.2 ▸ Below.refl _ _⟩)
        have CD := fun (X : World) (hb : Below wr.heap.size wr X) => rdoc_any X a ps.length c ps (HR.out.below (hfb.trans (hb.mono hfb.size)) (Nat.le_refl _)) hl1 u1 hl3 pl hpl m1 ad1
        obtain ⟨D, hD⟩ : ∃ D, docU ps u1 = D := ⟨_, rfl⟩
        rw [hD] at CB CD
        have hS0 := hsx wr.drew (Below.refl _ _).drew
        have HSX := Lib.hid hsx
        have HCM1 := Lib.hid CM1
        have HCM2 := Lib.hid CM2
        have HCM3 := Lib.hid CM3
        have HCB := Lib.hid CB
        have HCD := Lib.hid CD
        have HFB := Lib.hid hfb
        clear hlt st1 st2 st3 hpl hsx CM1 CM2 CM3 CB CD hD hfb HP hl1 hl3
        go_upto_region 25 with fail
        refine wp_region_noPanic ?_
        refine wp_region_held_drew (S := fun X => X.cell? ⟨s, 0, none⟩ = some (.slice a ps.length c) ∧ X.cell? ⟨s, 1, none⟩ = some (.int .i64 pl) ∧ X.cell? ⟨s, 2, none⟩ = some (.int .i64 (m1 : Nat)) ∧ X.cell? ⟨s, 3, none⟩ = some (.bool ad1) ∧ X.cell? ⟨R2, 2, none⟩ = some (.int .i64 (m2 : Nat)) ∧ X.cell? ⟨R3, 2, none⟩ = some (.int .i64 (m3 : Nat))) (by kernel_rfl) hS0 (fun hHeld => ?_)
        clear hS0
        refine wpAnyH_take (i := 0) (v := ?_) rfl (by kernel_rfl) (by kernel_rfl) (by kernel_rfl) (fun _ _ _ h => h) (Or.inl ⟨by kernel_rfl, ?_⟩) hHeld ?_
        rotate_left
        · intro w hSw
          obtain ⟨z1, z2, z3, z4, z5, z6⟩ := hSw
          go_simp
          try with_reducible rfl
        refine wpAnyH_take (i := 1) (v := ?_) rfl (by kernel_rfl) (by kernel_rfl) (by kernel_rfl) (fun _ _ _ h => h) (Or.inl ⟨by kernel_rfl, ?_⟩) hHeld ?_
        rotate_left
        · intro w hSw
          obtain ⟨z1, z2, z3, z4, z5, z6⟩ := hSw
          go_simp
          try with_reducible rfl
        refine wpAnyH_take (i := 2) (v := ?_) rfl (by kernel_rfl) (by kernel_rfl) (by kernel_rfl) (fun _ _ _ h => h) (Or.inl ⟨by kernel_rfl, ?_⟩) hHeld ?_
        rotate_left
        · intro w hSw
          obtain ⟨z1, z2, z3, z4, z5, z6⟩ := hSw
          go_simp
          try with_reducible rfl
        refine wpAnyH_take (i := 4) (v := ?_) rfl (by kernel_rfl) (by kernel_rfl) (by kernel_rfl) (fun _ _ _ h => h) (Or.inl ⟨by kernel_rfl, ?_⟩) hHeld ?_
        rotate_left
        · intro w hSw
          obtain ⟨z1, z2, z3, z4, z5, z6⟩ := hSw
          go_simp
          try with_reducible rfl
        refine wpAnyH_take (i := 5) (v := ?_) rfl (by kernel_rfl) (by kernel_rfl) (by kernel_rfl) (fun _ _ _ h => h) (Or.inl ⟨by kernel_rfl, ?_⟩) hHeld ?_
        rotate_left
        · intro w hSw
          obtain ⟨z1, z2, z3, z4, z5, z6⟩ := hSw
          go_simp
          try with_reducible rfl
        have HX := Lib.hid (Below.refl wr.heap.size wr).drew
        generalize World.drew wr = X0 at HX hHeld ⊢
        refine wpAnyH_ready (rs := [3]) (by kernel_rfl) (by simp) ?_
        refine AllReadyH.cons rfl (fun KK hKK => ?_) ?_
        rotate_left
        · exact AllReadyH.nil
        rw [if_pos (by kernel_rfl)]
        go_simp
        go_wp2_with (go_at_call 29; (with_reducible refine (HCM1.out _ HX.out).mono ?_); rintro e wb ⟨rfl, hbb⟩)
        have h9 := HX.out.trans (hbb.mono HX.out.size)
        clear HX hbb
        refine hKK.out _ _ (HSX.out _ h9) (fun hHeld => ?_)
        clear hKK KK
        have HX := Lib.hid h9
        clear h9
        refine wpAnyH_take (i := 6) (v := ?_) rfl (by kernel_rfl) (by kernel_rfl) (by kernel_rfl) (fun _ _ _ h => h) (Or.inl ⟨by kernel_rfl, ?_⟩) hHeld ?_
        rotate_left
        · intro w hSw
          obtain ⟨z1, z2, z3, z4, z5, z6⟩ := hSw
          go_simp
          try with_reducible rfl
        refine wpAnyH_take (i := 7) (v := ?_) rfl (by kernel_rfl) (by kernel_rfl) (by kernel_rfl) (fun _ _ _ h => h) (Or.inl ⟨by kernel_rfl, ?_⟩) hHeld ?_
        rotate_left
        · intro w hSw
          obtain ⟨z1, z2, z3, z4, z5, z6⟩ := hSw
          go_simp
          try with_reducible rfl
        refine wpAnyH_take (i := 8) (v := ?_) rfl (by kernel_rfl) (by kernel_rfl) (by kernel_rfl) (fun _ _ _ h => h) (Or.inl ⟨by kernel_rfl, ?_⟩) hHeld ?_
        rotate_left
        · intro w hSw
          obtain ⟨z1, z2, z3, z4, z5, z6⟩ := hSw
          go_simp
          try with_reducible rfl
        refine wpAnyH_take (i := 9) (v := ?_) rfl (by kernel_rfl) (by kernel_rfl) (by kernel_rfl) (fun _ _ _ h => h) (Or.inl ⟨by kernel_rfl, ?_⟩) hHeld ?_
        rotate_left
        · intro w hSw
          obtain ⟨z1, z2, z3, z4, z5, z6⟩ := hSw
          go_simp
          try with_reducible rfl
        refine wpAnyH_take (i := 10) (v := ?_) rfl (by kernel_rfl) (by kernel_rfl) (by kernel_rfl) (fun _ _ _ h => h) (Or.inl ⟨by kernel_rfl, ?_⟩) hHeld ?_
        rotate_left
        · intro w hSw
          obtain ⟨z1, z2, z3, z4, z5, z6⟩ := hSw
          go_simp
          try with_reducible rfl
        refine wpAnyH_take (i := 12) (v := ?_) rfl (by kernel_rfl) (by kernel_rfl) (by kernel_rfl) (fun _ _ _ h => h) (Or.inl ⟨by kernel_rfl, ?_⟩) hHeld ?_
        rotate_left
        · intro w hSw
          obtain ⟨z1, z2, z3, z4, z5, z6⟩ := hSw
          go_simp
          try with_reducible rfl
        refine wpAnyH_take (i := 13) (v := ?_) rfl (by kernel_rfl) (by kernel_rfl) (by kernel_rfl) (fun _ _ _ h => h) (Or.inl ⟨by kernel_rfl, ?_⟩) hHeld ?_
        rotate_left
        · intro w hSw
          obtain ⟨z1, z2, z3, z4, z5, z6⟩ := hSw
          go_simp
          try with_reducible rfl
        refine wpAnyH_ready (rs := [11]) (by kernel_rfl) (by simp) ?_
        refine AllReadyH.cons rfl (fun KK hKK => ?_) ?_
        rotate_left
        · exact AllReadyH.nil
        rw [if_pos (by kernel_rfl)]
        go_simp
        go_wp2_with (go_at_call 29; (with_reducible refine (HCM2.out _ HX.out).mono ?_); rintro e wb ⟨rfl, hbb⟩)
        have h9 := HX.out.trans (hbb.mono HX.out.size)
        clear HX hbb
        refine hKK.out _ _ (HSX.out _ h9) (fun hHeld => ?_)
        clear hKK KK
        have HX := Lib.hid h9
        clear h9
        refine wpAnyH_take (i := 14) (v := ?_) rfl (by kernel_rfl) (by kernel_rfl) (by kernel_rfl) (fun _ _ _ h => h) (Or.inl ⟨by kernel_rfl, ?_⟩) hHeld ?_
        rotate_left
        · intro w hSw
          obtain ⟨z1, z2, z3, z4, z5, z6⟩ := hSw
          go_simp
          try with_reducible rfl
        refine wpAnyH_take (i := 15) (v := ?_) rfl (by kernel_rfl) (by kernel_rfl) (by kernel_rfl) (fun _ _ _ h => h) (Or.inl ⟨by kernel_rfl, ?_⟩) hHeld ?_
        rotate_left
        · intro w hSw
          obtain ⟨z1, z2, z3, z4, z5, z6⟩ := hSw
          go_simp
          try with_reducible rfl
        refine wpAnyH_take (i := 16) (v := ?_) rfl (by kernel_rfl) (by kernel_rfl) (by kernel_rfl) (fun _ _ _ h => h) (Or.inl ⟨by kernel_rfl, ?_⟩) hHeld ?_
        rotate_left
        · intro w hSw
          obtain ⟨z1, z2, z3, z4, z5, z6⟩ := hSw
          go_simp
          try with_reducible rfl
        refine wpAnyH_take (i := 17) (v := ?_) rfl (by kernel_rfl) (by kernel_rfl) (by kernel_rfl) (fun _ _ _ h => h) (Or.inl ⟨by kernel_rfl, ?_⟩) hHeld ?_
        rotate_left
        · intro w hSw
          obtain ⟨z1, z2, z3, z4, z5, z6⟩ := hSw
          go_simp
          try with_reducible rfl
        refine wpAnyH_take (i := 18) (v := ?_) rfl (by kernel_rfl) (by kernel_rfl) (by kernel_rfl) (fun _ _ _ h => h) (Or.inl ⟨by kernel_rfl, ?_⟩) hHeld ?_
        rotate_left
        · intro w hSw
          obtain ⟨z1, z2, z3, z4, z5, z6⟩ := hSw
          go_simp
          try with_reducible rfl
        refine wpAnyH_take (i := 19) (v := ?_) rfl (by kernel_rfl) (by kernel_rfl) (by kernel_rfl) (fun _ _ _ h => h) (Or.inl ⟨by kernel_rfl, ?_⟩) hHeld ?_
        rotate_left
        · intro w hSw
          obtain ⟨z1, z2, z3, z4, z5, z6⟩ := hSw
          go_simp
          try with_reducible rfl
        refine wpAnyH_take (i := 21) (v := ?_) rfl (by kernel_rfl) (by kernel_rfl) (by kernel_rfl) (fun _ _ _ h => h) (Or.inl ⟨by kernel_rfl, ?_⟩) hHeld ?_
        rotate_left
        · intro w hSw
          obtain ⟨z1, z2, z3, z4, z5, z6⟩ := hSw
          go_simp
          try with_reducible rfl
        refine wpAnyH_take (i := 22) (v := ?_) rfl (by kernel_rfl) (by kernel_rfl) (by kernel_rfl) (fun _ _ _ h => h) (Or.inl ⟨by kernel_rfl, ?_⟩) hHeld ?_
        rotate_left
        · intro w hSw
          obtain ⟨z1, z2, z3, z4, z5, z6⟩ := hSw
          go_simp
          try with_reducible rfl
        refine wpAnyH_ready (rs := [20]) (by kernel_rfl) (by simp) ?_
        refine AllReadyH.cons rfl (fun KK hKK => ?_) ?_
        rotate_left
        · exact AllReadyH.nil
        rw [if_pos (by kernel_rfl)]
        go_simp
        go_wp2_with (go_at_call 29; (with_reducible refine (HCM3.out _ HX.out).mono ?_); rintro e wb ⟨rfl, hbb⟩)
        have h9 := HX.out.trans (hbb.mono HX.out.size)
        clear HX hbb
        refine hKK.out _ _ (HSX.out _ h9) (fun hHeld => ?_)
        clear hKK KK
        have HX := Lib.hid h9
        clear h9
        refine wpAnyH_take (i := 23) (v := ?_) rfl (by kernel_rfl) (by kernel_rfl) (by kernel_rfl) (fun _ _ _ h => h) (Or.inl ⟨by kernel_rfl, ?_⟩) hHeld ?_
        rotate_left
        · intro w hSw
          obtain ⟨z1, z2, z3, z4, z5, z6⟩ := hSw
          go_simp
          try with_reducible rfl
        refine wpAnyH_take (i := 24) (v := ?_) rfl (by kernel_rfl) (by kernel_rfl) (by kernel_rfl) (fun _ _ _ h => h) (Or.inl ⟨by kernel_rfl, ?_⟩) hHeld ?_
        rotate_left
        · intro w hSw
          obtain ⟨z1, z2, z3, z4, z5, z6⟩ := hSw
          go_simp
          try with_reducible rfl
        refine wpAnyH_take (i := 25) (v := ?_) rfl (by kernel_rfl) (by kernel_rfl) (by kernel_rfl) (fun _ _ _ h => h) (Or.inl ⟨by kernel_rfl, ?_⟩) hHeld ?_
        rotate_left
        · intro w hSw
          obtain ⟨z1, z2, z3, z4, z5, z6⟩ := hSw
          go_simp
          try with_reducible rfl
        refine wpAnyH_take (i := 26) (v := ?_) rfl (by kernel_rfl) (by kernel_rfl) (by kernel_rfl) (fun _ _ _ h => h) (Or.inl ⟨by kernel_rfl, ?_⟩) hHeld ?_
        rotate_left
        · intro w hSw
          obtain ⟨z1, z2, z3, z4, z5, z6⟩ := hSw
          go_simp
          try with_reducible rfl
        refine wpAnyH_take (i := 27) (v := ?_) rfl (by kernel_rfl) (by kernel_rfl) (by kernel_rfl) (fun _ _ _ h => h) (Or.inl ⟨by kernel_rfl, ?_⟩) hHeld ?_
        rotate_left
        · intro w hSw
          obtain ⟨z1, z2, z3, z4, z5, z6⟩ := hSw
          go_simp
          try with_reducible rfl
        refine wpAnyH_take (i := 28) (v := ?_) rfl (by kernel_rfl) (by kernel_rfl) (by kernel_rfl) (fun _ _ _ h => h) (Or.inl ⟨by kernel_rfl, ?_⟩) hHeld ?_
        rotate_left
        · intro w hSw
          obtain ⟨z1, z2, z3, z4, z5, z6⟩ := hSw
          go_simp
          try with_reducible rfl
        refine wpAnyH_take (i := 30) (v := ?_) rfl (by kernel_rfl) (by kernel_rfl) (by kernel_rfl) (fun _ _ _ h => h) (Or.inl ⟨by kernel_rfl, ?_⟩) hHeld ?_
        rotate_left
        · intro w hSw
          obtain ⟨z1, z2, z3, z4, z5, z6⟩ := hSw
          go_simp
          try with_reducible rfl
        refine wpAnyH_ready (rs := [29]) (by kernel_rfl) (by simp) ?_
        refine AllReadyH.cons rfl (fun KK hKK => ?_) ?_
        rotate_left
        · exact AllReadyH.nil
        rw [if_pos (by kernel_rfl)]
        go_simp
        go_wp2_with (go_at_call 30; (with_reducible refine (HCB.out _ HX.out).mono ?_); rintro e wb ⟨rfl, hbb⟩)
        have h9 := HX.out.trans (hbb.mono HX.out.size)
        clear HX hbb
        refine hKK.out _ _ (HSX.out _ h9) (fun hHeld => ?_)
        clear hKK KK
        have HX := Lib.hid h9
        clear h9
        refine wpAnyH_ready (rs := [31]) (by kernel_rfl) (by simp) ?_
        refine AllReadyH.cons rfl (fun KK hKK => ?_) ?_
        rotate_left
        · exact AllReadyH.nil
        rw [if_pos (by kernel_rfl)]
        go_simp
        go_wp2_with (go_at_call 31; (with_reducible refine (HCD.out _ HX.out).mono ?_); rintro e wb ⟨rfl, hbb⟩)
        have h9 := HX.out.trans (hbb.mono HX.out.size)
        clear HX hbb
        refine hKK.out _ _ (HSX.out _ h9) (fun hHeld => ?_)
        clear hKK KK
        have HX := Lib.hid h9
        clear h9
        refine wpAnyH_take (i := 32) (v := ?_) rfl (by kernel_rfl) (by kernel_rfl) (by kernel_rfl) (fun _ _ _ h => h) (Or.inl ⟨by kernel_rfl, ?_⟩) hHeld ?_
        rotate_left
        · intro w hSw
          obtain ⟨z1, z2, z3, z4, z5, z6⟩ := hSw
          go_simp
          try with_reducible rfl
        refine wpAnyH_take (i := 33) (v := ?_) rfl (by kernel_rfl) (by kernel_rfl) (by kernel_rfl) (fun _ _ _ h => h) (Or.inl ⟨by kernel_rfl, ?_⟩) hHeld ?_
        rotate_left
        · intro w hSw
          obtain ⟨z1, z2, z3, z4, z5, z6⟩ := hSw
          go_simp
          try with_reducible rfl
        refine wpAnyH_ready (rs := [34]) (by kernel_rfl) (by simp) ?_
        refine AllReadyH.cons rfl (fun KK hKK => ?_) ?_
        rotate_left
        · exact AllReadyH.nil
        rw [if_pos (by kernel_rfl)]
        go_simp
        refine hKK.out _ _ (HSX.out _ HX.out) (fun hHeld => ?_)
        clear hKK KK hHeld
        refine wpAnyH_done (by kernel_rfl) ?_ _
        refine NoPanic.normal ?_
        go_wp2
        go_ret
        exact ⟨by simp, HFB.out.trans (HX.out.mono HFB.out.size)⟩
  · obtain ⟨rfl, hb2⟩ := h2 ok
    have HB2 := Lib.hid (HB1.out.trans (hb2.mono HB1.out.size))
    have hne : checkV (-1) ps ≠ 0 := ok
    have t1 : ((checkV (-1) ps : Int) != 0) = true := by simp; exact hne
    clear h1 h2 hb2 HB1 HC2
    go_wp2
    go_ret
    exact ⟨rfl, HB2.out⟩
end Go.Proofs.YtaijepjhmjjecaaDoor
