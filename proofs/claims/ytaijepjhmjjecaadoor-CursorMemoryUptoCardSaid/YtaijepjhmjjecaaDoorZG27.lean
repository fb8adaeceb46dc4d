/- Merged: StepS, CurOpF. -/
import Derived.Test.YtaijepjhmjjecaaDoorZDocC3
import Derived.Test.YtaijepjhmjjecaaDoorZG21
import Derived.Test.YtaijepjhmjjecaaDoorZG25
import Derived.Test.YtaijepjhmjjecaaDoorZG25
import Derived.Test.YtaijepjhmjjecaaDoorZG22
import Derived.Test.YtaijepjhmjjecaaDoorZDDec
import Derived.Test.YtaijepjhmjjecaaDoorZG7
import Derived.Deep.RegionHeld3
/- cursor: a cursor beside the document's: the state of the law's step. -/
namespace Go.Proofs.YtaijepjhmjjecaaDoor
set_option linter.unusedVariables false
open Go.ChangeShapes Go.WideShapes Go.ChangeAt Go.RowKit

/-- The blocks that change are cursors. -/
def CurF (w : World) (F : Nat → Prop) : Prop := ∀ k, F k → ∃ cs T fr, w.heap[k]? = some (.cells cs T fr) ∧ (T = 67 ∨ T = 57)
theorem ListAt.effT {F : Nat → Prop} {w w' : World} {base p : Nat} {im sv : Value} {b : List UInt8} {n t : Nat} {SS : List SkV} (h : ListAt w base p im sv b n t SS) (e : Eff F w w') (hF : CurF w F) :
    ListAt w' base p im sv b n t SS :=
  ⟨(e.block p (lt_of_heap h.blk) (fun f => by
      obtain ⟨cs, T, fr, hq, hT⟩ := hF p f
      have := heap_type h.blk hq
      rcases hT with rfl | rfl <;> exact absurd this (by decide))).trans h.blk, h.hp,
    h.img.eff e (fun k hk f => by
      obtain ⟨cs, T, fr, hq, hT⟩ := hF k f
      rcases hT with rfl | rfl
      · exact h.img.ne_type hq (by decide) hk
      · exact h.img.ne_type hq (by decide) hk),
    h.sk.eff e (fun k hk f => by
      obtain ⟨cs, T, fr, hq, hT⟩ := hF k f
      rcases hT with rfl | rfl
      · exact h.sk.ne_type hq (by decide) hk
      · exact h.sk.ne_type hq (by decide) hk)⟩
theorem RowP.effT {F : Nat → Prop} {w w' : World} {base : Nat} {v : Value} {ps : List PostV} {vs : Nat → Value} (h : RowP w base v ps vs) (e : Eff F w w') (hF : CurF w F) : RowP w' base v ps vs :=
  h.eff e (fun b hb f => by
    obtain ⟨cs, T, fr, hq, hT⟩ := hF b f
    rcases hb with hb | ⟨k, hk, hb⟩
    · rcases hT with rfl | rfl
      · exact row_ne_type h.row hq (by decide) hb
      · exact row_ne_type h.row hq (by decide) hb
    · rcases hT with rfl | rfl
      · exact (h.own k hk).ne_type hq (by decide) hb
      · exact (h.own k hk).ne_type hq (by decide) hb)
theorem CurAt.effT {F : Nat → Prop} {w w' : World} {base q : Nat} {lp : Value} {ps : List PostV} {IM : List UInt8} {u mv : Nat} {told : Bool} (h : CurAt w base q lp ps IM u mv told) (e : Eff F w w') (hF : CurF w F) (hq : ¬ F q) : CurAt w' base q lp ps IM u mv told := by
  obtain ⟨bk, rv, h⟩ := h
  refine ⟨bk, rv, (e.block q (lt_of_heap h.blk) hq).trans h.blk, h.hq, h.lo, h.hu, ?_, ?_, h.sl⟩
  · rcases h.ls with h9 | ⟨p, im, sa, sc, h1, h2, h3⟩
    · exact .inl h9
    · exact .inr ⟨p, im, sa, sc, h1, h2.effT e hF, h3⟩
  · rcases h.rd with h9 | ⟨k, vs, h1, h2, h3⟩
    · exact .inl h9
    · exact .inr ⟨k, vs, h1, h2, h3.effT e hF⟩
theorem CurAt.blk {w : World} {base q : Nat} {lp : Value} {ps : List PostV} {IM : List UInt8} {u mv : Nat} {told : Bool} (h : CurAt w base q lp ps IM u mv told) : ∃ cs, w.heap[q]? = some (.cells cs 67 (0, 0)) := by
  obtain ⟨bk, rv, h⟩ := h
  exact ⟨_, h.blk⟩
/-- A cursor and the document's, side by side. -/
structure StC (w0 w : World) (base q R : Nat) (lp : Value) (ps : List PostV) (IM : List UInt8) (a : Option Addr) (n c u mv : Nat) (told asked : Bool) : Prop where
  cur : CurAt w base q lp ps IM u mv told
  rc : RcB w R a n c ((u : Int) - 1) mv asked
  bel : Below w0.heap.size w0 w
  hb : w0.heap.size ≤ base
  hR : w0.heap.size ≤ R
  bz : base ≤ w.heap.size
  rel : posU ps u ≠ [] → told = asked
theorem StC.hq {w0 w : World} {base q R : Nat} {lp : Value} {ps : List PostV} {IM : List UInt8} {a : Option Addr} {n c u mv : Nat} {told asked : Bool} (h : StC w0 w base q R lp ps IM a n c u mv told asked) : w0.heap.size ≤ q := by
  obtain ⟨_, _, h1⟩ := h.cur
  exact Nat.le_trans h.hb h1.hq
theorem StC.lt {w0 w : World} {base q R : Nat} {lp : Value} {ps : List PostV} {IM : List UInt8} {a : Option Addr} {n c u mv : Nat} {told asked : Bool} (h : StC w0 w base q R lp ps IM a n c u mv told asked) : q < w.heap.size ∧ R < w.heap.size ∧ q ≠ R := by
  obtain ⟨_, _, h1⟩ := h.cur
  refine ⟨lt_of_heap h1.blk, lt_of_heap h.rc.blk, fun e => ?_⟩
  subst e
  exact absurd (heap_type h1.blk h.rc.blk) (by decide)
theorem StC.below {w0 w w' : World} {base q R : Nat} {lp : Value} {ps : List PostV} {IM : List UInt8} {a : Option Addr} {n c u mv : Nat} {told asked : Bool} (h : StC w0 w base q R lp ps IM a n c u mv told asked) (hb : Below w.heap.size w w') : StC w0 w' base q R lp ps IM a n c u mv told asked :=
  ⟨h.cur.below hb (Nat.le_refl _), h.rc.below hb h.lt.2.1, h.bel.trans (hb.mono h.bel.size), h.hb, h.hR, Nat.le_trans h.bz hb.size, h.rel⟩
/-- The program's cursor has moved: behind the document's. -/
theorem StC.curF {w0 w : World} {base q R : Nat} {lp : Value} {ps : List PostV} {IM : List UInt8} {a : Option Addr} {n c u mv : Nat} {told asked : Bool} (h : StC w0 w base q R lp ps IM a n c u mv told asked) : CurF w (fun k => k = q ∨ k = R) := by
  obtain ⟨cs, h1⟩ := h.cur.blk
  rintro k (rfl | rfl)
  · exact ⟨cs, _, _, h1, .inl rfl⟩
  · exact ⟨_, _, _, h.rc.blk, .inr rfl⟩
/-- Another pair stays. -/
theorem StC.other {w0 w w' : World} {base q R q2 R2 : Nat} {lp : Value} {ps : List PostV} {IM : List UInt8} {a : Option Addr} {n c u mv : Nat} {told asked : Bool} (h : StC w0 w base q R lp ps IM a n c u mv told asked) (e : Eff (fun k => k = q2 ∨ k = R2) w w') (hF : CurF w (fun k => k = q2 ∨ k = R2)) (h1 : q ≠ q2) (h2 : R ≠ R2) (h3 : q ≠ R2) (h4 : R ≠ q2)
    (h5 : w0.heap.size ≤ q2) (h6 : w0.heap.size ≤ R2) : StC w0 w' base q R lp ps IM a n c u mv told asked :=
  ⟨h.cur.effT e hF (by rintro (h | h); exact h1 h; exact h3 h), ⟨(e.block R h.lt.2.1 (by rintro (h | h); exact h4 h; exact h2 h)).trans h.rc.blk⟩,
    h.bel.trans ⟨e.os, e.tape, e.output, e.size, fun k hk => e.block k (Nat.lt_of_lt_of_le hk h.bel.size) (by rintro (h | h) <;> omega)⟩, h.hb, h.hR, Nat.le_trans h.bz e.size, h.rel⟩
theorem eff_or {w w' : World} {q R : Nat} (e : Eff (· = q) w w') : Eff (fun k => k = q ∨ k = R) w w' := ⟨e.os, e.tape, e.output, e.size, fun k hk hn => e.block k hk (fun h => hn (.inl h))⟩
theorem eff_or2 {w w' : World} {q R : Nat} (e : Eff (· = R) w w') : Eff (fun k => k = q ∨ k = R) w w' := ⟨e.os, e.tape, e.output, e.size, fun k hk hn => e.block k hk (fun h => hn (.inr h))⟩
theorem eff_of_below {F : Nat → Prop} {w w' : World} (hb : Below w.heap.size w w') : Eff F w w' := Eff.of_below hb F
theorem eff_tr {F : Nat → Prop} {w w1 w2 : World} (e1 : Eff F w w1) (e2 : Eff F w1 w2) : Eff F w w2 := e1.trans e2 (fun i hi _ => hi)
/-- What a step leaves. -/
def StepP (w0 w : World) (base q R : Nat) (lp : Value) (ps : List PostV) (IM : List UInt8) (a : Option Addr) (n c mv : Nat) (e : Ending) (w' : World) : Prop :=
  ∃ u' mv' told' asked', e = .returned (.bool true) ∧ StC w0 w' base q R lp ps IM a n c u' mv' told' asked' ∧ mv' ≤ mv + 200000000 ∧ Eff (fun k => k = q ∨ k = R) w w'
/-- The cells of the step's call. -/
structure OpB (w : World) (z : Nat) (kind which N : Int) : Prop where
  blk : w.heap[z]? = some (.cells #[.int .i64 kind, .int .i64 which, .int .i64 N] 60 (0, 0))
theorem OpB.c0 {w : World} {z : Nat} {kind which N : Int} (h : OpB w z kind which N) : w.cell? ⟨z, 0, none⟩ = some (.int .i64 kind) := blk_cell h.blk 0
theorem OpB.c2 {w : World} {z : Nat} {kind which N : Int} (h : OpB w z kind which N) : w.cell? ⟨z, 2, none⟩ = some (.int .i64 N) := blk_cell h.blk 2
/-- A step's world: the box of its call laid; the program's cursor at u, the document's at U. -/
structure TS (w0 w X : World) (z base q R : Nat) (lp : Value) (ps : List PostV) (IM : List UInt8) (a : Option Addr) (n c u mv : Nat) (told : Bool) (U MV : Nat) (AD : Bool) (kind which N : Int) : Prop where
  cur : CurAt X base q lp ps IM u mv told
  rc : RcB X R a n c ((U : Int) - 1) MV AD
  op : OpB X z kind which N
  bel : Below w0.heap.size w0 X
  eff : Eff (fun k => k = q ∨ k = R) w X
  sz : w.heap.size ≤ z
  sq : q < w.heap.size ∧ R < w.heap.size ∧ q ≠ R
  bz : base ≤ X.heap.size
  hb : w0.heap.size ≤ base
  hR : w0.heap.size ≤ R
theorem StC.ts {w0 w : World} {base q R : Nat} {lp : Value} {ps : List PostV} {IM : List UInt8} {a : Option Addr} {n c u mv : Nat} {told asked : Bool} (h : StC w0 w base q R lp ps IM a n c u mv told asked) (kind which N : Int) :
    TS w0 w (w.alloc (.cells #[.int .i64 kind, .int .i64 which, .int .i64 N] 60)) w.heap.size base q R lp ps IM a n c u mv told u mv asked kind which N := by
  have hb := (Below.refl w.heap.size w).alloc (Nat.le_refl _) (.cells #[.int .i64 kind, .int .i64 which, .int .i64 N] 60)
  have h1 := h.below hb
  exact ⟨h1.cur, h1.rc, ⟨heap_alloc_new w _⟩, h1.bel, eff_of_below hb, Nat.le_refl _, h.lt, h1.bz, h.hb, h.hR⟩
theorem TS.st {w0 w X : World} {z base q R : Nat} {lp : Value} {ps : List PostV} {IM : List UInt8} {a : Option Addr} {n c u mv : Nat} {told AD : Bool} {kind which N : Int} (h : TS w0 w X z base q R lp ps IM a n c u mv told u mv AD kind which N) (hr : posU ps u ≠ [] → told = AD) : StC w0 X base q R lp ps IM a n c u mv told AD :=
  ⟨h.cur, h.rc, h.bel, h.hb, h.hR, h.bz, hr⟩
theorem TS.below {w0 w X X' : World} {z base q R : Nat} {lp : Value} {ps : List PostV} {IM : List UInt8} {a : Option Addr} {n c u mv U MV : Nat} {told AD : Bool} {kind which N : Int} (h : TS w0 w X z base q R lp ps IM a n c u mv told U MV AD kind which N) (hb : Below X.heap.size X X') : TS w0 w X' z base q R lp ps IM a n c u mv told U MV AD kind which N :=
  ⟨h.cur.below hb (Nat.le_refl _), h.rc.below hb (lt_of_heap h.rc.blk), ⟨(hb.block z (lt_of_heap h.op.blk)).trans h.op.blk⟩, h.bel.trans (hb.mono h.bel.size), eff_tr h.eff (eff_of_below hb), h.sz, h.sq, Nat.le_trans h.bz hb.size, h.hb, h.hR⟩
/-- The program's cursor has moved. -/
theorem TS.moved {w0 w X X' : World} {z base q R : Nat} {lp : Value} {ps : List PostV} {IM : List UInt8} {a : Option Addr} {n c u mv U MV u' mv' : Nat} {told told' AD : Bool} {kind which N : Int} (h : TS w0 w X z base q R lp ps IM a n c u mv told U MV AD kind which N) (e : Eff (· = q) X X') (hc : CurAt X' base q lp ps IM u' mv' told') : TS w0 w X' z base q R lp ps IM a n c u' mv' told' U MV AD kind which N :=
  ⟨hc, ⟨(e.block R (lt_of_heap h.rc.blk) (by have := h.sq; omega)).trans h.rc.blk⟩, ⟨(e.block z (lt_of_heap h.op.blk) (by have := h.sq; have := h.sz; omega)).trans h.op.blk⟩,
    h.bel.trans (eff_below e (by obtain ⟨_, _, h1⟩ := h.cur; exact Nat.le_trans h.hb h1.hq) h.bel.size), eff_tr h.eff (eff_or e), h.sz, h.sq, Nat.le_trans h.bz e.size, h.hb, h.hR⟩
/-- The document's has been laid anew. -/
theorem TS.put {w0 w X : World} {z base q R : Nat} {lp : Value} {ps : List PostV} {IM : List UInt8} {a : Option Addr} {n c u mv U MV U' MV' : Nat} {told AD AD' : Bool} {kind which N : Int} (h : TS w0 w X z base q R lp ps IM a n c u mv told U MV AD kind which N) {pl : Int} (hpl : (U' : Int) - 1 = pl) :
    TS w0 w ((((X.setCell ⟨R, 0, none⟩ (.slice a n c)).setCell ⟨R, 1, none⟩ (.int .i64 pl)).setCell ⟨R, 2, none⟩ (.int .i64 (MV' : Nat))).setCell ⟨R, 3, none⟩ (.bool AD')) z base q R lp ps IM a n c u mv told U' MV' AD' kind which N := by
  have e := rc_eff (w := X) (z := R) (.slice a n c) (.int .i64 pl) (.int .i64 (MV' : Nat)) (.bool AD')
  subst hpl
  exact ⟨h.cur.effT e (by rintro k rfl; exact ⟨_, _, _, h.rc.blk, .inr rfl⟩) h.sq.2.2, rc_store h.rc, ⟨(e.block z (lt_of_heap h.op.blk) (by have := h.sz; have := h.sq; omega)).trans h.op.blk⟩, h.bel.trans (eff_below e h.hR (h.bel.size)), eff_tr h.eff (eff_or2 e), h.sz, h.sq, Nat.le_trans h.bz e.size, h.hb, h.hR⟩
theorem posU_le {ps : List PostV} {n : Nat} (h : ∀ p ∈ ps, p.pos.length ≤ n) (u : Nat) : (posU ps u).length ≤ n := by
  unfold posU
  split
  · simp
  · split
    · exact h _ (List.getElem_mem _)
    · simp
theorem CurAt.doc_in {w : World} {base q : Nat} {lp : Value} {ps : List PostV} {IM : List UInt8} {u mv : Nat} {told : Bool} (h : CurAt w base q lp ps IM u mv told) : -1 ≤ docU ps u ∧ docU ps u ≤ 2147483647 := by
  obtain ⟨bk, rv, h⟩ := h
  rcases h.ls with ⟨-, h9⟩ | ⟨_, _, _, _, _, _, hok⟩
  · subst h9
    unfold docU
    split
    · omega
    · simp
  · unfold docU
    split
    · omega
    · split
      · rename_i h1 h2
        have := okV_doc hok.ok _ h2
        omega
      · omega
theorem tmod_in (N : Int) : -1000 < N.tmod 1000 ∧ N.tmod 1000 < 1000 := ⟨Int.lt_tmod_of_pos N (by omega), Int.tmod_lt_of_pos N (by omega)⟩
end Go.Proofs.YtaijepjhmjjecaaDoor

/- CursorOpens: the walk (printed by wip/gen_opens.py). -/
namespace Go.Proofs.YtaijepjhmjjecaaDoor
set_option linter.unusedVariables false
open Go.ChangeShapes Go.WideShapes Go.ChangeAt Go.RowKit

/-- A cursor that goes along its list: at u, the blocks below base as they were. -/
structure GoS (w X : World) (base q : Nat) (lp : Value) (ps : List PostV) (IM : List UInt8) (u m : Nat) : Prop where
  cur : ∃ mv told, CurAt X base q lp ps IM u mv told ∧ mv ≤ m
  bel : Below base w X
  bz : base ≤ w.heap.size
theorem GoS.hq {w X : World} {base q : Nat} {lp : Value} {ps : List PostV} {IM : List UInt8} {u m : Nat} (h : GoS w X base q lp ps IM u m) : base ≤ q ∧ q < X.heap.size := by
  obtain ⟨_, _, ⟨_, _, h1⟩, _⟩ := h.cur
  exact ⟨h1.hq, lt_of_heap h1.blk⟩
theorem GoS.below {w X X' : World} {base q : Nat} {lp : Value} {ps : List PostV} {IM : List UInt8} {u m : Nat} (h : GoS w X base q lp ps IM u m) (hb : Below X.heap.size X X') : GoS w X' base q lp ps IM u m := by
  obtain ⟨mv, told, h1, h2⟩ := h.cur
  exact ⟨⟨mv, told, h1.below hb (Nat.le_refl _), h2⟩, h.bel.trans (hb.mono (Nat.le_trans h.bz h.bel.size)), h.bz⟩
theorem GoS.moved {w X X' : World} {base q : Nat} {lp : Value} {ps : List PostV} {IM : List UInt8} {u m u' mv' m' : Nat} {told' : Bool} (h : GoS w X base q lp ps IM u m) (e : Eff (· = q) X X') (hc : CurAt X' base q lp ps IM u' mv' told') (hm : mv' ≤ m') : GoS w X' base q lp ps IM u' m' :=
  ⟨⟨mv', told', hc, hm⟩, h.bel.trans (eff_below e h.hq.1 (Nat.le_trans h.bz h.bel.size)), h.bz⟩
/-- Next. -/
theorem GoS.next {w X : World} {base q : Nat} {lp : Value} {ps : List PostV} {IM : List UInt8} {u m : Nat} (h : GoS w X base q lp ps IM u m) (hu : u ≤ ps.length) (hm : m ≤ 900000000000000) (EA : Nat → Addr) (hS : Sent6 X EA) :
    Calls Tryd.prog 16 #[.pointer (some ⟨q, 0, none⟩)] X fun e X' => e = .returned (.int .i64 (docU ps (u + 1))) ∧ GoS w X' base q lp ps IM (u + 1) (m + 100000000) ∧ Eff (· = q) X X' := by
  obtain ⟨mv, told, h1, h2⟩ := h.cur
  have hl := h1.lens.1
  have C := next_any X base q lp ps IM u mv told h1 (Nat.le_trans h.bz h.bel.size) (by omega) EA hS
  rw [if_neg (by omega), if_neg (by omega), if_neg (by omega)] at C
  refine C.mono fun e X' hp => ?_
  obtain ⟨rfl, hc, he⟩ := hp
  have := costU_le (Nat.le_refl u) hu
  exact ⟨rfl, h.moved he hc (by omega), he⟩
theorem GoS.freq {w X : World} {base q : Nat} {lp : Value} {ps : List PostV} {IM : List UInt8} {u m : Nat} (h : GoS w X base q lp ps IM u m) (EA : Nat → Addr) (hS : Sent6 X EA) :
    Calls Tryd.prog 17 #[.pointer (some ⟨q, 0, none⟩)] X fun e X' => e = .returned (.int .i64 ((posU ps u).length : Nat)) ∧ GoS w X' base q lp ps IM u m ∧ Eff (· = q) X X' := by
  obtain ⟨mv, told, h1, h2⟩ := h.cur
  refine (freq_any X base q lp ps IM u mv told h1 (Nat.le_trans h.bz h.bel.size) EA hS).mono fun e X' hp => ?_
  obtain ⟨rfl, hc, he⟩ := hp
  exact ⟨rfl, h.moved he hc h2, he⟩
theorem GoS.posi {w X : World} {base q : Nat} {lp : Value} {ps : List PostV} {IM : List UInt8} {u m : Nat} (h : GoS w X base q lp ps IM u m) (hm : m ≤ 900000000000000) (EA : Nat → Addr) (hS : Sent6 X EA) :
    Calls Tryd.prog 19 #[.pointer (some ⟨q, 0, none⟩)] X fun e X' => ∃ v, e = .returned v ∧ Own X' X.heap.size 3 v (intL (posU ps u)) ∧ GoS w X' base q lp ps IM u (m + 100000000) ∧ Eff (· = q) X X' := by
  obtain ⟨mv, told, h1, h2⟩ := h.cur
  have hple := posU_le h1.lens.2.1 u
  refine (posi_any X base q lp ps IM u mv told h1 (Nat.le_trans h.bz h.bel.size) (by omega) EA hS).mono fun e X' hp => ?_
  obtain ⟨v, rfl, ho, hc, he⟩ := hp
  exact ⟨v, rfl, ho, h.moved he hc (by split <;> omega), he⟩
theorem GoS.docs {w X : World} {base q : Nat} {lp : Value} {ps : List PostV} {IM : List UInt8} {u m : Nat} (h : GoS w X base q lp ps IM u m) :
    Calls Tryd.prog 20 #[.pointer (some ⟨q, 0, none⟩)] X fun e X' => e = .returned (.int .i64 (ps.length : Nat)) ∧ X = X' := by
  obtain ⟨mv, told, ⟨bk, rv, h1⟩, h2⟩ := h.cur
  exact docsC_any X base q lp ps IM _ u mv told bk rv h1
set_option maxRecDepth 100000 in
set_option maxHeartbeats 16000000 in
theorem cursorOpens_walk (w : World) (a : Option Addr) (n c : Nat) (b : List UInt8) (hr : Rd w (.slice a n c) (bytesV b)) (hb : b.length ≤ 1048576) (EA : Nat → Addr) (hS : Sent w EA) :
    Calls Tryd.prog 5 #[.slice a n c] w fun e w' => e = .returned (.bool true) ∧ Below w.heap.size w w' := by
  have C1 := fixed_any w EA hS
  have HS := Lib.hid hS
  have HR := Lib.hid hr
  clear hS hr
  go_enter Tryd.func5, Tryd.ntmps5
  go_wp2_with fail
  with_reducible refine C1.mono ?_
  rintro e w1 ⟨rfl, hb1⟩
  clear C1
  have C2 := rdec_any w1 a n c b (HR.out.below hb1 (Nat.le_refl _)) (by omega) EA (HS.out.below hb1)
  have HB1 := Lib.hid hb1
  have HC2 := Lib.hid C2
  clear hb1 C2
  go_wp2_with fail
  with_reducible refine HC2.out.mono ?_
  rintro e w2 ⟨h2, h2n, hb2⟩
  have HB2 := Lib.hid (HB1.out.trans (hb2.mono HB1.out.size))
  clear HC2
  cases ho : openV b with
  | none =>
    obtain rfl := h2n ho
    have C3 := copen_no w2 a n c b ho (by omega) (HR.out.below HB2.out (Nat.le_refl _)) EA (HS.out.below HB2.out).s7.s6
    have HC3 := Lib.hid C3
    clear h2 h2n hb2 HB1 ho C3
    go_wp2_with fail
    with_reducible refine HC3.out.mono ?_
    rintro e w3 ⟨rfl, hb3⟩
    have hb23 := HB2.out.trans (hb3.mono HB2.out.size)
    have C5 := num_Corrupt w3 EA (HS.out.below hb23)
    have HB3 := Lib.hid hb23
    clear hb3 hb23 HC3
    go_wp2_with fail
    with_reducible refine C5.mono ?_
    rintro e w5 ⟨rfl, rfl⟩
    clear C5
    go_wp2
    go_ret
    exact ⟨rfl, HB3.out⟩
  | some r =>
    obtain ⟨A2, N2, C2, vs2, rfl, hrow2⟩ := h2 r ho
    obtain ⟨-, hok, him, hfit, hle, htt⟩ := doc_some ho hb
    obtain ⟨ps, hps⟩ : ∃ ps, r.bl.flatten = ps := ⟨_, rfl⟩
    rw [hps] at hrow2 hok him hfit hle htt
    have hil : (imageV ps).length ≤ 1000000000 := by rw [him]; omega
    have hrd9 := HR.out.below HB2.out (Nat.le_refl _)
    rw [← him] at hrd9
    have C3 := copen_ok w2 a n c ps hok hfit hle (by omega) hil hrd9 EA (HS.out.below HB2.out).s7.s6
    have hrp := hrow2.rd
    have hnl := hrp.1
    subst hnl
    have HC3 := Lib.hid C3
    have HRP := Lib.hid hrp
    have HRW := Lib.hid hrow2
    clear h2 h2n hb2 HB1 ho C3 hrp hrd9 hil him hok hps hrow2
    obtain ⟨IM, hIM⟩ : ∃ IM, imageV ps = IM := ⟨_, rfl⟩
    rw [hIM] at HC3
    clear hIM
    go_wp2_with fail
    with_reducible refine HC3.out.mono ?_
    rintro e w3 ⟨q, pl, rfl, hc3, hb3⟩
    have hgs : GoS w2 w3 w2.heap.size q (.pointer (some ⟨pl, 0, none⟩)) ps IM 0 0 := ⟨⟨0, false, hc3, Nat.le_refl _⟩, hb3, Nat.le_refl _⟩
    have C5 := num_nil w3
    have HGS := Lib.hid hgs
    obtain ⟨B, hB⟩ : ∃ B, w2.heap.size = B := ⟨_, rfl⟩
    rw [hB] at HGS
    have HB := Lib.hid hB
    clear hc3 hb3 hgs HC3 hB
    go_wp2_with fail
    with_reducible refine C5.mono ?_
    rintro e w5 ⟨rfl, rfl⟩
    clear C5
    have HSX := Lib.hid (show ∀ X m u, GoS w2 X B q (.pointer (some ⟨pl, 0, none⟩)) ps IM u m → Sent6 X EA ∧ RdPost X A2 ps.length ps ∧ Below w.heap.size w X from fun X m u h => by
      have h9 := h.bel
      rw [← HB.out] at h9
      have h8 := HB2.out.trans (h9.mono HB2.out.size)
      exact ⟨(HS.out.below h8).s7.s6, HRP.out.below h9 (Nat.le_refl _), h8⟩)
    clear HRW
    obtain ⟨K9, hK9⟩ : ∃ K, K = 200000000 := ⟨_, rfl⟩
    have hKi : ∀ i, i ≤ ps.length → K9 * i ≤ 300000000000000 := fun i hi => by
      have := Nat.mul_le_mul (show K9 ≤ 200000000 by omega) (show i ≤ 1048576 by omega)
      omega
    have HKI := Lib.hid hKi
    have HK9 := Lib.hid hK9
    have HGS := Lib.hid (show GoS w2 w3 B q (.pointer (some ⟨pl, 0, none⟩)) ps IM 0 (K9 * 0) by rw [Nat.mul_zero]; exact HGS.out)
    clear hKi hK9
    go_wp2
    go_loopw [8, 36] (fun s8 s36 wr => ∃ (i : Nat) (t8 : Value), s8 = t8 ∧ s36 = .int .i64 i ∧ i ≤ ps.length ∧ RowKit.Hid (GoS w2 wr B q (.pointer (some ⟨pl, 0, none⟩)) ps IM i (K9 * i))) (fun _ s36 _ => ps.length - (intOf s36).toNat)
    case atStart => exact ⟨0, _, rfl, rfl, Nat.zero_le _, HGS⟩
    case round =>
      clear HGS
      obtain ⟨i, t8, rfl, rfl, hi, HG⟩ := hrel
      by_cases hlt : i < ps.length
      · obtain ⟨b9, o9, A9, C9, hae, k0, k1, k2⟩ := HRP.out.at2 hlt
        have hbB := HG.out.bel
        rw [← HB.out] at hbB
        have k0 := (hbB.cell (World.block_lt_of_cell? w2 _ k0)).trans k0
        have k1 := (hbB.cell (World.block_lt_of_cell? w2 _ k1)).trans k1
        subst hae
        have hpu := posU_at hlt
        have hdu := docU_at hlt
        obtain ⟨dv, hdv⟩ : ∃ d, ps[i].doc = d := ⟨_, rfl⟩
        obtain ⟨pv, hpv⟩ : ∃ d, ps[i].pos = d := ⟨_, rfl⟩
        rw [hdv] at k0 hdu
        rw [hpv] at k1 k2 hpu
        have hpf := (hfit _ (List.getElem_mem hlt)).2.2
        rw [hpv] at hpf
        have i1 : (i : Int) < (ps.length : Int) := by omega
        clear hdv hpv hbB
        go_upto_region 12 with fail
        have hX := heap_alloc_new wr (.cells #[.int .i64 dv, .slice A9 pv.length C9] 41)
        have hba := (Below.refl wr.heap.size wr).alloc (Nat.le_refl _) (.cells #[.int .i64 dv, .slice A9 pv.length C9] 41)
        have hg := HG.out.below hba
        have hgq := HG.out.hq
        have hzq : q < wr.heap.size := hgq.2
        clear k0 k1 hba hgq
        generalize wr.alloc (.cells #[.int .i64 dv, .slice A9 pv.length C9] 41) = wX at hX hg ⊢
        generalize wr.heap.size = z at hX hzq ⊢
        have hzz : z < wX.heap.size := lt_of_heap hX
        have HX := Lib.hid (show ∀ X, Eff (· = q) wX X → X.cell? ⟨z, 0, none⟩ = some (.int .i64 dv) ∧ X.cell? ⟨z, 1, none⟩ = some (.slice A9 pv.length C9) from fun X e => by
          have h9 := (e.block z hzz (by omega)).trans hX
          exact ⟨blk_cell h9 0, blk_cell h9 1⟩)
        have k0 : wX.cell? ⟨z, 0, none⟩ = some (.int .i64 dv) := blk_cell hX 0
        have k1 : wX.cell? ⟨z, 1, none⟩ = some (.slice A9 pv.length C9) := blk_cell hX 1
        have HW := Lib.hid (show ∀ X, Below B w2 X → Rd X (.slice A9 pv.length C9) (intL pv) from fun X h => by
          rw [← HB.out] at h
          exact k2.below h (Nat.le_refl _))
        have HG2 := Lib.hid hg
        clear hX hg HG hzq hzz k2
        go_cut [60] (fun s60 wx => s60 = .bool false ∧ RowKit.Hid (GoS w2 wx B q (.pointer (some ⟨pl, 0, none⟩)) ps IM (i + 1) (K9 * (i + 1))))
        case first =>
          refine wp_region_noPanic ?_
          refine wp_region_held_drew (S := fun X => X.cell? ⟨z, 0, none⟩ = some (.int .i64 dv) ∧ X.cell? ⟨z, 1, none⟩ = some (.slice A9 pv.length C9)) (by kernel_rfl) ⟨k0, k1⟩ (fun hHeld => ?_)
          clear k0 k1
          refine wpAnyH_take (i := 0) (v := ?_) rfl (by kernel_rfl) (by kernel_rfl) (by kernel_rfl) (fun _ _ _ h => h) (Or.inl ⟨by kernel_rfl, ?_⟩) hHeld ?_
          rotate_left
          · intro w hSw
            obtain ⟨z1, z2⟩ := hSw
            go_simp
            try with_reducible rfl
          refine wpAnyH_take (i := 2) (v := ?_) rfl (by kernel_rfl) (by kernel_rfl) (by kernel_rfl) (fun _ _ _ h => h) (Or.inl ⟨by kernel_rfl, ?_⟩) hHeld ?_
          rotate_left
          · intro w hSw
            obtain ⟨z1, z2⟩ := hSw
            go_simp
            try with_reducible rfl
          refine wpAnyH_take (i := 3) (v := ?_) rfl (by kernel_rfl) (by kernel_rfl) (by kernel_rfl) (fun _ _ _ h => h) (Or.inl ⟨by kernel_rfl, ?_⟩) hHeld ?_
          rotate_left
          · intro w hSw
            obtain ⟨z1, z2⟩ := hSw
            go_simp
            try with_reducible rfl
          have hg0 := HG2.out.below (Below.refl wX.heap.size wX).drew
          have HE := Lib.hid (eff_of_below (F := (· = q)) (Below.refl wX.heap.size wX).drew)
          generalize World.drew wX = X0 at hg0 HE hHeld ⊢
          clear HG2
          have hki := HKI.out i hi
          have C7 := hg0.next hi (by omega) EA (HSX.out _ _ _ hg0).1
          rw [hdu] at C7
          have HC := Lib.hid C7
          clear C7 hg0 hHeld
          refine wpAnyH_ready (rs := [1]) (by kernel_rfl) (by simp) ?_
          refine AllReadyH.cons rfl (fun KK hKK => ?_) ?_
          rotate_left
          · exact AllReadyH.nil
          rw [if_pos (by kernel_rfl)]
          go_simp
          go_wp2_with (go_at_call 16; (with_reducible refine HC.out.mono ?_); rintro e X1 ⟨rfl, hg1, he1⟩)
          have HE1 := Lib.hid (eff_tr HE.out he1)
          have hs9 := HX.out _ HE1.out
          have C8 := hg1.freq EA (HSX.out _ _ _ hg1).1
          rw [hpu] at C8
          clear HC HE he1 hg1
          have HC := Lib.hid C8
          clear C8
          refine hKK.out _ _ hs9 (fun hHeld => ?_)
          clear hKK KK hs9
          refine wpAnyH_take (i := 4) (v := ?_) rfl (by kernel_rfl) (by kernel_rfl) (by kernel_rfl) (fun _ _ _ h => h) (Or.inl ⟨by kernel_rfl, ?_⟩) hHeld ?_
          rotate_left
          · intro w hSw
            obtain ⟨z1, z2⟩ := hSw
            go_simp
            try with_reducible rfl
          refine wpAnyH_take (i := 5) (v := ?_) rfl (by kernel_rfl) (by kernel_rfl) (by kernel_rfl) (fun _ _ _ h => h) (Or.inl ⟨by kernel_rfl, ?_⟩) hHeld ?_
          rotate_left
          · intro w hSw
            obtain ⟨z1, z2⟩ := hSw
            go_simp
            try with_reducible rfl
          refine wpAnyH_take (i := 6) (v := ?_) rfl (by kernel_rfl) (by kernel_rfl) (by kernel_rfl) (fun _ _ _ h => h) (Or.inl ⟨by kernel_rfl, ?_⟩) hHeld ?_
          rotate_left
          · intro w hSw
            obtain ⟨z1, z2⟩ := hSw
            go_simp
            try with_reducible rfl
          refine wpAnyH_take (i := 8) (v := ?_) rfl (by kernel_rfl) (by kernel_rfl) (by kernel_rfl) (fun _ _ _ h => h) (Or.inl ⟨by kernel_rfl, ?_⟩) hHeld ?_
          rotate_left
          · intro w hSw
            obtain ⟨z1, z2⟩ := hSw
            go_simp
            try with_reducible rfl
          refine wpAnyH_take (i := 9) (v := ?_) rfl (by kernel_rfl) (by kernel_rfl) (by kernel_rfl) (fun _ _ _ h => h) (Or.inl ⟨by kernel_rfl, ?_⟩) hHeld ?_
          rotate_left
          · intro w hSw
            obtain ⟨z1, z2⟩ := hSw
            go_simp
            try with_reducible rfl
          refine wpAnyH_take (i := 10) (v := ?_) rfl (by kernel_rfl) (by kernel_rfl) (by kernel_rfl) (fun _ _ _ h => h) (Or.inl ⟨by kernel_rfl, ?_⟩) hHeld ?_
          rotate_left
          · intro w hSw
            obtain ⟨z1, z2⟩ := hSw
            go_simp
            try with_reducible rfl
          refine wpAnyH_ready (rs := [7]) (by kernel_rfl) (by simp) ?_
          refine AllReadyH.cons rfl (fun KK hKK => ?_) ?_
          rotate_left
          · exact AllReadyH.nil
          rw [if_pos (by kernel_rfl)]
          go_simp
          go_wp2_with (go_at_call 17; (with_reducible refine HC.out.mono ?_); rintro e X2 ⟨rfl, hg2, he2⟩)
          have HE2 := Lib.hid (eff_tr HE1.out he2)
          have hs9 := HX.out _ HE2.out
          have C9 := hg2.posi (by omega) EA (HSX.out _ _ _ hg2).1
          rw [hpu] at C9
          clear HC HE1 he2 hg2
          have HC := Lib.hid C9
          clear C9
          refine hKK.out _ _ hs9 (fun hHeld => ?_)
          clear hKK KK hs9
          refine wpAnyH_take (i := 11) (v := ?_) rfl (by kernel_rfl) (by kernel_rfl) (by kernel_rfl) (fun _ _ _ h => h) (Or.inl ⟨by kernel_rfl, ?_⟩) hHeld ?_
          rotate_left
          · intro w hSw
            obtain ⟨z1, z2⟩ := hSw
            go_simp
            try with_reducible rfl
          refine wpAnyH_take (i := 12) (v := ?_) rfl (by kernel_rfl) (by kernel_rfl) (by kernel_rfl) (fun _ _ _ h => h) (Or.inl ⟨by kernel_rfl, ?_⟩) hHeld ?_
          rotate_left
          · intro w hSw
            obtain ⟨z1, z2⟩ := hSw
            go_simp
            try with_reducible rfl
          refine wpAnyH_take (i := 13) (v := ?_) rfl (by kernel_rfl) (by kernel_rfl) (by kernel_rfl) (fun _ _ _ h => h) (Or.inl ⟨by kernel_rfl, ?_⟩) hHeld ?_
          rotate_left
          · intro w hSw
            obtain ⟨z1, z2⟩ := hSw
            go_simp
            try with_reducible rfl
          refine wpAnyH_take (i := 14) (v := ?_) rfl (by kernel_rfl) (by kernel_rfl) (by kernel_rfl) (fun _ _ _ h => h) (Or.inl ⟨by kernel_rfl, ?_⟩) hHeld ?_
          rotate_left
          · intro w hSw
            obtain ⟨z1, z2⟩ := hSw
            go_simp
            try with_reducible rfl
          refine wpAnyH_take (i := 16) (v := ?_) rfl (by kernel_rfl) (by kernel_rfl) (by kernel_rfl) (fun _ _ _ h => h) (Or.inl ⟨by kernel_rfl, ?_⟩) hHeld ?_
          rotate_left
          · intro w hSw
            obtain ⟨z1, z2⟩ := hSw
            go_simp
            try with_reducible rfl
          refine wpAnyH_take (i := 17) (v := ?_) rfl (by kernel_rfl) (by kernel_rfl) (by kernel_rfl) (fun _ _ _ h => h) (Or.inl ⟨by kernel_rfl, ?_⟩) hHeld ?_
          rotate_left
          · intro w hSw
            obtain ⟨z1, z2⟩ := hSw
            go_simp
            try with_reducible rfl
          refine wpAnyH_ready (rs := [15]) (by kernel_rfl) (by simp) ?_
          refine AllReadyH.cons rfl (fun KK hKK => ?_) ?_
          rotate_left
          · exact AllReadyH.nil
          rw [if_pos (by kernel_rfl)]
          go_simp
          go_wp2_with (go_at_call 19; (with_reducible refine HC.out.mono ?_); rintro e X3 ⟨v, rfl, hov, hg3, he3⟩)
          have HE3 := Lib.hid (eff_tr HE2.out he3)
          have hs9 := HX.out _ HE3.out
          obtain ⟨Ap, Cp, hv⟩ := own_slice hov
          rw [intL_length] at hv
          subst hv
          have C9 := samei_any X3 Ap A9 pv.length pv.length Cp C9 pv pv hov.rd (HW.out _ hg3.bel) (by omega) (by omega)
          rw [show decide (pv = pv) = true from decide_eq_true rfl] at C9
          have HG3 := Lib.hid hg3
          clear HC HE2 he3 hov hg3
          have HC := Lib.hid C9
          clear C9
          refine hKK.out _ _ hs9 (fun hHeld => ?_)
          clear hKK KK hs9
          refine wpAnyH_ready (rs := [18]) (by kernel_rfl) (by simp) ?_
          refine AllReadyH.cons rfl (fun KK hKK => ?_) ?_
          rotate_left
          · exact AllReadyH.nil
          rw [if_pos (by kernel_rfl)]
          go_simp
          go_wp2_with (go_at_call 18; (with_reducible refine HC.out.mono ?_); rintro e X4 ⟨rfl, d9, rfl⟩)
          have hbd := below_drewN (Below.refl X3.heap.size X3) d9
          have hs9 := HX.out _ (eff_tr HE3.out (eff_of_below hbd))
          have HG4 := Lib.hid (HG3.out.below hbd)
          clear HC HE3 HG3 hbd
          refine hKK.out _ _ hs9 (fun hHeld => ?_)
          clear hKK KK hs9
          refine wpAnyH_take (i := 19) (v := ?_) rfl (by kernel_rfl) (by kernel_rfl) (by kernel_rfl) (fun _ _ _ h => h) (Or.inl ⟨by kernel_rfl, ?_⟩) hHeld ?_
          rotate_left
          · intro w hSw
            obtain ⟨z1, z2⟩ := hSw
            go_simp
            try with_reducible rfl
          refine wpAnyH_take (i := 20) (v := ?_) rfl (by kernel_rfl) (by kernel_rfl) (by kernel_rfl) (fun _ _ _ h => h) (Or.inl ⟨by kernel_rfl, ?_⟩) hHeld ?_
          rotate_left
          · intro w hSw
            obtain ⟨z1, z2⟩ := hSw
            go_simp
            try with_reducible rfl
          clear hHeld
          refine wpAnyH_done (by kernel_rfl) ?_ _
          refine NoPanic.normal ?_
          have hg9 : GoS w2 (X3.drewN d9) B q (.pointer (some ⟨pl, 0, none⟩)) ps IM (i + 1) (K9 * (i + 1)) := by
            obtain ⟨mv, told, h1, h2⟩ := HG4.out.cur
            have hk9 := HK9.out
            have hmu : K9 * (i + 1) = K9 * i + K9 := Nat.mul_succ K9 i
            exact ⟨⟨mv, told, h1, by omega⟩, HG4.out.bel, HG4.out.bz⟩
          have HG9 := Lib.hid hg9
          clear hg9
          go_wp2_with fail
          go_meet
          exact ⟨rfl, HG9⟩
        case rest =>
        obtain ⟨rfl, HG9⟩ := hcut
        clear k0 k1 HX HW HG2
        go_wp2
        go_roundw
        case rel => exact ⟨i + 1, _, rfl, by go_num, by omega, HG9⟩
        case measure => simp [intOf]; omega
      · obtain rfl : i = ps.length := by omega
        have i1 : ¬ ((ps.length : Int) < (ps.length : Int)) := by omega
        have hki := HKI.out _ (Nat.le_refl _)
        have C7 := HG.out.next (Nat.le_refl _) (by omega) EA (HSX.out _ _ _ HG.out).1
        rw [docU_end (by omega)] at C7
        have HC := Lib.hid C7
        clear hlt C7 HG
        go_wp2_with fail
        with_reducible refine HC.out.mono ?_
        rintro e X1 ⟨rfl, hg1, he1⟩
        have C8 := hg1.freq EA (HSX.out _ _ _ hg1).1
        rw [posU_out (.inr (by omega))] at C8
        clear HC he1 hg1
        have HC := Lib.hid C8
        clear C8
        go_wp2_with fail
        with_reducible refine HC.out.mono ?_
        rintro e X2 ⟨rfl, hg2, he2⟩
        have C9 := hg2.posi (by omega) EA (HSX.out _ _ _ hg2).1
        rw [posU_out (.inr (by omega))] at C9
        clear HC he2 hg2
        have HC := Lib.hid C9
        clear C9
        go_wp2_with fail
        with_reducible refine HC.out.mono ?_
        rintro e X3 ⟨v, rfl, hov, hg3, he3⟩
        obtain ⟨Ap, Cp, hv⟩ := own_slice hov
        subst hv
        have C9 := hg3.docs
        have HG3 := Lib.hid (HSX.out _ _ _ hg3).2.2
        clear HC hg3 he3 hov
        go_wp2_with fail
        with_reducible refine C9.mono ?_
        rintro e X4 ⟨rfl, rfl⟩
        clear C9
        go_wp2
        go_ret
        exact ⟨rfl, HG3.out⟩
      end Go.Proofs.YtaijepjhmjjecaaDoor
