/- Merged: SameI, StepS, ScanS. -/
import Derived.Test.YtaijepjhmjjecaaDoorZG1
import Derived.BigQuiet
import Derived.Test.YtaijepjhmjjecaaDoorZDocC3
import Derived.Test.YtaijepjhmjjecaaDoorZG23
import Derived.Test.YtaijepjhmjjecaaDoorZG25
/- concordmem.SameInts: are both lists alike? -/
namespace Go.Proofs.YtaijepjhmjjecaaDoor
set_option linter.unusedVariables false
open Go.ChangeShapes Go.WideShapes Go.ChangeAt Go.RowKit

theorem take_eq_snoc {l m : List Int} {i : Nat} (hl : i < l.length) (hm : i < m.length) (h : l.take i = m.take i) (e : l[i] = m[i]) : l.take (i + 1) = m.take (i + 1) := by
  rw [List.take_add_one, List.take_add_one, h, List.getElem?_eq_getElem hl, List.getElem?_eq_getElem hm, e]
set_option maxRecDepth 100000 in
theorem samei_any (w : World) (a a' : Option Addr) (n n' c c' : Nat) (l m : List Int) (h : Rd w (.slice a n c) (intL l)) (h' : Rd w (.slice a' n' c') (intL m)) (hl : (l.length : Int) ≤ 9223372036854775807) (hm : (m.length : Int) ≤ 9223372036854775807) :
    Calls Tryd.prog 18 #[.slice a n c, .slice a' n' c'] w fun e w' => e = .returned (.bool (decide (l = m))) ∧ ∃ d, w' = w.drewN d := by
  obtain ⟨rfl, hg⟩ := rd_get h
  obtain ⟨rfl, hg'⟩ := rd_get h'
  have HG := Lib.hid hg
  have HG' := Lib.hid hg'
  clear h hg h' hg'
  by_cases hlen : l.length = m.length
  · have HL := Lib.hid hlen
    have q1 : ((l.length : Int) == (m.length : Int)) = true := by simp; omega
    have q2 : l.length ≤ m.length := by omega
    have q3 : m.length ≤ l.length := by omega
    clear hlen
    go_enter Tryd.func18, Tryd.ntmps18
    go_wp2
    go_loopw [13] (fun s wr => ∃ i d : Nat, s = .int .i64 i ∧ i ≤ l.length ∧ l.take i = m.take i ∧ wr = w.drewN d) (fun s _ => l.length - (intOf s).toNat)
    case atStart => exact ⟨0, 0, rfl, Nat.zero_le _, rfl, rfl⟩
    case round =>
      obtain ⟨i, d, rfl, hi, hsame, rfl⟩ := hrel
      have HS := Lib.hid hsame
      clear hsame
      by_cases hlt : i < l.length
      · have hlt' : i < m.length := by omega
        obtain ⟨b, o, rfl, hg⟩ := HG.out (by omega)
        obtain ⟨b', o', rfl, hg'⟩ := HG'.out (by omega)
        have hc := hg i hlt
        have hc' := hg' i hlt'
        obtain ⟨z, hz⟩ : ∃ z, l[i] = z := ⟨_, rfl⟩
        obtain ⟨y, hy⟩ : ∃ y, m[i] = y := ⟨_, rfl⟩
        rw [hz] at hc
        rw [hy] at hc'
        have HZ := Lib.hid hz
        have HY := Lib.hid hy
        clear hg hg' hz hy
        by_cases he : z = y
        · subst he
          have hstep := Lib.hid (take_eq_snoc hlt hlt' HS.out (HZ.out.trans HY.out.symm))
          clear HZ HY
          go_wp2
          go_quiet (fail)
          go_wp2
          go_roundw
          case rel => exact ⟨i + 1, d + nq, by go_num, by omega, hstep.out, by first | rfl | trivial⟩
          case measure => simp [intOf]; omega
        · have hb : (z == y) = false := by simpa using he
          have HE := Lib.hid he
          clear he
          go_wp2
          go_quiet (fail)
          go_wp2
          go_ret
          have hne : ¬ l = m := fun e => by subst e; exact HE.out (HZ.out.symm.trans HY.out)
          exact ⟨ret_bool (decide_eq_false hne).symm, d + nq, World.drewN_drewN ..⟩
      · obtain rfl : i = l.length := by omega
        have hlm : l = m := by
          have := HS.out
          rw [List.take_length, HL.out, List.take_length] at this; exact this
        have HLM := Lib.hid hlm
        clear hlm
        go_wp2
        go_ret
        exact ⟨ret_bool (decide_eq_true HLM.out).symm, _, rfl⟩
  · have q1 : ((l.length : Int) == (m.length : Int)) = false := by simp; omega
    have HL := Lib.hid hlen
    clear hlen
    go_enter Tryd.func18, Tryd.ntmps18
    go_wp2
    go_ret
    exact ⟨ret_bool (decide_eq_false (fun e => HL.out (by rw [e]))).symm, 0, rfl⟩
end Go.Proofs.YtaijepjhmjjecaaDoor

/- cursor: a cursor beside the document's: the state of the law's step. -/
namespace Go.Proofs.YtaijepjhmjjecaaDoor
set_option linter.unusedVariables false
open Go.ChangeShapes Go.WideShapes Go.ChangeAt Go.RowKit

/-- The blocks that change are cursors. -/
def CurF (w : World) (F : Nat → Prop) : Prop := ∀ k, F k → ∃ cs T fr, w.heap[k]? = some (.cells cs T fr) ∧ (T = 67 ∨ T = 57)
theorem ListAt.effT {F : Nat → Prop} {w w' : World} {base p : Nat} {im sv : Value} {b : List UInt8} {n t : Nat} {SS : List SkV} (h : ListAt w base p im sv b n t SS) (e : Eff F w w') (hF : CurF w F) :
    ListAt w' base p im sv b n t SS :=
  ⟨(e.block p (lt_of_heap h.blk) (fun f => by
      obtain ⟨cs, T, fr, hq, hT⟩ := hF p f
      have := heap_type h.blk hq
      rcases hT with rfl | rfl <;> exact absurd this (by decide))).trans h.blk, h.hp,
    h.img.eff e (fun k hk f => by
      obtain ⟨cs, T, fr, hq, hT⟩ := hF k f
      rcases hT with rfl | rfl
      · exact h.img.ne_type hq (by decide) hk
      · exact h.img.ne_type hq (by decide) hk),
    h.sk.eff e (fun k hk f => by
      obtain ⟨cs, T, fr, hq, hT⟩ := hF k f
      rcases hT with rfl | rfl
      · exact h.sk.ne_type hq (by decide) hk
      · exact h.sk.ne_type hq (by decide) hk)⟩
theorem RowP.effT {F : Nat → Prop} {w w' : World} {base : Nat} {v : Value} {ps : List PostV} {vs : Nat → Value} (h : RowP w base v ps vs) (e : Eff F w w') (hF : CurF w F) : RowP w' base v ps vs :=
  h.eff e (fun b hb f => by
    obtain ⟨cs, T, fr, hq, hT⟩ := hF b f
    rcases hb with hb | ⟨k, hk, hb⟩
    · rcases hT with rfl | rfl
      · exact row_ne_type h.row hq (by decide) hb
      · exact row_ne_type h.row hq (by decide) hb
    · rcases hT with rfl | rfl
      · exact (h.own k hk).ne_type hq (by decide) hb
      · exact (h.own k hk).ne_type hq (by decide) hb)
theorem CurAt.effT {F : Nat → Prop} {w w' : World} {base q : Nat} {lp : Value} {ps : List PostV} {IM : List UInt8} {u mv : Nat} {told : Bool} (h : CurAt w base q lp ps IM u mv told) (e : Eff F w w') (hF : CurF w F) (hq : ¬ F q) : CurAt w' base q lp ps IM u mv told := by
  obtain ⟨bk, rv, h⟩ := h
  refine ⟨bk, rv, (e.block q (lt_of_heap h.blk) hq).trans h.blk, h.hq, h.lo, h.hu, ?_, ?_, h.sl⟩
  · rcases h.ls with h9 | ⟨p, im, sa, sc, h1, h2, h3⟩
    · exact .inl h9
    · exact .inr ⟨p, im, sa, sc, h1, h2.effT e hF, h3⟩
  · rcases h.rd with h9 | ⟨k, vs, h1, h2, h3⟩
    · exact .inl h9
    · exact .inr ⟨k, vs, h1, h2, h3.effT e hF⟩
theorem CurAt.blk {w : World} {base q : Nat} {lp : Value} {ps : List PostV} {IM : List UInt8} {u mv : Nat} {told : Bool} (h : CurAt w base q lp ps IM u mv told) : ∃ cs, w.heap[q]? = some (.cells cs 67 (0, 0)) := by
  obtain ⟨bk, rv, h⟩ := h
  exact ⟨_, h.blk⟩
/-- A cursor and the document's, side by side. -/
structure StC (w0 w : World) (base q R : Nat) (lp : Value) (ps : List PostV) (IM : List UInt8) (a : Option Addr) (n c u mv : Nat) (told asked : Bool) : Prop where
  cur : CurAt w base q lp ps IM u mv told
  rc : RcB w R a n c ((u : Int) - 1) mv asked
  bel : Below w0.heap.size w0 w
  hb : w0.heap.size ≤ base
  hR : w0.heap.size ≤ R
  bz : base ≤ w.heap.size
  rel : posU ps u ≠ [] → told = asked
theorem StC.hq {w0 w : World} {base q R : Nat} {lp : Value} {ps : List PostV} {IM : List UInt8} {a : Option Addr} {n c u mv : Nat} {told asked : Bool} (h : StC w0 w base q R lp ps IM a n c u mv told asked) : w0.heap.size ≤ q := by
  obtain ⟨_, _, h1⟩ := h.cur
  exact Nat.le_trans h.hb h1.hq
theorem StC.lt {w0 w : World} {base q R : Nat} {lp : Value} {ps : List PostV} {IM : List UInt8} {a : Option Addr} {n c u mv : Nat} {told asked : Bool} (h : StC w0 w base q R lp ps IM a n c u mv told asked) : q < w.heap.size ∧ R < w.heap.size ∧ q ≠ R := by
  obtain ⟨_, _, h1⟩ := h.cur
  refine ⟨lt_of_heap h1.blk, lt_of_heap h.rc.blk, fun e => ?_⟩
  subst e
  exact absurd (heap_type h1.blk h.rc.blk) (by decide)
theorem StC.below {w0 w w' : World} {base q R : Nat} {lp : Value} {ps : List PostV} {IM : List UInt8} {a : Option Addr} {n c u mv : Nat} {told asked : Bool} (h : StC w0 w base q R lp ps IM a n c u mv told asked) (hb : Below w.heap.size w w') : StC w0 w' base q R lp ps IM a n c u mv told asked :=
  ⟨h.cur.below hb (Nat.le_refl _), h.rc.below hb h.lt.2.1, h.bel.trans (hb.mono h.bel.size), h.hb, h.hR, Nat.le_trans h.bz hb.size, h.rel⟩
/-- The program's cursor has moved: behind the document's. -/
theorem StC.curF {w0 w : World} {base q R : Nat} {lp : Value} {ps : List PostV} {IM : List UInt8} {a : Option Addr} {n c u mv : Nat} {told asked : Bool} (h : StC w0 w base q R lp ps IM a n c u mv told asked) : CurF w (fun k => k = q ∨ k = R) := by
  obtain ⟨cs, h1⟩ := h.cur.blk
  rintro k (rfl | rfl)
  · exact ⟨cs, _, _, h1, .inl rfl⟩
  · exact ⟨_, _, _, h.rc.blk, .inr rfl⟩
/-- Another pair stays. -/
theorem StC.other {w0 w w' : World} {base q R q2 R2 : Nat} {lp : Value} {ps : List PostV} {IM : List UInt8} {a : Option Addr} {n c u mv : Nat} {told asked : Bool} (h : StC w0 w base q R lp ps IM a n c u mv told asked) (e : Eff (fun k => k = q2 ∨ k = R2) w w') (hF : CurF w (fun k => k = q2 ∨ k = R2)) (h1 : q ≠ q2) (h2 : R ≠ R2) (h3 : q ≠ R2) (h4 : R ≠ q2)
    (h5 : w0.heap.size ≤ q2) (h6 : w0.heap.size ≤ R2) : StC w0 w' base q R lp ps IM a n c u mv told asked :=
  ⟨h.cur.effT e hF (by rintro (h | h); exact h1 h; exact h3 h), ⟨(e.block R h.lt.2.1 (by rintro (h | h); exact h4 h; exact h2 h)).trans h.rc.blk⟩,
    h.bel.trans ⟨e.os, e.tape, e.output, e.size, fun k hk => e.block k (Nat.lt_of_lt_of_le hk h.bel.size) (by rintro (h | h) <;> omega)⟩, h.hb, h.hR, Nat.le_trans h.bz e.size, h.rel⟩
theorem eff_or {w w' : World} {q R : Nat} (e : Eff (· = q) w w') : Eff (fun k => k = q ∨ k = R) w w' := ⟨e.os, e.tape, e.output, e.size, fun k hk hn => e.block k hk (fun h => hn (.inl h))⟩
theorem eff_or2 {w w' : World} {q R : Nat} (e : Eff (· = R) w w') : Eff (fun k => k = q ∨ k = R) w w' := ⟨e.os, e.tape, e.output, e.size, fun k hk hn => e.block k hk (fun h => hn (.inr h))⟩
theorem eff_of_below {F : Nat → Prop} {w w' : World} (hb : Below w.heap.size w w') : Eff F w w' := Eff.of_below hb F
theorem eff_tr {F : Nat → Prop} {w w1 w2 : World} (e1 : Eff F w w1) (e2 : Eff F w1 w2) : Eff F w w2 := e1.trans e2 (fun i hi _ => hi)
/-- What a step leaves. -/
def StepP (w0 w : World) (base q R : Nat) (lp : Value) (ps : List PostV) (IM : List UInt8) (a : Option Addr) (n c mv : Nat) (e : Ending) (w' : World) : Prop :=
  ∃ u' mv' told' asked', e = .returned (.bool true) ∧ StC w0 w' base q R lp ps IM a n c u' mv' told' asked' ∧ mv' ≤ mv + 200000000 ∧ Eff (fun k => k = q ∨ k = R) w w'
/-- The cells of the step's call. -/
structure OpB (w : World) (z : Nat) (kind which N : Int) : Prop where
  blk : w.heap[z]? = some (.cells #[.int .i64 kind, .int .i64 which, .int .i64 N] 60 (0, 0))
theorem OpB.c0 {w : World} {z : Nat} {kind which N : Int} (h : OpB w z kind which N) : w.cell? ⟨z, 0, none⟩ = some (.int .i64 kind) := blk_cell h.blk 0
theorem OpB.c2 {w : World} {z : Nat} {kind which N : Int} (h : OpB w z kind which N) : w.cell? ⟨z, 2, none⟩ = some (.int .i64 N) := blk_cell h.blk 2
/-- A step's world: the box of its call laid; the program's cursor at u, the document's at U. -/
structure TS (w0 w X : World) (z base q R : Nat) (lp : Value) (ps : List PostV) (IM : List UInt8) (a : Option Addr) (n c u mv : Nat) (told : Bool) (U MV : Nat) (AD : Bool) (kind which N : Int) : Prop where
  cur : CurAt X base q lp ps IM u mv told
  rc : RcB X R a n c ((U : Int) - 1) MV AD
  op : OpB X z kind which N
  bel : Below w0.heap.size w0 X
  eff : Eff (fun k => k = q ∨ k = R) w X
  sz : w.heap.size ≤ z
  sq : q < w.heap.size ∧ R < w.heap.size ∧ q ≠ R
  bz : base ≤ X.heap.size
  hb : w0.heap.size ≤ base
  hR : w0.heap.size ≤ R
theorem StC.ts {w0 w : World} {base q R : Nat} {lp : Value} {ps : List PostV} {IM : List UInt8} {a : Option Addr} {n c u mv : Nat} {told asked : Bool} (h : StC w0 w base q R lp ps IM a n c u mv told asked) (kind which N : Int) :
    TS w0 w (w.alloc (.cells #[.int .i64 kind, .int .i64 which, .int .i64 N] 60)) w.heap.size base q R lp ps IM a n c u mv told u mv asked kind which N := by
  have hb := (Below.refl w.heap.size w).alloc (Nat.le_refl _) (.cells #[.int .i64 kind, .int .i64 which, .int .i64 N] 60)
  have h1 := h.below hb
  exact ⟨h1.cur, h1.rc, ⟨heap_alloc_new w _⟩, h1.bel, eff_of_below hb, Nat.le_refl _, h.lt, h1.bz, h.hb, h.hR⟩
theorem TS.st {w0 w X : World} {z base q R : Nat} {lp : Value} {ps : List PostV} {IM : List UInt8} {a : Option Addr} {n c u mv : Nat} {told AD : Bool} {kind which N : Int} (h : TS w0 w X z base q R lp ps IM a n c u mv told u mv AD kind which N) (hr : posU ps u ≠ [] → told = AD) : StC w0 X base q R lp ps IM a n c u mv told AD :=
  ⟨h.cur, h.rc, h.bel, h.hb, h.hR, h.bz, hr⟩
theorem TS.below {w0 w X X' : World} {z base q R : Nat} {lp : Value} {ps : List PostV} {IM : List UInt8} {a : Option Addr} {n c u mv U MV : Nat} {told AD : Bool} {kind which N : Int} (h : TS w0 w X z base q R lp ps IM a n c u mv told U MV AD kind which N) (hb : Below X.heap.size X X') : TS w0 w X' z base q R lp ps IM a n c u mv told U MV AD kind which N :=
  ⟨h.cur.below hb (Nat.le_refl _), h.rc.below hb (lt_of_heap h.rc.blk), ⟨(hb.block z (lt_of_heap h.op.blk)).trans h.op.blk⟩, h.bel.trans (hb.mono h.bel.size), eff_tr h.eff (eff_of_below hb), h.sz, h.sq, Nat.le_trans h.bz hb.size, h.hb, h.hR⟩
/-- The program's cursor has moved. -/
theorem TS.moved {w0 w X X' : World} {z base q R : Nat} {lp : Value} {ps : List PostV} {IM : List UInt8} {a : Option Addr} {n c u mv U MV u' mv' : Nat} {told told' AD : Bool} {kind which N : Int} (h : TS w0 w X z base q R lp ps IM a n c u mv told U MV AD kind which N) (e : Eff (· = q) X X') (hc : CurAt X' base q lp ps IM u' mv' told') : TS w0 w X' z base q R lp ps IM a n c u' mv' told' U MV AD kind which N :=
  ⟨hc, ⟨(e.block R (lt_of_heap h.rc.blk) (by have := h.sq; omega)).trans h.rc.blk⟩, ⟨(e.block z (lt_of_heap h.op.blk) (by have := h.sq; have := h.sz; omega)).trans h.op.blk⟩,
    h.bel.trans (eff_below e (by obtain ⟨_, _, h1⟩ := h.cur; exact Nat.le_trans h.hb h1.hq) h.bel.size), eff_tr h.eff (eff_or e), h.sz, h.sq, Nat.le_trans h.bz e.size, h.hb, h.hR⟩
/-- The document's has been laid anew. -/
theorem TS.put {w0 w X : World} {z base q R : Nat} {lp : Value} {ps : List PostV} {IM : List UInt8} {a : Option Addr} {n c u mv U MV U' MV' : Nat} {told AD AD' : Bool} {kind which N : Int} (h : TS w0 w X z base q R lp ps IM a n c u mv told U MV AD kind which N) {pl : Int} (hpl : (U' : Int) - 1 = pl) :
    TS w0 w ((((X.setCell ⟨R, 0, none⟩ (.slice a n c)).setCell ⟨R, 1, none⟩ (.int .i64 pl)).setCell ⟨R, 2, none⟩ (.int .i64 (MV' : Nat))).setCell ⟨R, 3, none⟩ (.bool AD')) z base q R lp ps IM a n c u mv told U' MV' AD' kind which N := by
  have e := rc_eff (w := X) (z := R) (.slice a n c) (.int .i64 pl) (.int .i64 (MV' : Nat)) (.bool AD')
  subst hpl
  exact ⟨h.cur.effT e (by rintro k rfl; exact ⟨_, _, _, h.rc.blk, .inr rfl⟩) h.sq.2.2, rc_store h.rc, ⟨(e.block z (lt_of_heap h.op.blk) (by have := h.sz; have := h.sq; omega)).trans h.op.blk⟩, h.bel.trans (eff_below e h.hR (h.bel.size)), eff_tr h.eff (eff_or2 e), h.sz, h.sq, Nat.le_trans h.bz e.size, h.hb, h.hR⟩
theorem posU_le {ps : List PostV} {n : Nat} (h : ∀ p ∈ ps, p.pos.length ≤ n) (u : Nat) : (posU ps u).length ≤ n := by
  unfold posU
  split
  · simp
  · split
    · exact h _ (List.getElem_mem _)
    · simp
theorem CurAt.doc_in {w : World} {base q : Nat} {lp : Value} {ps : List PostV} {IM : List UInt8} {u mv : Nat} {told : Bool} (h : CurAt w base q lp ps IM u mv told) : -1 ≤ docU ps u ∧ docU ps u ≤ 2147483647 := by
  obtain ⟨bk, rv, h⟩ := h
  rcases h.ls with ⟨-, h9⟩ | ⟨_, _, _, _, _, _, hok⟩
  · subst h9
    unfold docU
    split
    · omega
    · simp
  · unfold docU
    split
    · omega
    · split
      · rename_i h1 h2
        have := okV_doc hok.ok _ h2
        omega
      · omega
theorem tmod_in (N : Int) : -1000 < N.tmod 1000 ∧ N.tmod 1000 < 1000 := ⟨Int.lt_tmod_of_pos N (by omega), Int.tmod_lt_of_pos N (by omega)⟩
end Go.Proofs.YtaijepjhmjjecaaDoor

/- cursor: two cursors over one list, their calls (for CursorScan). -/
namespace Go.Proofs.YtaijepjhmjjecaaDoor
set_option linter.unusedVariables false
open Go.ChangeShapes Go.WideShapes Go.ChangeAt Go.RowKit

/-- One cursor, its moves bounded, what lies below b0 as it was. -/
structure Sc1 (w X : World) (b0 base q : Nat) (lp : Value) (ps : List PostV) (IM : List UInt8) (u m : Nat) (t : Bool) : Prop where
  cur : CurAt X base q lp ps IM u m t
  cap : m ≤ capU ps u t
  bel : Below b0 w X
  hb : b0 ≤ base
  bz : base ≤ X.heap.size
  wz : b0 ≤ w.heap.size
theorem Sc1.hq {w X : World} {b0 base q : Nat} {lp : Value} {ps : List PostV} {IM : List UInt8} {u m : Nat} {t : Bool} (h : Sc1 w X b0 base q lp ps IM u m t) : b0 ≤ q ∧ q < X.heap.size := by
  obtain ⟨_, _, h1⟩ := h.cur
  exact ⟨Nat.le_trans h.hb h1.hq, lt_of_heap h1.blk⟩
theorem Sc1.moved {w X X' : World} {b0 base q : Nat} {lp : Value} {ps : List PostV} {IM : List UInt8} {u m u' m' : Nat} {t t' : Bool} (h : Sc1 w X b0 base q lp ps IM u m t) (e : Eff (· = q) X X') (hc : CurAt X' base q lp ps IM u' m' t') (hm : m' ≤ capU ps u' t') : Sc1 w X' b0 base q lp ps IM u' m' t' :=
  ⟨hc, hm, h.bel.trans (eff_below e h.hq.1 (Nat.le_trans h.wz h.bel.size)), h.hb, Nat.le_trans h.bz e.size, h.wz⟩
theorem Sc1.other {w X X' : World} {b0 base q q2 base2 : Nat} {lp lp2 : Value} {ps ps2 : List PostV} {IM IM2 : List UInt8} {u m u2 m2 : Nat} {t t2 : Bool} (h : Sc1 w X b0 base q lp ps IM u m t) (h2 : Sc1 w X b0 base2 q2 lp2 ps2 IM2 u2 m2 t2) (hne : q ≠ q2) (e : Eff (· = q2) X X') : Sc1 w X' b0 base q lp ps IM u m t := by
  obtain ⟨cs, hq2⟩ := h2.cur.blk
  exact ⟨h.cur.effT e (by rintro k rfl; exact ⟨cs, _, _, hq2, .inl rfl⟩) hne, h.cap, h.bel.trans (eff_below e h2.hq.1 (Nat.le_trans h.wz h.bel.size)), h.hb, Nat.le_trans h.bz e.size, h.wz⟩
theorem Sc1.below {w X X' : World} {b0 base q : Nat} {lp : Value} {ps : List PostV} {IM : List UInt8} {u m : Nat} {t : Bool} (h : Sc1 w X b0 base q lp ps IM u m t) (hb : Below X.heap.size X X') : Sc1 w X' b0 base q lp ps IM u m t :=
  ⟨h.cur.below hb (Nat.le_refl _), h.cap, h.bel.trans (hb.mono (Nat.le_trans h.wz h.bel.size)), h.hb, Nat.le_trans h.bz hb.size, h.wz⟩
theorem Sc1.small {w X : World} {b0 base q : Nat} {lp : Value} {ps : List PostV} {IM : List UInt8} {u m : Nat} {t : Bool} (h : Sc1 w X b0 base q lp ps IM u m t) (hT : totalV ps ≤ 20000000) : m ≤ 1000000000000000 ∧ u ≤ ps.length + 1 ∧ m ≤ 2 * ps.length + 1 + totalV ps := by
  obtain ⟨h1, -, h3⟩ := h.cur.lens
  have h4 := h.cap
  have h5 := capU_le ps h3 t
  omega
theorem Sc1.doc {w X : World} {b0 base q : Nat} {lp : Value} {ps : List PostV} {IM : List UInt8} {u m : Nat} {t : Bool} (h : Sc1 w X b0 base q lp ps IM u m t) :
    Calls Tryd.prog 30 #[.pointer (some ⟨q, 0, none⟩)] X fun e X' => e = .returned (.int .i64 (docU ps u)) ∧ X = X' := by
  obtain ⟨bk, rv, h1⟩ := h.cur
  exact docB_any X base q lp ps IM _ u m t bk rv h1
theorem Sc1.mov {w X : World} {b0 base q : Nat} {lp : Value} {ps : List PostV} {IM : List UInt8} {u m : Nat} {t : Bool} (h : Sc1 w X b0 base q lp ps IM u m t) :
    Calls Tryd.prog 29 #[.pointer (some ⟨q, 0, none⟩)] X fun e X' => e = .returned (.int .i64 (m : Nat)) ∧ X = X' := by
  obtain ⟨bk, rv, h1⟩ := h.cur
  exact movB_any X base q lp ps IM _ u m t bk rv h1
theorem Sc1.adv {w X : World} {b0 base q : Nat} {lp : Value} {ps : List PostV} {IM : List UInt8} {u m : Nat} {t : Bool} (h : Sc1 w X b0 base q lp ps IM u m t) (hT : totalV ps ≤ 20000000) (T : Int) (EA : Nat → Addr) (hS : Sent6 X EA) :
    Calls Tryd.prog 34 #[.pointer (some ⟨q, 0, none⟩), .int .i64 T] X fun e X' => e = .returned (.int .i64 (docU ps (advU ps u T))) ∧ (∃ m' t', Sc1 w X' b0 base q lp ps IM (advU ps u T) m' t' ∧ m ≤ m') ∧ Eff (· = q) X X' := by
  have hs := h.small hT
  refine (adv_any X base q lp ps IM u m t h.cur h.bz hs.1 T EA hS).mono fun e X' hp => ?_
  obtain ⟨rfl, hc, he⟩ := hp
  refine ⟨rfl, ⟨_, _, h.moved he hc (capU_adv h.cap hs.2.1 T), ?_⟩, he⟩
  split <;> omega
theorem Sc1.next {w X : World} {b0 base q : Nat} {lp : Value} {ps : List PostV} {IM : List UInt8} {u m : Nat} {t : Bool} (h : Sc1 w X b0 base q lp ps IM u m t) (hT : totalV ps ≤ 20000000) (hu : u ≤ ps.length) (EA : Nat → Addr) (hS : Sent6 X EA) :
    Calls Tryd.prog 16 #[.pointer (some ⟨q, 0, none⟩)] X fun e X' => e = .returned (.int .i64 (docU ps (u + 1))) ∧ (∃ m' t', Sc1 w X' b0 base q lp ps IM (u + 1) m' t') ∧ Eff (· = q) X X' := by
  have hs := h.small hT
  have C := next_any X base q lp ps IM u m t h.cur h.bz hs.1 EA hS
  have hk := capU_next h.cap hs.2.1
  rw [if_neg (show ¬ u = ps.length + 1 by omega), if_neg (show ¬ u = ps.length + 1 by omega), if_neg (show ¬ u = ps.length + 1 by omega)] at C hk
  refine C.mono fun e X' hp => ?_
  obtain ⟨rfl, hc, he⟩ := hp
  exact ⟨rfl, ⟨_, _, h.moved he hc hk⟩, he⟩
theorem Sc1.stay {w X : World} {b0 base q : Nat} {lp : Value} {ps : List PostV} {IM : List UInt8} {u m : Nat} {t : Bool} (h : Sc1 w X b0 base q lp ps IM u m t) (hT : totalV ps ≤ 20000000) (hu : u = ps.length + 1) (EA : Nat → Addr) (hS : Sent6 X EA) :
    Calls Tryd.prog 16 #[.pointer (some ⟨q, 0, none⟩)] X fun e X' => e = .returned (.int .i64 2147483647) ∧ Sc1 w X' b0 base q lp ps IM u m t ∧ Eff (· = q) X X' := by
  have hs := h.small hT
  have C := next_any X base q lp ps IM u m t h.cur h.bz hs.1 EA hS
  rw [if_pos hu, if_pos hu, if_pos hu, docU_end (show ps.length < u by omega)] at C
  refine C.mono fun e X' hp => ?_
  obtain ⟨rfl, hc, he⟩ := hp
  exact ⟨rfl, h.moved he hc h.cap, he⟩
theorem Sc1.freq {w X : World} {b0 base q : Nat} {lp : Value} {ps : List PostV} {IM : List UInt8} {u m : Nat} {t : Bool} (h : Sc1 w X b0 base q lp ps IM u m t) (EA : Nat → Addr) (hS : Sent6 X EA) :
    Calls Tryd.prog 17 #[.pointer (some ⟨q, 0, none⟩)] X fun e X' => e = .returned (.int .i64 ((posU ps u).length : Nat)) ∧ Sc1 w X' b0 base q lp ps IM u m t ∧ Eff (· = q) X X' := by
  refine (freq_any X base q lp ps IM u m t h.cur h.bz EA hS).mono fun e X' hp => ?_
  obtain ⟨rfl, hc, he⟩ := hp
  exact ⟨rfl, h.moved he hc h.cap, he⟩
theorem Sc1.posi {w X : World} {b0 base q : Nat} {lp : Value} {ps : List PostV} {IM : List UInt8} {u m : Nat} {t : Bool} (h : Sc1 w X b0 base q lp ps IM u m t) (hT : totalV ps ≤ 20000000) (EA : Nat → Addr) (hS : Sent6 X EA) :
    Calls Tryd.prog 19 #[.pointer (some ⟨q, 0, none⟩)] X fun e X' => ∃ v, e = .returned v ∧ Own X' X.heap.size 3 v (intL (posU ps u)) ∧ (∃ m' t', Sc1 w X' b0 base q lp ps IM u m' t') ∧ Eff (· = q) X X' := by
  have hs := h.small hT
  refine (posi_any X base q lp ps IM u m t h.cur h.bz hs.1 EA hS).mono fun e X' hp => ?_
  obtain ⟨v, rfl, ho, hc, he⟩ := hp
  exact ⟨v, rfl, ho, ⟨_, _, h.moved he hc (capU_posi h.cap)⟩, he⟩
/-- Two of them. -/
def Sc2 (w X : World) (b0 b1 q1 b2 q2 : Nat) (l1 l2 : Value) (ps : List PostV) (IM : List UInt8) (u1 m1 u2 : Nat) : Prop :=
  (∃ t1, Sc1 w X b0 b1 q1 l1 ps IM u1 m1 t1) ∧ (∃ m2 t2, Sc1 w X b0 b2 q2 l2 ps IM u2 m2 t2) ∧ q1 ≠ q2
theorem Sc2.bel {w X : World} {b0 b1 q1 b2 q2 : Nat} {l1 l2 : Value} {ps : List PostV} {IM : List UInt8} {u1 m1 u2 : Nat} (h : Sc2 w X b0 b1 q1 b2 q2 l1 l2 ps IM u1 m1 u2) : Below b0 w X ∧ u1 ≤ ps.length + 1 ∧ u2 ≤ ps.length + 1 := by
  obtain ⟨⟨t1, h1⟩, ⟨m2, t2, h2⟩, h3⟩ := h
  exact ⟨h1.bel, h1.cur.lens.2.2, h2.cur.lens.2.2⟩
theorem Sc2.below {w X X' : World} {b0 b1 q1 b2 q2 : Nat} {l1 l2 : Value} {ps : List PostV} {IM : List UInt8} {u1 m1 u2 : Nat} (h : Sc2 w X b0 b1 q1 b2 q2 l1 l2 ps IM u1 m1 u2) (hb : Below X.heap.size X X') : Sc2 w X' b0 b1 q1 b2 q2 l1 l2 ps IM u1 m1 u2 := by
  obtain ⟨⟨t1, h1⟩, ⟨m2, t2, h2⟩, h3⟩ := h
  exact ⟨⟨t1, h1.below hb⟩, ⟨m2, t2, h2.below hb⟩, h3⟩
section
variable {w X : World} {b0 b1 q1 b2 q2 : Nat} {l1 l2 : Value} {ps : List PostV} {IM : List UInt8} {u1 m1 u2 : Nat}
theorem Sc2.doc1 (h : Sc2 w X b0 b1 q1 b2 q2 l1 l2 ps IM u1 m1 u2) : Calls Tryd.prog 30 #[.pointer (some ⟨q1, 0, none⟩)] X fun e X' => e = .returned (.int .i64 (docU ps u1)) ∧ X = X' := by
  obtain ⟨⟨t1, h1⟩, -⟩ := h
  exact h1.doc
theorem Sc2.doc2 (h : Sc2 w X b0 b1 q1 b2 q2 l1 l2 ps IM u1 m1 u2) : Calls Tryd.prog 30 #[.pointer (some ⟨q2, 0, none⟩)] X fun e X' => e = .returned (.int .i64 (docU ps u2)) ∧ X = X' := by
  obtain ⟨-, ⟨m2, t2, h2⟩, -⟩ := h
  exact h2.doc
theorem Sc2.mov1 (h : Sc2 w X b0 b1 q1 b2 q2 l1 l2 ps IM u1 m1 u2) : Calls Tryd.prog 29 #[.pointer (some ⟨q1, 0, none⟩)] X fun e X' => e = .returned (.int .i64 (m1 : Nat)) ∧ X = X' := by
  obtain ⟨⟨t1, h1⟩, -⟩ := h
  exact h1.mov
theorem Sc2.adv1 (h : Sc2 w X b0 b1 q1 b2 q2 l1 l2 ps IM u1 m1 u2) (hT : totalV ps ≤ 20000000) (T : Int) (EA : Nat → Addr) (hS : Sent6 X EA) :
    Calls Tryd.prog 34 #[.pointer (some ⟨q1, 0, none⟩), .int .i64 T] X fun e X' => e = .returned (.int .i64 (docU ps (advU ps u1 T))) ∧ ∃ m', Sc2 w X' b0 b1 q1 b2 q2 l1 l2 ps IM (advU ps u1 T) m' u2 ∧ m1 ≤ m' := by
  obtain ⟨⟨t1, h1⟩, ⟨m2, t2, h2⟩, h3⟩ := h
  refine (h1.adv hT T EA hS).mono fun e X' hp => ?_
  obtain ⟨rfl, ⟨m', t', h4, h5⟩, he⟩ := hp
  exact ⟨rfl, m', ⟨⟨t', h4⟩, ⟨m2, t2, h2.other h1 (Ne.symm h3) he⟩, h3⟩, h5⟩
theorem Sc2.next2 (h : Sc2 w X b0 b1 q1 b2 q2 l1 l2 ps IM u1 m1 u2) (hT : totalV ps ≤ 20000000) (hu : u2 ≤ ps.length) (EA : Nat → Addr) (hS : Sent6 X EA) :
    Calls Tryd.prog 16 #[.pointer (some ⟨q2, 0, none⟩)] X fun e X' => e = .returned (.int .i64 (docU ps (u2 + 1))) ∧ Sc2 w X' b0 b1 q1 b2 q2 l1 l2 ps IM u1 m1 (u2 + 1) := by
  obtain ⟨⟨t1, h1⟩, ⟨m2, t2, h2⟩, h3⟩ := h
  refine (h2.next hT hu EA hS).mono fun e X' hp => ?_
  obtain ⟨rfl, ⟨m', t', h4⟩, he⟩ := hp
  exact ⟨rfl, ⟨t1, h1.other h2 h3 he⟩, ⟨m', t', h4⟩, h3⟩
theorem Sc2.freq1 (h : Sc2 w X b0 b1 q1 b2 q2 l1 l2 ps IM u1 m1 u2) (EA : Nat → Addr) (hS : Sent6 X EA) :
    Calls Tryd.prog 17 #[.pointer (some ⟨q1, 0, none⟩)] X fun e X' => e = .returned (.int .i64 ((posU ps u1).length : Nat)) ∧ Sc2 w X' b0 b1 q1 b2 q2 l1 l2 ps IM u1 m1 u2 ∧ Eff (· = q1) X X' := by
  obtain ⟨⟨t1, h1⟩, ⟨m2, t2, h2⟩, h3⟩ := h
  refine (h1.freq EA hS).mono fun e X' hp => ?_
  obtain ⟨rfl, h4, he⟩ := hp
  exact ⟨rfl, ⟨⟨t1, h4⟩, ⟨m2, t2, h2.other h1 (Ne.symm h3) he⟩, h3⟩, he⟩
theorem Sc2.freq2 (h : Sc2 w X b0 b1 q1 b2 q2 l1 l2 ps IM u1 m1 u2) (EA : Nat → Addr) (hS : Sent6 X EA) :
    Calls Tryd.prog 17 #[.pointer (some ⟨q2, 0, none⟩)] X fun e X' => e = .returned (.int .i64 ((posU ps u2).length : Nat)) ∧ Sc2 w X' b0 b1 q1 b2 q2 l1 l2 ps IM u1 m1 u2 ∧ Eff (· = q2) X X' := by
  obtain ⟨⟨t1, h1⟩, ⟨m2, t2, h2⟩, h3⟩ := h
  refine (h2.freq EA hS).mono fun e X' hp => ?_
  obtain ⟨rfl, h4, he⟩ := hp
  exact ⟨rfl, ⟨⟨t1, h1.other h2 h3 he⟩, ⟨m2, t2, h4⟩, h3⟩, he⟩
theorem Sc2.posi1 (h : Sc2 w X b0 b1 q1 b2 q2 l1 l2 ps IM u1 m1 u2) (hT : totalV ps ≤ 20000000) (EA : Nat → Addr) (hS : Sent6 X EA) :
    Calls Tryd.prog 19 #[.pointer (some ⟨q1, 0, none⟩)] X fun e X' => ∃ v, e = .returned v ∧ Own X' X.heap.size 3 v (intL (posU ps u1)) ∧ (∃ m', Sc2 w X' b0 b1 q1 b2 q2 l1 l2 ps IM u1 m' u2) ∧ Eff (· = q1) X X' ∧ q1 < X.heap.size := by
  obtain ⟨⟨t1, h1⟩, ⟨m2, t2, h2⟩, h3⟩ := h
  refine (h1.posi hT EA hS).mono fun e X' hp => ?_
  obtain ⟨v, rfl, ho, ⟨m', t', h4⟩, he⟩ := hp
  exact ⟨v, rfl, ho, ⟨m', ⟨t', h4⟩, ⟨m2, t2, h2.other h1 (Ne.symm h3) he⟩, h3⟩, he, h1.hq.2⟩
theorem Sc2.posi2 (h : Sc2 w X b0 b1 q1 b2 q2 l1 l2 ps IM u1 m1 u2) (hT : totalV ps ≤ 20000000) (EA : Nat → Addr) (hS : Sent6 X EA) :
    Calls Tryd.prog 19 #[.pointer (some ⟨q2, 0, none⟩)] X fun e X' => ∃ v, e = .returned v ∧ Own X' X.heap.size 3 v (intL (posU ps u2)) ∧ Sc2 w X' b0 b1 q1 b2 q2 l1 l2 ps IM u1 m1 u2 ∧ Eff (· = q2) X X' ∧ q2 < X.heap.size := by
  obtain ⟨⟨t1, h1⟩, ⟨m2, t2, h2⟩, h3⟩ := h
  refine (h2.posi hT EA hS).mono fun e X' hp => ?_
  obtain ⟨v, rfl, ho, ⟨m', t', h4⟩, he⟩ := hp
  exact ⟨v, rfl, ho, ⟨⟨t1, h1.other h2 h3 he⟩, ⟨m', t', h4⟩, h3⟩, he, h2.hq.2⟩
theorem Sc2.pos (h : Sc2 w X b0 b1 q1 b2 q2 l1 l2 ps IM u1 m1 u2) (u : Nat) : (posU ps u).length ≤ 100000000 := by
  obtain ⟨⟨t1, h1⟩, -⟩ := h
  exact posU_le h1.cur.lens.2.1 u
theorem own_cur1 (hs : Sc2 w X b0 b1 q1 b2 q2 l1 l2 ps IM u1 m1 u2) {X' : World} {base : Nat} {v : Value} {xs : List Value} (h : Own X base 3 v xs) (e : Eff (· = q1) X X') : Own X' base 3 v xs := by
  obtain ⟨⟨t1, h1⟩, -⟩ := hs
  obtain ⟨cs, hq⟩ := h1.cur.blk
  exact h.eff e (fun k hk e9 => h.ne_type (e9 ▸ hq) (by decide) hk)
theorem own_cur2 (hs : Sc2 w X b0 b1 q1 b2 q2 l1 l2 ps IM u1 m1 u2) {X' : World} {base : Nat} {v : Value} {xs : List Value} (h : Own X base 3 v xs) (e : Eff (· = q2) X X') : Own X' base 3 v xs := by
  obtain ⟨-, ⟨m2, t2, h2⟩, -⟩ := hs
  obtain ⟨cs, hq⟩ := h2.cur.blk
  exact h.eff e (fun k hk e9 => h.ne_type (e9 ▸ hq) (by decide) hk)
end
/-- A row of own under a cursor's block. -/
theorem own_curq {w w' : World} {base q : Nat} {v : Value} {xs : List Value} (h : Own w base 3 v xs) (e : Eff (· = q) w w') (hq : q < base) : Own w' base 3 v xs :=
  h.eff e (fun k hk e9 => by have := (h.lt k hk).1; omega)
end Go.Proofs.YtaijepjhmjjecaaDoor
