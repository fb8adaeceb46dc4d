/- Merged: Block, PDocs, Cur, CurH, Fld. -/
import Derived.Test.YtaijepjhmjjecaaDoorZG14
import Derived.Handy
import Derived.Test.YtaijepjhmjjecaaDoorZG5
import Derived.Test.YtaijepjhmjjecaaDoorZG15
/- posts: Block, Skip. -/
namespace Go.Proofs.YtaijepjhmjjecaaDoor
set_option linter.unusedVariables false
open Go.ChangeShapes Go.WideShapes Go.ChangeAt Go.RowKit

set_option maxRecDepth 100000 in
set_option maxHeartbeats 4000000 in
theorem block_any (w : World) (p : Nat) (im : Value) (sa : Option Addr) (sc : Nat) (b : List UInt8) (n t : Nat) (S : List SkV) (cs : List (List PostV)) (B : Nat) (h : ListAt w B p im (.slice sa S.length sc) b n t S) (hok : BlkOk b S cs) (hb : b.length ≤ 1000000000) (k : Nat) (hk : k < S.length) (hk2 : k < cs.length) (EA : Nat → Addr) (hS : Sent6 w EA) :
    Calls Tryd.prog 79 #[.pointer (some ⟨p, 0, none⟩), .int .i64 (k : Nat)] w fun e w' => ∃ A N C vs, e = .returned (.slice A N C) ∧ RowP w' w.heap.size (.slice A N C) cs[k] vs ∧ Below w.heap.size w w' := by
  obtain ⟨o1, o2, o3, -, o5, o6, o7⟩ := hok.at_ k hk hk2
  have hsl := hok.sl
  obtain ⟨ps, hps⟩ : ∃ ps, cs[k] = ps := ⟨_, rfl⟩
  rw [hps] at o1 ⊢
  obtain ⟨x, hx⟩ : ∃ x, S[k] = x := ⟨_, rfl⟩
  rw [hx] at o1 o5 o6 o7
  obtain ⟨la, dc, at_, sz⟩ := x
  simp only at o1 o5 o6 o7
  obtain ⟨PB, hPB⟩ : ∃ PB, (b.drop at_).take sz = PB := ⟨_, rfl⟩
  have hPl : PB.length = sz := by rw [← hPB, List.length_take, List.length_drop]; omega
  rw [hPB] at o1
  obtain ⟨bs, hbs⟩ : ∃ bs, lastS (S.take k) = bs := ⟨_, rfl⟩
  rw [hbs] at o1 o2 o3
  obtain ⟨g, rfl, -, -, hc⟩ := h.sk.at_ k hk
  rw [hx] at hc
  have p3 : w.cell? ⟨p, 3, none⟩ = some (.slice (some ⟨g, 0, none⟩) S.length sc) := blk_cell h.blk 3
  have c1 : w.cell? ⟨g, k * 4 + 1, none⟩ = some (.int .i64 (dc : Nat)) := hc 1 _ rfl
  have t0 : decide (S.length ≤ k) = false := decide_eq_false (by omega)
  have i1 : (k : Int) < (S.length : Int) := by omega
  have hgl : g < w.heap.size := World.block_lt_of_cell? w _ c1
  have hpl := lt_of_heap h.blk
  have hC2 : ∀ W', ListAt W' B p im (.slice (some ⟨g, 0, none⟩) S.length sc) b n t S → Calls Tryd.prog 77 #[.pointer (some ⟨p, 0, none⟩), .int .i64 (k : Nat)] W' fun e w' => ∃ A N C, e = .returned (.slice A N C) ∧ Rd w' (.slice A N C) (bytesV PB) ∧ ListAt w' B p im (.slice (some ⟨g, 0, none⟩) S.length sc) b n t S ∧ Below W'.heap.size W' w' := fun W' ho => by
    have h9 := piece_any W' B p _ _ b n t S ho hb k hk (by omega) (by rw [hx]; simp only; omega)
    rw [hx] at h9
    simp only [hPB] at h9
    refine h9.mono ?_
    rintro e w' ⟨A, N, C, rfl, hrd, hbb⟩
    exact ⟨A, N, C, rfl, hrd, ho.below hbb (Nat.le_refl _), hbb⟩
  have hC3 : ∀ W', ListAt W' B p im (.slice (some ⟨g, 0, none⟩) S.length sc) b n t S → Calls Tryd.prog 78 #[.pointer (some ⟨p, 0, none⟩), .int .i64 (k : Nat)] W' fun e w' => e = .returned (.int .i64 bs) ∧ W' = w' := fun W' ho => by
    have h9 := base_any W' B p _ _ b n t S ho k (Nat.le_of_lt hk) (by omega)
    rw [hbs] at h9
    exact h9
  have hC4 : ∀ W' A N C, Below w.heap.size w W' → Rd W' (.slice A N C) (bytesV PB) → Calls Tryd.prog 76 #[.slice A N C, .int .i64 bs, .int .i64 (dc : Nat)] W' (UnpPost W' bs dc PB) := fun W' A N C ho hrd =>
    unp_any W' A N C PB hrd (by omega) bs o2 o3 dc o7 EA (hS.below ho)
  have HL := Lib.hid h
  have HC2 := Lib.hid hC2
  have HC3 := Lib.hid hC3
  have HC4 := Lib.hid hC4
  have HU := Lib.hid o1
  clear h hok hS hC2 hC3 hC4 o1 o2 o3 o5 o6 o7 hx hps hbs hPB hc hk hk2
  go_enter Tryd.func79, Tryd.ntmps79
  go_upto_region 3 with fail
  go_cut [5, 6] (fun s5 s6 wx => ∃ A N C vs, s5 = .slice A N C ∧ s6 = .bool true ∧ RowP wx w.heap.size (.slice A N C) ps vs ∧ Below w.heap.size w wx)
  case first =>
    have hl0 : ListAt w.drew B p im (.slice (some ⟨g, 0, none⟩) S.length sc) b n t S := HL.out.drewN 1
    have hb0 : Below w.heap.size w w.drew := (Below.refl _ w).drew
    have q3 : w.drew.cell? ⟨p, 3, none⟩ = some (.slice (some ⟨g, 0, none⟩) S.length sc) := p3
    have q1 : w.drew.cell? ⟨g, k * 4 + 1, none⟩ = some (.int .i64 (dc : Nat)) := c1
    go_region_with (first
      | (go_at_call 77; (with_reducible refine (HC2.out _ hl0).mono ?_); rintro e w5 ⟨A5, N5, C5, rfl, hrd5, hl5, hbb5⟩; have q35 := (hbb5.cell (p := ⟨p, 3, none⟩) hpl).trans q3; have q15 := (hbb5.cell (p := ⟨g, k * 4 + 1, none⟩) hgl).trans q1)
      | (go_at_call 78; (first | with_reducible refine (HC3.out _ hl0).mono ?_ | with_reducible refine (HC3.out _ hl5).mono ?_); rintro e w6 ⟨rfl, rfl⟩)
      | (go_at_call 76; (with_reducible refine (HC4.out _ _ _ _ (hb0.trans (hbb5.mono (Nat.le_refl _))) hrd5).mono ?_); rintro e w7 ⟨h7, -⟩; obtain ⟨A7, N7, C7, vs7, rfl, hrow7, hb7⟩ := h7 ps HU.out))
    all_goals
      go_wp2
      go_meet
      exact ⟨A7, N7, C7, vs7, rfl, rfl, hrow7.mono hbb5.size, (hb0.trans (hbb5.mono (Nat.le_refl _))).trans (hb7.mono hbb5.size)⟩
  case rest =>
    obtain ⟨A7, N7, C7, vs7, rfl, rfl, hrow, hbb⟩ := hcut
    have HROW := Lib.hid hrow
    have HBB := Lib.hid hbb
    clear hrow hbb p3 c1 t0 i1
    go_wp2
    go_ret
    exact ⟨_, _, _, _, rfl, HROW.out, HBB.out⟩
theorem block_out (w : World) (p : Nat) (im : Value) (sa : Option Addr) (sc : Nat) (b : List UInt8) (n t : Nat) (S : List SkV) (B : Nat) (h : ListAt w B p im (.slice sa S.length sc) b n t S) (k : Int) (hk : k < 0 ∨ (S.length : Int) ≤ k) :
    Calls Tryd.prog 79 #[.pointer (some ⟨p, 0, none⟩), .int .i64 k] w fun e w' => e = .returned (.slice none 0 0) ∧ w = w' := by
  have p3 : w.cell? ⟨p, 3, none⟩ = some (.slice sa S.length sc) := blk_cell h.blk 3
  by_cases h0 : k < 0
  · have t0 : decide (k < 0) = true := decide_eq_true h0
    clear hk
    go_enter Tryd.func79, Tryd.ntmps79
    go_wp2
    go_ret
    exact ⟨rfl, rfl⟩
  · have t0 : decide (k < 0) = false := decide_eq_false h0
    have t1 : decide ((S.length : Int) ≤ k) = true := decide_eq_true (by omega)
    clear hk
    go_enter Tryd.func79, Tryd.ntmps79
    go_wp2
    go_ret
    exact ⟨rfl, rfl⟩
end Go.Proofs.YtaijepjhmjjecaaDoor

/- posts: Docs, Total, Blocks. -/
namespace Go.Proofs.YtaijepjhmjjecaaDoor
set_option linter.unusedVariables false
open Go.ChangeShapes Go.WideShapes Go.ChangeAt Go.RowKit

theorem docs_any (w : World) (B p : Nat) (im sv : Value) (b : List UInt8) (n t : Nat) (SS : List SkV) (h : ListAt w B p im sv b n t SS) : Calls Tryd.prog 49 #[.pointer (some ⟨p, 0, none⟩)] w fun e w' => e = .returned (.int .i64 (n : Nat)) ∧ w = w' := by
  have c1 : w.cell? ⟨p, 1, none⟩ = some (.int .i64 (n : Nat)) := blk_cell h.blk 1
  go_enter Tryd.func49, Tryd.ntmps49
  go_wp2
  go_ret
  exact ⟨rfl, rfl⟩
theorem total_any (w : World) (B p : Nat) (im sv : Value) (b : List UInt8) (n t : Nat) (SS : List SkV) (h : ListAt w B p im sv b n t SS) : Calls Tryd.prog 69 #[.pointer (some ⟨p, 0, none⟩)] w fun e w' => e = .returned (.int .i64 (t : Nat)) ∧ w = w' := by
  have c1 : w.cell? ⟨p, 2, none⟩ = some (.int .i64 (t : Nat)) := blk_cell h.blk 2
  go_enter Tryd.func69, Tryd.ntmps69
  go_wp2
  go_ret
  exact ⟨rfl, rfl⟩
end Go.Proofs.YtaijepjhmjjecaaDoor

/- cursor: a Cursor in memory. -/
namespace Go.Proofs.YtaijepjhmjjecaaDoor
set_option linter.unusedVariables false
open Go.ChangeShapes Go.WideShapes Go.ChangeAt Go.RowKit

/-- The sentinels' variables lie below a block. -/
def Low6 (b : Nat) : Prop := 0 < b ∧ 1 < b ∧ 2 < b ∧ 3 < b ∧ 4 < b ∧ 9 < b
theorem Sent6.low {w : World} {EA : Nat → Addr} (h : Sent6 w EA) : Low6 w.heap.size :=
  ⟨World.block_lt_of_cell? w _ h.c1, World.block_lt_of_cell? w _ h.c2, World.block_lt_of_cell? w _ h.c3, World.block_lt_of_cell? w _ h.c4, World.block_lt_of_cell? w _ h.c5, World.block_lt_of_cell? w _ h.c10⟩
theorem Sent6.effq {w w' : World} {q b : Nat} {EA : Nat → Addr} (h : Sent6 w EA) (e : Eff (· = q) w w') (hl : Low6 b) (hq : b ≤ q) : Sent6 w' EA := by
  obtain ⟨l1, l2, l3, l4, l5, l10⟩ := hl
  exact ⟨e.cell (p := ⟨0, 0, none⟩) (by show ¬ 0 = q; omega) h.c1, e.cell (p := ⟨1, 0, none⟩) (by show ¬ 1 = q; omega) h.c2, e.cell (p := ⟨2, 0, none⟩) (by show ¬ 2 = q; omega) h.c3, e.cell (p := ⟨3, 0, none⟩) (by show ¬ 3 = q; omega) h.c4,
    e.cell (p := ⟨4, 0, none⟩) (by show ¬ 4 = q; omega) h.c5, e.cell (p := ⟨9, 0, none⟩) (by show ¬ 9 = q; omega) h.c10⟩
theorem RowP.drewN {w : World} {base : Nat} {v : Value} {ps : List PostV} {vs : Nat → Value} (h : RowP w base v ps vs) (d : Nat) : RowP (w.drewN d) base v ps vs :=
  h.eff (F := fun _ => False) ((Eff.refl _ w).drewN d) (fun _ _ f => f)
theorem heap_type {w : World} {g : Nat} {c1 c2 : Array Value} {t1 t2 : TypeId} {f1 f2 : Nat × Nat} (h1 : w.heap[g]? = some (.cells c1 t1 f1)) (h2 : w.heap[g]? = some (.cells c2 t2 f2)) : t1 = t2 := by
  rw [h1] at h2
  injection h2 with h2
  injection h2
/-- An opened list under a change of one block of another type. -/
theorem ListAt.effq {w w' : World} {base p q : Nat} {im sv : Value} {b : List UInt8} {n t : Nat} {SS : List SkV} {cs : Array Value} {T : TypeId} {fr : Nat × Nat} (h : ListAt w base p im sv b n t SS) (e : Eff (· = q) w w') (hq : w.heap[q]? = some (.cells cs T fr)) (n1 : 115 ≠ T) (n2 : 5 ≠ T) (n3 : 117 ≠ T) :
    ListAt w' base p im sv b n t SS :=
  ⟨(e.block p (lt_of_heap h.blk) (fun e9 => n1 (heap_type h.blk (e9 ▸ hq)))).trans h.blk, h.hp, h.img.eff e (fun k hk e9 => h.img.ne_type (e9 ▸ hq) n2 (by rw [hk])), h.sk.eff e (fun k hk e9 => h.sk.ne_type (e9 ▸ hq) n3 (by rw [hk]))⟩
theorem RowP.effq {w w' : World} {base q : Nat} {v : Value} {ps : List PostV} {vs : Nat → Value} {cs : Array Value} {T : TypeId} {fr : Nat × Nat} (h : RowP w base v ps vs) (e : Eff (· = q) w w') (hq : w.heap[q]? = some (.cells cs T fr)) (n1 : 41 ≠ T) (n2 : 3 ≠ T) : RowP w' base v ps vs :=
  h.eff e (fun b hb e9 => by
    subst e9
    rcases hb with hb | ⟨k, hk, hb⟩
    · exact row_ne_type h.row hq n1 hb
    · exact (h.own k hk).ne_type hq n2 hb)
/-- What is known of an opened list of postings. -/
structure LsOk (ps : List PostV) (IM : List UInt8) : Prop where
  ok : okV (-1) ps
  bk : BlkOk IM (skV (-1) (headL ps) (chp ps)) (chp ps)
  im : IM.length ≤ 1000000000
  len : ps.length ≤ 2000000
  pos : ∀ p ∈ ps, p.pos.length ≤ 100000000
/-- The list of a cursor: none, or an opened one. -/
def LsAt (w : World) (base : Nat) (lp : Value) (ps : List PostV) (IM : List UInt8) : Prop :=
  (lp = .pointer none ∧ ps = []) ∨
  ∃ p im sa sc, lp = .pointer (some ⟨p, 0, none⟩) ∧ ListAt w base p im (.slice sa (skV (-1) (headL ps) (chp ps)).length sc) IM ps.length (totalV ps) (skV (-1) (headL ps) (chp ps)) ∧ LsOk ps IM
theorem LsAt.below {B : Nat} {w w' : World} {base : Nat} {lp : Value} {ps : List PostV} {IM : List UInt8} (h : LsAt w base lp ps IM) (hb : Below B w w') (hB : w.heap.size ≤ B) : LsAt w' base lp ps IM := by
  rcases h with h | ⟨p, im, sa, sc, h1, h2, h3⟩
  · exact .inl h
  · exact .inr ⟨p, im, sa, sc, h1, h2.below hb hB, h3⟩
theorem LsAt.effq {w w' : World} {base q : Nat} {lp : Value} {ps : List PostV} {IM : List UInt8} {cs : Array Value} {fr : Nat × Nat} (h : LsAt w base lp ps IM) (e : Eff (· = q) w w') (hq : w.heap[q]? = some (.cells cs 67 fr)) : LsAt w' base lp ps IM := by
  rcases h with h | ⟨p, im, sa, sc, h1, h2, h3⟩
  · exact .inl h
  · exact .inr ⟨p, im, sa, sc, h1, h2.effq e hq (by decide) (by decide) (by decide), h3⟩
/-- The block that a cursor has read. -/
def RdBk (w : World) (base : Nat) (ps : List PostV) (bk : Int) (rv : Value) : Prop :=
  bk = -1 ∨ ∃ (k : Nat) (vs : Nat → Value), bk = (k : Int) ∧ ∃ h : k < (chp ps).length, RowP w base rv (chp ps)[k] vs
theorem RdBk.below {B : Nat} {w w' : World} {base : Nat} {ps : List PostV} {bk : Int} {rv : Value} (h : RdBk w base ps bk rv) (hb : Below B w w') (hB : w.heap.size ≤ B) : RdBk w' base ps bk rv := by
  rcases h with h | ⟨k, vs, h1, h2, h3⟩
  · exact .inl h
  · exact .inr ⟨k, vs, h1, h2, h3.below hb hB⟩
theorem RdBk.effq {w w' : World} {base q : Nat} {ps : List PostV} {bk : Int} {rv : Value} {cs : Array Value} {fr : Nat × Nat} (h : RdBk w base ps bk rv) (e : Eff (· = q) w w') (hq : w.heap[q]? = some (.cells cs 67 fr)) : RdBk w' base ps bk rv := by
  rcases h with h | ⟨k, vs, h1, h2, h3⟩
  · exact .inl h
  · exact .inr ⟨k, vs, h1, h2, h3.effq e hq (by decide) (by decide)⟩
/-- The cells of a cursor. -/
def curC (d : Int) (mv : Nat) (lp : Value) (pl bk : Int) (rv : Value) (told : Bool) : Array Value := #[.int .i64 d, .int .i64 (mv : Nat), lp, .int .i64 pl, .int .i64 bk, rv, .bool told]
/-- A cursor at block q that shows document d, stands at the place u - 1. -/
structure CurB (w : World) (base q : Nat) (lp : Value) (ps : List PostV) (IM : List UInt8) (d : Int) (u mv : Nat) (told : Bool) (bk : Int) (rv : Value) : Prop where
  blk : w.heap[q]? = some (.cells (curC d mv lp ((u : Int) - 1) bk rv told) 67 (0, 0))
  hq : base ≤ q
  lo : Low6 base
  hu : u ≤ ps.length + 1
  ls : LsAt w base lp ps IM
  rd : RdBk w base ps bk rv
  sl : ∃ A N C, rv = .slice A N C
theorem CurB.below {B : Nat} {w w' : World} {base q : Nat} {lp : Value} {ps : List PostV} {IM : List UInt8} {d : Int} {u mv : Nat} {told : Bool} {bk : Int} {rv : Value} (h : CurB w base q lp ps IM d u mv told bk rv) (hb : Below B w w') (hB : w.heap.size ≤ B) : CurB w' base q lp ps IM d u mv told bk rv :=
  ⟨(hb.block q (Nat.lt_of_lt_of_le (lt_of_heap h.blk) hB)).trans h.blk, h.hq, h.lo, h.hu, h.ls.below hb hB, h.rd.below hb hB, h.sl⟩
/-- Its cells turned. -/
theorem CurB.turn {w w' : World} {base q : Nat} {lp : Value} {ps : List PostV} {IM : List UInt8} {d d' : Int} {u u' mv mv' : Nat} {told told' : Bool} {bk : Int} {rv : Value} (h : CurB w base q lp ps IM d u mv told bk rv) (e : Eff (· = q) w w') (hb : w'.heap[q]? = some (.cells (curC d' mv' lp ((u' : Int) - 1) bk rv told') 67 (0, 0))) (hu : u' ≤ ps.length + 1) :
    CurB w' base q lp ps IM d' u' mv' told' bk rv :=
  ⟨hb, h.hq, h.lo, hu, h.ls.effq e h.blk, h.rd.effq e h.blk, h.sl⟩
/-- A block read anew. -/
theorem CurB.read {w w' : World} {base q : Nat} {lp : Value} {ps : List PostV} {IM : List UInt8} {d : Int} {u mv : Nat} {told : Bool} {bk : Int} {rv : Value} (h : CurB w base q lp ps IM d u mv told bk rv) (e : Eff (· = q) w w') {bk' : Int} {A : Option Addr} {N C : Nat} (hb : w'.heap[q]? = some (.cells (curC d mv lp ((u : Int) - 1) bk' (.slice A N C) told) 67 (0, 0))) (hr : RdBk w' base ps bk' (.slice A N C)) :
    CurB w' base q lp ps IM d u mv told bk' (.slice A N C) :=
  ⟨hb, h.hq, h.lo, h.hu, h.ls.effq e h.blk, hr, ⟨_, _, _, rfl⟩⟩
/-- A cursor as its methods leave it. -/
def CurAt (w : World) (base q : Nat) (lp : Value) (ps : List PostV) (IM : List UInt8) (u mv : Nat) (told : Bool) : Prop := ∃ bk rv, CurB w base q lp ps IM (docU ps u) u mv told bk rv
theorem CurAt.below {B : Nat} {w w' : World} {base q : Nat} {lp : Value} {ps : List PostV} {IM : List UInt8} {u mv : Nat} {told : Bool} (h : CurAt w base q lp ps IM u mv told) (hb : Below B w w') (hB : w.heap.size ≤ B) : CurAt w' base q lp ps IM u mv told := by
  obtain ⟨bk, rv, h⟩ := h
  exact ⟨bk, rv, h.below hb hB⟩
/-- Another cursor's block turned. -/
theorem CurB.other {w w' : World} {base q q2 : Nat} {lp : Value} {ps : List PostV} {IM : List UInt8} {d : Int} {u mv : Nat} {told : Bool} {bk : Int} {rv : Value} {cs : Array Value} {fr : Nat × Nat} (h : CurB w base q lp ps IM d u mv told bk rv) (e : Eff (· = q2) w w') (hq : w.heap[q2]? = some (.cells cs 67 fr)) (hne : q ≠ q2) : CurB w' base q lp ps IM d u mv told bk rv :=
  ⟨(e.block q (lt_of_heap h.blk) hne).trans h.blk, h.hq, h.lo, h.hu, h.ls.effq e hq, h.rd.effq e hq, h.sl⟩
end Go.Proofs.YtaijepjhmjjecaaDoor

/- cursor: Docs, Total, Doc, Moves, here of a Cursor (printed by wip/gen_here.py). -/
namespace Go.Proofs.YtaijepjhmjjecaaDoor
set_option linter.unusedVariables false
open Go.ChangeShapes Go.WideShapes Go.ChangeAt Go.RowKit

theorem chp_at {ps : List PostV} {p : Nat} (h : p < ps.length) : ∃ (hk : p / 16 < (chp ps).length) (hj : p % 16 < ((chp ps)[p / 16]).length), ((chp ps)[p / 16])[p % 16] = ps[p] := by
  obtain ⟨q1, q2, q3, q4⟩ := chp_flat _ ps (Nat.le_refl _)
  have hk : p / 16 < (chp ps).length := by omega
  have hg := chp_get (p / 16) ps hk
  have hj : p % 16 < ((chp ps)[p / 16]).length := by rw [hg, List.length_take, List.length_drop]; omega
  refine ⟨hk, hj, ?_⟩
  have e : ((ps.drop (16 * (p / 16))).take 16)[p % 16]'(by rw [← hg]; exact hj) = ps[p] := by
    rw [List.getElem_take, List.getElem_drop]
    congr 1
    omega
  rw [← e]
  congr 1
theorem chp_at2 {ps : List PostV} {p k j : Nat} (h : p < ps.length) (hk : p / 16 = k) (hj : p % 16 = j) : ∃ ck, (∃ hk : k < (chp ps).length, (chp ps)[k] = ck) ∧ ∃ hj : j < ck.length, ck[j] = ps[p] := by
  subst hk hj
  obtain ⟨hk, hj, hx⟩ := chp_at h
  exact ⟨_, ⟨hk, rfl⟩, hj, hx⟩
theorem docsC_any (w : World) (base q : Nat) (lp : Value) (ps : List PostV) (IM : List UInt8) (d : Int) (u mv : Nat) (told : Bool) (bk : Int) (rv : Value) (h : CurB w base q lp ps IM d u mv told bk rv) :
    Calls Tryd.prog 20 #[.pointer (some ⟨q, 0, none⟩)] w fun e w' => e = .returned (.int .i64 (ps.length : Nat)) ∧ w = w' := by
  have c2 : w.cell? ⟨q, 2, none⟩ = some lp := blk_cell h.blk 2
  rcases h.ls with ⟨rfl, rfl⟩ | ⟨p, im, sa, sc, rfl, hl, hok⟩
  · go_enter Tryd.func20, Tryd.ntmps20
    go_wp2
    go_ret
    exact ⟨rfl, rfl⟩
  · have D1 := docs_any w _ p im _ _ _ _ _ hl
    go_enter Tryd.func20, Tryd.ntmps20
    go_wp2_with fail
    with_reducible refine D1.mono ?_
    rintro e w1 ⟨rfl, rfl⟩
    go_wp2
    go_ret
    exact ⟨rfl, rfl⟩
theorem totC_any (w : World) (base q : Nat) (lp : Value) (ps : List PostV) (IM : List UInt8) (d : Int) (u mv : Nat) (told : Bool) (bk : Int) (rv : Value) (h : CurB w base q lp ps IM d u mv told bk rv) :
    Calls Tryd.prog 33 #[.pointer (some ⟨q, 0, none⟩)] w fun e w' => e = .returned (.int .i64 (totalV ps : Nat)) ∧ w = w' := by
  have c2 : w.cell? ⟨q, 2, none⟩ = some lp := blk_cell h.blk 2
  rcases h.ls with ⟨rfl, rfl⟩ | ⟨p, im, sa, sc, rfl, hl, hok⟩
  · go_enter Tryd.func33, Tryd.ntmps33
    go_wp2
    go_ret
    exact ⟨rfl, rfl⟩
  · have D1 := total_any w _ p im _ _ _ _ _ hl
    go_enter Tryd.func33, Tryd.ntmps33
    go_wp2_with fail
    with_reducible refine D1.mono ?_
    rintro e w1 ⟨rfl, rfl⟩
    go_wp2
    go_ret
    exact ⟨rfl, rfl⟩
theorem docB_any (w : World) (base q : Nat) (lp : Value) (ps : List PostV) (IM : List UInt8) (d : Int) (u mv : Nat) (told : Bool) (bk : Int) (rv : Value) (h : CurB w base q lp ps IM d u mv told bk rv) :
    Calls Tryd.prog 30 #[.pointer (some ⟨q, 0, none⟩)] w fun e w' => e = .returned (.int .i64 d) ∧ w = w' := by
  have c0 : w.cell? ⟨q, 0, none⟩ = some (.int .i64 d) := blk_cell h.blk 0
  clear h
  go_enter Tryd.func30, Tryd.ntmps30
  go_wp2
  go_ret
  exact ⟨rfl, rfl⟩
theorem movB_any (w : World) (base q : Nat) (lp : Value) (ps : List PostV) (IM : List UInt8) (d : Int) (u mv : Nat) (told : Bool) (bk : Int) (rv : Value) (h : CurB w base q lp ps IM d u mv told bk rv) :
    Calls Tryd.prog 29 #[.pointer (some ⟨q, 0, none⟩)] w fun e w' => e = .returned (.int .i64 (mv : Nat)) ∧ w = w' := by
  have c0 : w.cell? ⟨q, 1, none⟩ = some (.int .i64 (mv : Nat)) := blk_cell h.blk 1
  clear h
  go_enter Tryd.func29, Tryd.ntmps29
  go_wp2
  go_ret
  exact ⟨rfl, rfl⟩
/-- What here answers and leaves. -/
def HereP (w : World) (base q : Nat) (lp : Value) (ps : List PostV) (IM : List UInt8) (d : Int) (u mv : Nat) (told : Bool) (bk : Int) (rv : Value) (x : PostV) (e : Ending) (w' : World) : Prop :=
  ∃ A C, e = .returned (.agg #[.int .i64 x.doc, .slice A x.pos.length C]) ∧ Rd w' (.slice A x.pos.length C) (intL x.pos) ∧ (∃ bk' rv', CurB w' base q lp ps IM d u mv told bk' rv' ∧ ((bk' = bk ∧ rv' = rv) ∨ RdBk w' w.heap.size ps bk' rv')) ∧ Eff (· = q) w w'
set_option maxRecDepth 100000 in
set_option maxHeartbeats 4000000 in
theorem here_any (w : World) (base q : Nat) (lp : Value) (ps : List PostV) (IM : List UInt8) (d : Int) (u mv : Nat) (told : Bool) (bk : Int) (rv : Value) (h : CurB w base q lp ps IM d u mv told bk rv) (hbz : base ≤ w.heap.size) (p : Nat) (hp : p < ps.length) (EA : Nat → Addr) (hS : Sent6 w EA) :
    Calls Tryd.prog 48 #[.pointer (some ⟨q, 0, none⟩), .int .i64 (p : Nat)] w (HereP w base q lp ps IM d u mv told bk rv ps[p]) := by
  obtain ⟨k, hke⟩ : ∃ k, p / 16 = k := ⟨_, rfl⟩
  obtain ⟨j, hje⟩ : ∃ j, p % 16 = j := ⟨_, rfl⟩
  have hdiv : (p : Int) / 16 = (k : Int) := by omega
  have hmod : (p : Int) % 16 = (j : Int) := by omega
  obtain ⟨ck, ⟨hk, hck⟩, hj, hx⟩ := chp_at2 hp hke hje
  have hlen : ps.length ≤ 2000000 := by
    rcases h.ls with ⟨-, h9⟩ | ⟨_, _, _, _, _, _, hok⟩
    · subst h9; simp at hp
    · exact hok.len
  have hw64 : wrap64 (k : Int) = (k : Int) := wrap64_nat k (by omega)
  obtain ⟨x, hxe⟩ : ∃ x, ps[p] = x := ⟨_, rfl⟩
  rw [hxe] at hx ⊢
  have hbA : Below w.heap.size w (w.alloc (.cells #[.int .i64 0, .slice none 0 0] 41)) := (Below.refl _ w).alloc (Nat.le_refl _) _
  have hS1 := hS.below hbA
  have hr1 := heap_alloc_new w (.cells #[.int .i64 0, .slice none 0 0] 41)
  have hqw : q < w.heap.size := lt_of_heap h.blk
  have hq1 := (hbA.block q hqw).trans h.blk
  have hz1 : (w.alloc (.cells #[.int .i64 0, .slice none 0 0] 41)).heap.size = w.heap.size + 1 := World.size_alloc _ _
  have H0 := Lib.hid h
  have HS1 := Lib.hid hS1
  have HB1 := Lib.hid hbA
  have HR1 := Lib.hid hr1
  have HQ1 := Lib.hid hq1
  have HX := Lib.hid hx
  have HCK := Lib.hid hck
  have HXE := Lib.hid hxe
  have HZ1 := Lib.hid hz1
  clear h hS hbA hS1 hr1 hq1 hx hck hxe hke hje hz1
  go_enter Tryd.func48, Tryd.ntmps48
  go_upto_region 1 with fail
  generalize w.alloc (.cells #[.int .i64 0, .slice none 0 0] 41) = w1 at HS1 HB1 HR1 HQ1 HZ1 ⊢
  obtain ⟨RG, hRG⟩ : ∃ RG, w.heap.size = RG := ⟨_, rfl⟩
  rw [hRG] at HR1 hqw HZ1 ⊢
  have HRG := Lib.hid hRG
  clear hRG
  have c4 : w1.cell? ⟨q, 4, none⟩ = some (.int .i64 bk) := blk_cell HQ1.out 4
  have r0 : w1.cell? ⟨RG, 0, none⟩ = some (.int .i64 0) := blk_cell HR1.out 0
  have r1 : w1.cell? ⟨RG, 1, none⟩ = some (.slice none 0 0) := blk_cell HR1.out 1
  have f0 := blk_frozen HR1.out 0
  have y0 : (w1.cell? ⟨RG, 0, none⟩).isSome = true := by rw [r0]; rfl
  have y1 : (w1.cell? ⟨RG, 1, none⟩).isSome = true := by rw [r1]; rfl
  have f1 := blk_frozen HR1.out 1
  by_cases hbk : bk = (k : Int)
  · subst hbk
    have hrow : ∃ vs, RowP w base rv ck vs := by
      rcases H0.out.rd with h9 | ⟨k', vs, h9, hk', hrow⟩
      · omega
      · obtain rfl : k = k' := by omega
        have := HCK.out
        rw [this] at hrow
        exact ⟨vs, hrow⟩
    obtain ⟨vs, hrow⟩ := hrow
    obtain ⟨A9, C9, rfl, -, -⟩ := hrow.sl
    have hrow1 := hrow.below HB1.out (Nat.le_refl _)
    obtain ⟨g, rfl, -, -, x0, x1, -⟩ := hrow1.at_ j hj
    have hov := hrow1.own j hj
    obtain ⟨AV, CV, hvv⟩ := own_slice hov
    rw [HX.out] at hov
    have hxd : ck[j].doc = x.doc := by rw [HX.out]
    have hxp : ck[j].pos = x.pos := by rw [HX.out]
    rw [intL_length, hxp] at hvv
    rw [hvv] at x1 hov
    rw [hxd] at x0
    obtain ⟨doc, pos⟩ := x
    simp only at x0 x1 hov hvv
    have c5 : w1.cell? ⟨q, 5, none⟩ = some (.slice (some ⟨g, 0, none⟩) ck.length C9) := blk_cell HQ1.out 5
    have t1 : (((k : Int)) != (k : Int)) = false := by simp
    have i1 : (j : Int) < (ck.length : Int) := by omega
    have hfin : ∀ (W2 : World), Eff (· = RG) w1 W2 → HereP w base q lp ps IM d u mv told (k : Int) (.slice (some ⟨g, 0, none⟩) ck.length C9) ⟨doc, pos⟩ (.returned (.agg #[.int .i64 doc, .slice AV pos.length CV])) W2 := fun W2 e2 => by
      have hrg := HRG.out
      have e9 : Eff (· = q) w W2 := (Eff.of_below HB1.out _).trans e2 (fun i hi hl => by omega)
      exact ⟨AV, CV, rfl, (hov.eff e2 (fun b hb e9 => hov.ne_type (e9 ▸ HR1.out) (by decide) hb)).rd, ⟨_, _, H0.out.turn e9 ((e2.block q (lt_of_heap HQ1.out) (by omega)).trans HQ1.out) H0.out.hu, .inl ⟨rfl, rfl⟩⟩, e9⟩
    have HFIN := Lib.hid hfin
    clear hov hvv hfin hrow hrow1 hxd hxp
    go_wp2
    have zc0 : (w1.setCell ⟨RG, 0, none⟩ (.int .i64 doc)).cell? ⟨RG, 0, none⟩ = some (.int .i64 doc) := World.cell?_setCell_same _ _ _ r0
    have zc1 : ((w1.setCell ⟨RG, 0, none⟩ (.int .i64 doc)).setCell ⟨RG, 1, none⟩ (.slice AV pos.length CV)).cell? ⟨RG, 1, none⟩ = some (.slice AV pos.length CV) := World.cell?_setCell_same _ _ _ ((World.cell?_setCell_other _ _ _ _ (by simp)).trans r1)
    try simp only [Exit.inBlock, Exit.then]
    refine bodyPost_ret (by simp [results, Tryd.results48, go_sem, zc0, zc1]; try rfl) rfl ?_
    exact HFIN.out _ (Eff.setCell (F := fun i => i = RG) (Eff.setCell (F := fun i => i = RG) (Eff.refl _ _) (p := ⟨RG, 0, none⟩) (fun _ => rfl) _) (p := ⟨RG, 1, none⟩) (fun _ => rfl) _)
  · have hls := H0.out.ls
    rcases hls with ⟨-, h9⟩ | ⟨pl, im, sa, sc, hlp, hl, hok⟩
    · subst h9; simp at hp
    subst hlp
    have c1 : w1.cell? ⟨q, 2, none⟩ = some (.pointer (some ⟨pl, 0, none⟩)) := blk_cell HQ1.out 2
    have t1 : (bk != (k : Int)) = true := by simp; omega
    have hl1 := hl.below HB1.out (Nat.le_refl _)
    have D1 := block_any w1 pl im sa sc IM _ _ _ (chp ps) base hl1 hok.bk hok.im k (by rw [skV_len]; exact hk) hk EA HS1.out
    rw [HCK.out] at D1
    clear hl hl1 hok hbk
    go_wp2_with fail
    with_reducible refine D1.mono ?_
    rintro e w2 ⟨A2, N2, C2, vs, rfl, hrow2, hb2⟩
    clear D1 c4 c1 t1 r0 r1 f0 f1 y0 y1
    obtain rfl : N2 = ck.length := by obtain ⟨_, _, e, _⟩ := hrow2.sl; injection e
    have hq2 := (hb2.block q (lt_of_heap HQ1.out)).trans HQ1.out
    have hr2 := (hb2.block RG (lt_of_heap HR1.out)).trans HR1.out
    have hq3 := blk_set hq2 4 (.int .i64 (k : Nat))
    have hq4 := blk_set hq3 5 (.slice A2 ck.length C2)
    have e4 : Eff (· = q) w2 ((w2.setCell ⟨q, 4, none⟩ (.int .i64 (k : Nat))).setCell ⟨q, 5, none⟩ (.slice A2 ck.length C2)) := Eff.setCell (F := fun i => i = q) (Eff.setCell (F := fun i => i = q) (Eff.refl _ w2) (p := ⟨q, 4, none⟩) (fun _ => rfl) _) (p := ⟨q, 5, none⟩) (fun _ => rfl) _
    have cq4 := blk_cell hq2 4
    have cq5 := blk_cell hq2 5
    have fq4 := blk_frozen hq2 4
    have fq5 := blk_frozen hq3 5
    have hz1 := HZ1.out
    have hrow4 := hrow2.eff e4 (fun b hb e => by have := (hrow2.ge b hb).1; omega)
    have hr4 : ((w2.setCell ⟨q, 4, none⟩ (.int .i64 (k : Nat))).setCell ⟨q, 5, none⟩ (.slice A2 ck.length C2)).heap[RG]? = _ := (e4.block RG (lt_of_heap hr2) (by omega)).trans hr2
    have hrb : RdBk ((w2.setCell ⟨q, 4, none⟩ (.int .i64 (k : Nat))).setCell ⟨q, 5, none⟩ (.slice A2 ck.length C2)) base ps (k : Int) (.slice A2 ck.length C2) := .inr ⟨k, vs, rfl, hk, by rw [HCK.out]; exact hrow4.mono (by have := HRG.out; omega)⟩
    have e04 : Eff (· = q) w ((w2.setCell ⟨q, 4, none⟩ (.int .i64 (k : Nat))).setCell ⟨q, 5, none⟩ (.slice A2 ck.length C2)) := (Eff.of_below (HB1.out.trans (hb2.mono (by have := HRG.out; omega))) _).trans e4 (fun i hi hl => hi)
    have hge : ∀ b, RowB (.slice A2 ck.length C2) ck.length vs b → RG < b := fun b hb => by have := (hrow2.ge b hb).1; omega
    have H04 := Lib.hid e04
    have HROW4 := Lib.hid hrow4
    have HR4 := Lib.hid hr4
    have HQ4 := Lib.hid hq4
    have HGE := Lib.hid hge
    clear hrow2 hb2 hq2 hr2 hq3 hq4 e4 hrow4 hr4 hrb e04 hge hz1
    go_upto_region 4 with fail
    generalize (w2.setCell ⟨q, 4, none⟩ (.int .i64 (k : Nat))).setCell ⟨q, 5, none⟩ (.slice A2 ck.length C2) = w4 at H04 HROW4 HR4 HQ4 ⊢
    clear cq4 cq5 fq4 fq5
    obtain ⟨g, rfl, -, -, x0, x1, -⟩ := HROW4.out.at_ j hj
    have hov := HROW4.out.own j hj
    obtain ⟨AV, CV, hvv⟩ := own_slice hov
    rw [HX.out] at hov
    have hxd : ck[j].doc = x.doc := by rw [HX.out]
    have hxp : ck[j].pos = x.pos := by rw [HX.out]
    rw [intL_length, hxp] at hvv
    rw [hvv] at x1 hov
    rw [hxd] at x0
    obtain ⟨doc, pos⟩ := x
    simp only at x0 x1 hov hvv
    have c5 : w4.cell? ⟨q, 5, none⟩ = some (.slice (some ⟨g, 0, none⟩) ck.length C2) := blk_cell HQ4.out 5
    have r0 : w4.cell? ⟨RG, 0, none⟩ = some (.int .i64 0) := blk_cell HR4.out 0
    have r1 : w4.cell? ⟨RG, 1, none⟩ = some (.slice none 0 0) := blk_cell HR4.out 1
    have f0 := blk_frozen HR4.out 0
    have y0 : (w4.cell? ⟨RG, 0, none⟩).isSome = true := by rw [r0]; rfl
    have y1 : (w4.cell? ⟨RG, 1, none⟩).isSome = true := by rw [r1]; rfl
    have f1 := blk_frozen HR4.out 1
    have i1 : (j : Int) < (ck.length : Int) := by omega
    have hfin : ∀ (W2 : World), Eff (· = RG) w4 W2 → HereP w base q (.pointer (some ⟨pl, 0, none⟩)) ps IM d u mv told bk rv ⟨doc, pos⟩ (.returned (.agg #[.int .i64 doc, .slice AV pos.length CV])) W2 := fun W2 e2 => by
      have hrg := HRG.out
      have e9 : Eff (· = q) w W2 := H04.out.trans e2 (fun i hi hl => by omega)
      have hq9 := (e2.block q (lt_of_heap HQ4.out) (by omega)).trans HQ4.out
      have hrow9 := HROW4.out.eff e2 (fun b hb e => by have := HGE.out b hb; omega)
      exact ⟨AV, CV, rfl, (hov.eff e2 (fun b hb e9 => hov.ne_type (e9 ▸ HR4.out) (by decide) hb)).rd, ⟨_, _, H0.out.read e9 hq9 (.inr ⟨k, vs, rfl, hk, by rw [HCK.out]; exact hrow9.mono (by have := HZ1.out; omega)⟩), .inr (.inr ⟨k, vs, rfl, hk, by rw [HCK.out]; exact hrow9.mono (by have := HZ1.out; omega)⟩)⟩, e9⟩
    have HFIN := Lib.hid hfin
    clear hov hvv hfin hxd hxp
    go_wp2
    have zc0 : (w4.setCell ⟨RG, 0, none⟩ (.int .i64 doc)).cell? ⟨RG, 0, none⟩ = some (.int .i64 doc) := World.cell?_setCell_same _ _ _ r0
    have zc1 : ((w4.setCell ⟨RG, 0, none⟩ (.int .i64 doc)).setCell ⟨RG, 1, none⟩ (.slice AV pos.length CV)).cell? ⟨RG, 1, none⟩ = some (.slice AV pos.length CV) := World.cell?_setCell_same _ _ _ ((World.cell?_setCell_other _ _ _ _ (by simp)).trans r1)
    try simp only [Exit.inBlock, Exit.then]
    refine bodyPost_ret (by simp [results, Tryd.results48, go_sem, zc0, zc1]; try rfl) rfl ?_
    exact HFIN.out _ (Eff.setCell (F := fun i => i = RG) (Eff.setCell (F := fun i => i = RG) (Eff.refl _ _) (p := ⟨RG, 0, none⟩) (fun _ => rfl) _) (p := ⟨RG, 1, none⟩) (fun _ => rfl) _)
end Go.Proofs.YtaijepjhmjjecaaDoor

/- A field of a posting's value. -/
namespace Go.Proofs.YtaijepjhmjjecaaDoor
open Go.ChangeShapes Go.WideShapes Go.ChangeAt Go.RowKit
@[go_sem high] theorem fld0 (d : Int) (A : Option Addr) (n c : Nat) (w : World) : (Instr.field 41 (.agg #[.int .i64 d, .slice A n c]) 0).run Tryd.prog w = .ok (.int .i64 d) w := by
  simp [Instr.field, go_sem, asAgg]
@[go_sem high] theorem fld1 (d : Int) (A : Option Addr) (n c : Nat) (w : World) : (Instr.field 41 (.agg #[.int .i64 d, .slice A n c]) 1).run Tryd.prog w = .ok (.slice A n c) w := by
  simp [Instr.field, go_sem, asAgg]
end Go.Proofs.YtaijepjhmjjecaaDoor
