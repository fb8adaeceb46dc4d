/- Merged: CurH, Fld. -/
import Derived.Test.YtaijepjhmjjecaaDoorZG17
import Derived.Handy
/- cursor: Docs, Total, Doc, Moves, here of a Cursor (printed by wip/gen_here.py). -/
namespace Go.Proofs.YtaijepjhmjjecaaDoor
set_option linter.unusedVariables false
open Go.ChangeShapes Go.WideShapes Go.ChangeAt Go.RowKit

theorem chp_at {ps : List PostV} {p : Nat} (h : p < ps.length) : ∃ (hk : p / 16 < (chp ps).length) (hj : p % 16 < ((chp ps)[p / 16]).length), ((chp ps)[p / 16])[p % 16] = ps[p] := by
  obtain ⟨q1, q2, q3, q4⟩ := chp_flat _ ps (Nat.le_refl _)
  have hk : p / 16 < (chp ps).length := by omega
  have hg := chp_get (p / 16) ps hk
  have hj : p % 16 < ((chp ps)[p / 16]).length := by rw [hg, List.length_take, List.length_drop]; omega
  refine ⟨hk, hj, ?_⟩
  have e : ((ps.drop (16 * (p / 16))).take 16)[p % 16]'(by rw [← hg]; exact hj) = ps[p] := by
    rw [List.getElem_take, List.getElem_drop]
    congr 1
    omega
  rw [← e]
  congr 1
theorem chp_at2 {ps : List PostV} {p k j : Nat} (h : p < ps.length) (hk : p / 16 = k) (hj : p % 16 = j) : ∃ ck, (∃ hk : k < (chp ps).length, (chp ps)[k] = ck) ∧ ∃ hj : j < ck.length, ck[j] = ps[p] := by
  subst hk hj
  obtain ⟨hk, hj, hx⟩ := chp_at h
  exact ⟨_, ⟨hk, rfl⟩, hj, hx⟩
theorem docsC_any (w : World) (base q : Nat) (lp : Value) (ps : List PostV) (IM : List UInt8) (d : Int) (u mv : Nat) (told : Bool) (bk : Int) (rv : Value) (h : CurB w base q lp ps IM d u mv told bk rv) :
    Calls Tryd.prog 20 #[.pointer (some ⟨q, 0, none⟩)] w fun e w' => e = .returned (.int .i64 (ps.length : Nat)) ∧ w = w' := by
  have c2 : w.cell? ⟨q, 2, none⟩ = some lp := blk_cell h.blk 2
  rcases h.ls with ⟨rfl, rfl⟩ | ⟨p, im, sa, sc, rfl, hl, hok⟩
  · go_enter Tryd.func20, Tryd.ntmps20
    go_wp2
    go_ret
    exact ⟨rfl, rfl⟩
  · have D1 := docs_any w _ p im _ _ _ _ _ hl
    go_enter Tryd.func20, Tryd.ntmps20
    go_wp2_with fail
    with_reducible refine D1.mono ?_
    rintro e w1 ⟨rfl, rfl⟩
    go_wp2
    go_ret
    exact ⟨rfl, rfl⟩
theorem totC_any (w : World) (base q : Nat) (lp : Value) (ps : List PostV) (IM : List UInt8) (d : Int) (u mv : Nat) (told : Bool) (bk : Int) (rv : Value) (h : CurB w base q lp ps IM d u mv told bk rv) :
    Calls Tryd.prog 33 #[.pointer (some ⟨q, 0, none⟩)] w fun e w' => e = .returned (.int .i64 (totalV ps : Nat)) ∧ w = w' := by
  have c2 : w.cell? ⟨q, 2, none⟩ = some lp := blk_cell h.blk 2
  rcases h.ls with ⟨rfl, rfl⟩ | ⟨p, im, sa, sc, rfl, hl, hok⟩
  · go_enter Tryd.func33, Tryd.ntmps33
    go_wp2
    go_ret
    exact ⟨rfl, rfl⟩
  · have D1 := total_any w _ p im _ _ _ _ _ hl
    go_enter Tryd.func33, Tryd.ntmps33
    go_wp2_with fail
    with_reducible refine D1.mono ?_
    rintro e w1 ⟨rfl, rfl⟩
    go_wp2
    go_ret
    exact ⟨rfl, rfl⟩
theorem docB_any (w : World) (base q : Nat) (lp : Value) (ps : List PostV) (IM : List UInt8) (d : Int) (u mv : Nat) (told : Bool) (bk : Int) (rv : Value) (h : CurB w base q lp ps IM d u mv told bk rv) :
    Calls Tryd.prog 30 #[.pointer (some ⟨q, 0, none⟩)] w fun e w' => e = .returned (.int .i64 d) ∧ w = w' := by
  have c0 : w.cell? ⟨q, 0, none⟩ = some (.int .i64 d) := blk_cell h.blk 0
  clear h
  go_enter Tryd.func30, Tryd.ntmps30
  go_wp2
  go_ret
  exact ⟨rfl, rfl⟩
theorem movB_any (w : World) (base q : Nat) (lp : Value) (ps : List PostV) (IM : List UInt8) (d : Int) (u mv : Nat) (told : Bool) (bk : Int) (rv : Value) (h : CurB w base q lp ps IM d u mv told bk rv) :
    Calls Tryd.prog 29 #[.pointer (some ⟨q, 0, none⟩)] w fun e w' => e = .returned (.int .i64 (mv : Nat)) ∧ w = w' := by
  have c0 : w.cell? ⟨q, 1, none⟩ = some (.int .i64 (mv : Nat)) := blk_cell h.blk 1
  clear h
  go_enter Tryd.func29, Tryd.ntmps29
  go_wp2
  go_ret
  exact ⟨rfl, rfl⟩
/-- What here answers and leaves. -/
def HereP (w : World) (base q : Nat) (lp : Value) (ps : List PostV) (IM : List UInt8) (d : Int) (u mv : Nat) (told : Bool) (bk : Int) (rv : Value) (x : PostV) (e : Ending) (w' : World) : Prop :=
  ∃ A C, e = .returned (.agg #[.int .i64 x.doc, .slice A x.pos.length C]) ∧ Rd w' (.slice A x.pos.length C) (intL x.pos) ∧ (∃ bk' rv', CurB w' base q lp ps IM d u mv told bk' rv' ∧ ((bk' = bk ∧ rv' = rv) ∨ RdBk w' w.heap.size ps bk' rv')) ∧ Eff (· = q) w w'
set_option maxRecDepth 100000 in
set_option maxHeartbeats 4000000 in
theorem here_any (w : World) (base q : Nat) (lp : Value) (ps : List PostV) (IM : List UInt8) (d : Int) (u mv : Nat) (told : Bool) (bk : Int) (rv : Value) (h : CurB w base q lp ps IM d u mv told bk rv) (hbz : base ≤ w.heap.size) (p : Nat) (hp : p < ps.length) (EA : Nat → Addr) (hS : Sent6 w EA) :
    Calls Tryd.prog 48 #[.pointer (some ⟨q, 0, none⟩), .int .i64 (p : Nat)] w (HereP w base q lp ps IM d u mv told bk rv ps[p]) := by
  obtain ⟨k, hke⟩ : ∃ k, p / 16 = k := ⟨_, rfl⟩
  obtain ⟨j, hje⟩ : ∃ j, p % 16 = j := ⟨_, rfl⟩
  have hdiv : (p : Int) / 16 = (k : Int) := by omega
  have hmod : (p : Int) % 16 = (j : Int) := by omega
  obtain ⟨ck, ⟨hk, hck⟩, hj, hx⟩ := chp_at2 hp hke hje
  have hlen : ps.length ≤ 2000000 := by
    rcases h.ls with ⟨-, h9⟩ | ⟨_, _, _, _, _, _, hok⟩
    · subst h9; simp at hp
    · exact hok.len
  have hw64 : wrap64 (k : Int) = (k : Int) := wrap64_nat k (by omega)
  obtain ⟨x, hxe⟩ : ∃ x, ps[p] = x := ⟨_, rfl⟩
  rw [hxe] at hx ⊢
  have hbA : Below w.heap.size w (w.alloc (.cells #[.int .i64 0, .slice none 0 0] 41)) := (Below.refl _ w).alloc (Nat.le_refl _) _
  have hS1 := hS.below hbA
  have hr1 := heap_alloc_new w (.cells #[.int .i64 0, .slice none 0 0] 41)
  have hqw : q < w.heap.size := lt_of_heap h.blk
  have hq1 := (hbA.block q hqw).trans h.blk
  have hz1 : (w.alloc (.cells #[.int .i64 0, .slice none 0 0] 41)).heap.size = w.heap.size + 1 := World.size_alloc _ _
  have H0 := Lib.hid h
  have HS1 := Lib.hid hS1
  have HB1 := Lib.hid hbA
  have HR1 := Lib.hid hr1
  have HQ1 := Lib.hid hq1
  have HX := Lib.hid hx
  have HCK := Lib.hid hck
  have HXE := Lib.hid hxe
  have HZ1 := Lib.hid hz1
  clear h hS hbA hS1 hr1 hq1 hx hck hxe hke hje hz1
  go_enter Tryd.func48, Tryd.ntmps48
  go_upto_region 1 with fail
  generalize w.alloc (.cells #[.int .i64 0, .slice none 0 0] 41) = w1 at HS1 HB1 HR1 HQ1 HZ1 ⊢
  obtain ⟨RG, hRG⟩ : ∃ RG, w.heap.size = RG := ⟨_, rfl⟩
  rw [hRG] at HR1 hqw HZ1 ⊢
  have HRG := Lib.hid hRG
  clear hRG
  have c4 : w1.cell? ⟨q, 4, none⟩ = some (.int .i64 bk) := blk_cell HQ1.out 4
  have r0 : w1.cell? ⟨RG, 0, none⟩ = some (.int .i64 0) := blk_cell HR1.out 0
  have r1 : w1.cell? ⟨RG, 1, none⟩ = some (.slice none 0 0) := blk_cell HR1.out 1
  have f0 := blk_frozen HR1.out 0
  have y0 : (w1.cell? ⟨RG, 0, none⟩).isSome = true := by rw [r0]; rfl
  have y1 : (w1.cell? ⟨RG, 1, none⟩).isSome = true := by rw [r1]; rfl
  have f1 := blk_frozen HR1.out 1
  by_cases hbk : bk = (k : Int)
  · subst hbk
    have hrow : ∃ vs, RowP w base rv ck vs := by
      rcases H0.out.rd with h9 | ⟨k', vs, h9, hk', hrow⟩
      · omega
      · obtain rfl : k = k' := by omega
        have := HCK.out
        rw [this] at hrow
        exact ⟨vs, hrow⟩
    obtain ⟨vs, hrow⟩ := hrow
    obtain ⟨A9, C9, rfl, -, -⟩ := hrow.sl
    have hrow1 := hrow.below HB1.out (Nat.le_refl _)
    obtain ⟨g, rfl, -, -, x0, x1, -⟩ := hrow1.at_ j hj
    have hov := hrow1.own j hj
    obtain ⟨AV, CV, hvv⟩ := own_slice hov
    rw [HX.out] at hov
    have hxd : ck[j].doc = x.doc := by rw [HX.out]
    have hxp : ck[j].pos = x.pos := by rw [HX.out]
    rw [intL_length, hxp] at hvv
    rw [hvv] at x1 hov
    rw [hxd] at x0
    obtain ⟨doc, pos⟩ := x
    simp only at x0 x1 hov hvv
    have c5 : w1.cell? ⟨q, 5, none⟩ = some (.slice (some ⟨g, 0, none⟩) ck.length C9) := blk_cell HQ1.out 5
    have t1 : (((k : Int)) != (k : Int)) = false := by simp
    have i1 : (j : Int) < (ck.length : Int) := by omega
    have hfin : ∀ (W2 : World), Eff (· = RG) w1 W2 → HereP w base q lp ps IM d u mv told (k : Int) (.slice (some ⟨g, 0, none⟩) ck.length C9) ⟨doc, pos⟩ (.returned (.agg #[.int .i64 doc, .slice AV pos.length CV])) W2 := fun W2 e2 => by
      have hrg := HRG.out
      have e9 : Eff (· = q) w W2 := (Eff.of_below HB1.out _).trans e2 (fun i hi hl => by omega)
      exact ⟨AV, CV, rfl, (hov.eff e2 (fun b hb e9 => hov.ne_type (e9 ▸ HR1.out) (by decide) hb)).rd, ⟨_, _, H0.out.turn e9 ((e2.block q (lt_of_heap HQ1.out) (by omega)).trans HQ1.out) H0.out.hu, .inl ⟨rfl, rfl⟩⟩, e9⟩
    have HFIN := Lib.hid hfin
    clear hov hvv hfin hrow hrow1 hxd hxp
    go_wp2
    have zc0 : (w1.setCell ⟨RG, 0, none⟩ (.int .i64 doc)).cell? ⟨RG, 0, none⟩ = some (.int .i64 doc) := World.cell?_setCell_same _ _ _ r0
    have zc1 : ((w1.setCell ⟨RG, 0, none⟩ (.int .i64 doc)).setCell ⟨RG, 1, none⟩ (.slice AV pos.length CV)).cell? ⟨RG, 1, none⟩ = some (.slice AV pos.length CV) := World.cell?_setCell_same _ _ _ ((World.cell?_setCell_other _ _ _ _ (by simp)).trans r1)
    try simp only [Exit.inBlock, Exit.then]
    refine bodyPost_ret (by simp [results, Tryd.results48, go_sem, zc0, zc1]; try rfl) rfl ?_
    exact HFIN.out _ (Eff.setCell (F := fun i => i = RG) (Eff.setCell (F := fun i => i = RG) (Eff.refl _ _) (p := ⟨RG, 0, none⟩) (fun _ => rfl) _) (p := ⟨RG, 1, none⟩) (fun _ => rfl) _)
  · have hls := H0.out.ls
    rcases hls with ⟨-, h9⟩ | ⟨pl, im, sa, sc, hlp, hl, hok⟩
    · subst h9; simp at hp
    subst hlp
    have c1 : w1.cell? ⟨q, 2, none⟩ = some (.pointer (some ⟨pl, 0, none⟩)) := blk_cell HQ1.out 2
    have t1 : (bk != (k : Int)) = true := by simp; omega
    have hl1 := hl.below HB1.out (Nat.le_refl _)
    have D1 := block_any w1 pl im sa sc IM _ _ _ (chp ps) base hl1 hok.bk hok.im k (by rw [skV_len]; exact hk) hk EA HS1.out
    rw [HCK.out] at D1
    clear hl hl1 hok hbk
    go_wp2_with fail
    with_reducible refine D1.mono ?_
    rintro e w2 ⟨A2, N2, C2, vs, rfl, hrow2, hb2⟩
    clear D1 c4 c1 t1 r0 r1 f0 f1 y0 y1
    obtain rfl : N2 = ck.length := by obtain ⟨_, _, e, _⟩ := hrow2.sl; injection e
    have hq2 := (hb2.block q (lt_of_heap HQ1.out)).trans HQ1.out
    have hr2 := (hb2.block RG (lt_of_heap HR1.out)).trans HR1.out
    have hq3 := blk_set hq2 4 (.int .i64 (k : Nat))
    have hq4 := blk_set hq3 5 (.slice A2 ck.length C2)
    have e4 : Eff (· = q) w2 ((w2.setCell ⟨q, 4, none⟩ (.int .i64 (k : Nat))).setCell ⟨q, 5, none⟩ (.slice A2 ck.length C2)) := Eff.setCell (F := fun i => i = q) (Eff.setCell (F := fun i => i = q) (Eff.refl _ w2) (p := ⟨q, 4, none⟩) (fun _ => rfl) _) (p := ⟨q, 5, none⟩) (fun _ => rfl) _
    have cq4 := blk_cell hq2 4
    have cq5 := blk_cell hq2 5
    have fq4 := blk_frozen hq2 4
    have fq5 := blk_frozen hq3 5
    have hz1 := HZ1.out
    have hrow4 := hrow2.eff e4 (fun b hb e => by have := (hrow2.ge b hb).1; omega)
    have hr4 : ((w2.setCell ⟨q, 4, none⟩ (.int .i64 (k : Nat))).setCell ⟨q, 5, none⟩ (.slice A2 ck.length C2)).heap[RG]? = _ := (e4.block RG (lt_of_heap hr2) (by omega)).trans hr2
    have hrb : RdBk ((w2.setCell ⟨q, 4, none⟩ (.int .i64 (k : Nat))).setCell ⟨q, 5, none⟩ (.slice A2 ck.length C2)) base ps (k : Int) (.slice A2 ck.length C2) := .inr ⟨k, vs, rfl, hk, by rw [HCK.out]; exact hrow4.mono (by have := HRG.out; omega)⟩
    have e04 : Eff (· = q) w ((w2.setCell ⟨q, 4, none⟩ (.int .i64 (k : Nat))).setCell ⟨q, 5, none⟩ (.slice A2 ck.length C2)) := (Eff.of_below (HB1.out.trans (hb2.mono (by have := HRG.out; omega))) _).trans e4 (fun i hi hl => hi)
    have hge : ∀ b, RowB (.slice A2 ck.length C2) ck.length vs b → RG < b := fun b hb => by have := (hrow2.ge b hb).1; omega
    have H04 := Lib.hid e04
    have HROW4 := Lib.hid hrow4
    have HR4 := Lib.hid hr4
    have HQ4 := Lib.hid hq4
    have HGE := Lib.hid hge
    clear hrow2 hb2 hq2 hr2 hq3 hq4 e4 hrow4 hr4 hrb e04 hge hz1
    go_upto_region 4 with fail
    generalize (w2.setCell ⟨q, 4, none⟩ (.int .i64 (k : Nat))).setCell ⟨q, 5, none⟩ (.slice A2 ck.length C2) = w4 at H04 HROW4 HR4 HQ4 ⊢
    clear cq4 cq5 fq4 fq5
    obtain ⟨g, rfl, -, -, x0, x1, -⟩ := HROW4.out.at_ j hj
    have hov := HROW4.out.own j hj
    obtain ⟨AV, CV, hvv⟩ := own_slice hov
    rw [HX.out] at hov
    have hxd : ck[j].doc = x.doc := by rw [HX.out]
    have hxp : ck[j].pos = x.pos := by rw [HX.out]
    rw [intL_length, hxp] at hvv
    rw [hvv] at x1 hov
    rw [hxd] at x0
    obtain ⟨doc, pos⟩ := x
    simp only at x0 x1 hov hvv
    have c5 : w4.cell? ⟨q, 5, none⟩ = some (.slice (some ⟨g, 0, none⟩) ck.length C2) := blk_cell HQ4.out 5
    have r0 : w4.cell? ⟨RG, 0, none⟩ = some (.int .i64 0) := blk_cell HR4.out 0
    have r1 : w4.cell? ⟨RG, 1, none⟩ = some (.slice none 0 0) := blk_cell HR4.out 1
    have f0 := blk_frozen HR4.out 0
    have y0 : (w4.cell? ⟨RG, 0, none⟩).isSome = true := by rw [r0]; rfl
    have y1 : (w4.cell? ⟨RG, 1, none⟩).isSome = true := by rw [r1]; rfl
    have f1 := blk_frozen HR4.out 1
    have i1 : (j : Int) < (ck.length : Int) := by omega
    have hfin : ∀ (W2 : World), Eff (· = RG) w4 W2 → HereP w base q (.pointer (some ⟨pl, 0, none⟩)) ps IM d u mv told bk rv ⟨doc, pos⟩ (.returned (.agg #[.int .i64 doc, .slice AV pos.length CV])) W2 := fun W2 e2 => by
      have hrg := HRG.out
      have e9 : Eff (· = q) w W2 := H04.out.trans e2 (fun i hi hl => by omega)
      have hq9 := (e2.block q (lt_of_heap HQ4.out) (by omega)).trans HQ4.out
      have hrow9 := HROW4.out.eff e2 (fun b hb e => by have := HGE.out b hb; omega)
      exact ⟨AV, CV, rfl, (hov.eff e2 (fun b hb e9 => hov.ne_type (e9 ▸ HR4.out) (by decide) hb)).rd, ⟨_, _, H0.out.read e9 hq9 (.inr ⟨k, vs, rfl, hk, by rw [HCK.out]; exact hrow9.mono (by have := HZ1.out; omega)⟩), .inr (.inr ⟨k, vs, rfl, hk, by rw [HCK.out]; exact hrow9.mono (by have := HZ1.out; omega)⟩)⟩, e9⟩
    have HFIN := Lib.hid hfin
    clear hov hvv hfin hxd hxp
    go_wp2
    have zc0 : (w4.setCell ⟨RG, 0, none⟩ (.int .i64 doc)).cell? ⟨RG, 0, none⟩ = some (.int .i64 doc) := World.cell?_setCell_same _ _ _ r0
    have zc1 : ((w4.setCell ⟨RG, 0, none⟩ (.int .i64 doc)).setCell ⟨RG, 1, none⟩ (.slice AV pos.length CV)).cell? ⟨RG, 1, none⟩ = some (.slice AV pos.length CV) := World.cell?_setCell_same _ _ _ ((World.cell?_setCell_other _ _ _ _ (by simp)).trans r1)
    try simp only [Exit.inBlock, Exit.then]
    refine bodyPost_ret (by simp [results, Tryd.results48, go_sem, zc0, zc1]; try rfl) rfl ?_
    exact HFIN.out _ (Eff.setCell (F := fun i => i = RG) (Eff.setCell (F := fun i => i = RG) (Eff.refl _ _) (p := ⟨RG, 0, none⟩) (fun _ => rfl) _) (p := ⟨RG, 1, none⟩) (fun _ => rfl) _)
end Go.Proofs.YtaijepjhmjjecaaDoor

/- A field of a posting's value. -/
namespace Go.Proofs.YtaijepjhmjjecaaDoor
open Go.ChangeShapes Go.WideShapes Go.ChangeAt Go.RowKit
@[go_sem high] theorem fld0 (d : Int) (A : Option Addr) (n c : Nat) (w : World) : (Instr.field 41 (.agg #[.int .i64 d, .slice A n c]) 0).run Tryd.prog w = .ok (.int .i64 d) w := by
  simp [Instr.field, go_sem, asAgg]
@[go_sem high] theorem fld1 (d : Int) (A : Option Addr) (n c : Nat) (w : World) : (Instr.field 41 (.agg #[.int .i64 d, .slice A n c]) 1).run Tryd.prog w = .ok (.slice A n c) w := by
  simp [Instr.field, go_sem, asAgg]
end Go.Proofs.YtaijepjhmjjecaaDoor
