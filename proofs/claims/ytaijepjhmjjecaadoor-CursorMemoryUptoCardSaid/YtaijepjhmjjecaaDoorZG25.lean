/- Merged: CurO, SameI. -/
import Derived.Test.YtaijepjhmjjecaaDoorZG18
import Derived.Test.YtaijepjhmjjecaaDoorZG1
import Derived.BigQuiet
/- cursor: Positions. -/
namespace Go.Proofs.YtaijepjhmjjecaaDoor
set_option linter.unusedVariables false
open Go.ChangeShapes Go.WideShapes Go.ChangeAt Go.RowKit

/-- What Positions answers and leaves. -/
def PosP (w : World) (base q : Nat) (lp : Value) (ps : List PostV) (IM : List UInt8) (u mv : Nat) (told : Bool) (e : Ending) (w' : World) : Prop :=
  ∃ v, e = .returned v ∧ Own w' w.heap.size 3 v (intL (posU ps u)) ∧ CurAt w' base q lp ps IM u (if posU ps u = [] ∨ told = true then mv else mv + (posU ps u).length) (if posU ps u = [] then told else true) ∧ Eff (· = q) w w'
/-- A cursor under a row of ints that grows, apart from what it has read. -/
theorem CurB.grow {w w' : World} {base q g : Nat} {lp : Value} {ps : List PostV} {IM : List UInt8} {d : Int} {u mv : Nat} {told : Bool} {bk : Int} {rv : Value} {cs : Array Value} {fr : Nat × Nat} (h : CurB w base q lp ps IM d u mv told bk rv) (e : Eff (· = g) w w') (hg : w.heap[g]? = some (.cells cs 3 fr))
    (hr : ∀ (k : Nat) (vs : Nat → Value) (hk : k < (chp ps).length), bk = (k : Int) → RowP w base rv (chp ps)[k] vs → ∃ vs', RowP w' base rv (chp ps)[k] vs') : CurB w' base q lp ps IM d u mv told bk rv := by
  have hq : q ≠ g := fun e9 => absurd (heap_type h.blk (e9 ▸ hg)) (by decide)
  refine ⟨(e.block q (lt_of_heap h.blk) hq).trans h.blk, h.hq, h.lo, h.hu, ?_, ?_, h.sl⟩
  · rcases h.ls with h9 | ⟨p, im, sa, sc, h1, h2, h3⟩
    · exact .inl h9
    · exact .inr ⟨p, im, sa, sc, h1, h2.effq e hg (by decide) (by decide) (by decide), h3⟩
  · rcases h.rd with h9 | ⟨k, vs, h1, h2, h3⟩
    · exact .inl h9
    · obtain ⟨vs', h4⟩ := hr k vs h2 h1 h3
      exact .inr ⟨k, vs', h1, h2, h4⟩
set_option maxRecDepth 100000 in
set_option maxHeartbeats 8000000 in
theorem posi_any (w : World) (base q : Nat) (lp : Value) (ps : List PostV) (IM : List UInt8) (u mv : Nat) (told : Bool) (h : CurAt w base q lp ps IM u mv told) (hbz : base ≤ w.heap.size) (hmv : mv ≤ 1000000000000000) (EA : Nat → Addr) (hS : Sent6 w EA) :
    Calls Tryd.prog 19 #[.pointer (some ⟨q, 0, none⟩)] w (PosP w base q lp ps IM u mv told) := by
  have C1 := freq_any w base q lp ps IM u mv told h hbz EA hS
  obtain ⟨hl1, hl2, hl3⟩ := h.lens
  have hlo : Low6 base ∧ base ≤ q := by obtain ⟨_, _, h9⟩ := h; exact ⟨h9.lo, h9.hq⟩
  by_cases hnil : posU ps u = []
  · rw [hnil] at C1
    have HN := Lib.hid hnil
    clear h hS hnil
    go_enter Tryd.func19, Tryd.ntmps19
    go_wp2_with fail
    with_reducible refine C1.mono ?_
    rintro e w1 ⟨rfl, hat, he⟩
    clear C1
    have HF := Lib.hid (show PosP w base q lp ps IM u mv told (.returned (.slice none 0 0)) w1 from ⟨_, rfl, by rw [HN.out]; exact own_nil _ _ _, by rw [if_pos (.inl HN.out), if_pos HN.out]; exact hat, he⟩)
    clear hat he
    go_wp2
    go_ret
    exact HF.out
  · have hu : ¬ (u = 0 ∨ ps.length < u) := fun h9 => hnil (posU_out h9)
    obtain ⟨p, rfl⟩ : ∃ p, u = p + 1 := ⟨u - 1, by omega⟩
    have hp : p < ps.length := by omega
    have hpu := posU_at hp
    have hpl := hl2 ps[p] (List.getElem_mem hp)
    obtain ⟨x, hx⟩ : ∃ x, ps[p] = x := ⟨_, rfl⟩
    rw [hx] at hpu hpl
    have hne : x.pos ≠ [] := by rw [← hpu]; exact hnil
    have hlen : 0 < x.pos.length := List.length_pos_iff.2 hne
    rw [hpu] at C1
    have t0 : ((x.pos.length : Int) == 0) = false := beq_false_of_ne (by omega)
    have HPU := Lib.hid hpu
    have HX := Lib.hid hx
    have HS := Lib.hid hS
    have HNE := Lib.hid hne
    have hqw : q < w.heap.size := by obtain ⟨_, _, h9⟩ := h; exact lt_of_heap h9.blk
    clear h hS hnil hu hpu hne hx
    go_enter Tryd.func19, Tryd.ntmps19
    go_wp2_with fail
    with_reducible refine C1.mono ?_
    rintro e w1 ⟨rfl, ⟨bk1, rv1, h1⟩, he1⟩
    clear C1
    have hz1 : base ≤ w1.heap.size := Nat.le_trans hbz he1.size
    have hS1 := HS.out.effq he1 hlo.1 hlo.2
    cases told with
    | true =>
      have c6 : w1.cell? ⟨q, 6, none⟩ = some (.bool true) := blk_cell h1.blk 6
      have H3 := Lib.hid h1
      have HE3 := Lib.hid he1
      have HS3 := Lib.hid hS1
      clear h1 he1 hS1 t0
      have hqz : q < w1.heap.size := lt_of_heap H3.out.blk
      have hbz3 : w.heap.size ≤ w1.heap.size := HE3.out.size
      have hbA : Below w1.heap.size w1 (w1.alloc (.cells #[] 3)) := (Below.refl _ _).alloc (Nat.le_refl _) _
      have hoA := own_empty w1 w.heap.size 3 hbz3
      have h4 := H3.out.below hbA (Nat.le_refl _)
      have hS4 := HS3.out.below hbA
      have hgA := heap_alloc_new w1 (.cells #[] 3)
      have hzA : (w1.alloc (.cells #[] 3)).heap.size = w1.heap.size + 1 := World.size_alloc _ _
      have C6 := here_any _ base q lp ps IM _ (p + 1) mv true _ _ h4 (by rw [hzA]; omega) p hp EA hS4
      rw [HX.out] at C6
      have HOA := Lib.hid hoA
      have HGA := Lib.hid hgA
      have H4 := Lib.hid h4
      have HZA := Lib.hid hzA
      clear hbA hoA h4 hS4 hgA hzA
      go_upto_region 6 with fail
      clear c6
      have c3 : w1.cell? ⟨q, 3, none⟩ = some (.int .i64 (p : Nat)) := by
        have h9 : w1.cell? ⟨q, 3, none⟩ = some (.int .i64 (((p + 1 : Nat) : Int) - 1)) := blk_cell H3.out.blk 3
        rw [show (((p + 1 : Nat) : Int) - 1) = (p : Int) by omega] at h9
        exact h9
      go_wp2_with fail
      with_reducible refine C6.mono ?_
      rintro e w5 ⟨A5, C5, rfl, hrd5, ⟨bk5, rv5, h5, hrr⟩, he5⟩
      clear C6 c3
      have hgq : w1.heap.size ≠ q := by omega
      have ho5 : Own w5 w.heap.size 3 (.slice (some ⟨w1.heap.size, 0, none⟩) 0 0) [] := HOA.out.eff he5 (fun k hk e9 => by simp [Value.ownBlock] at hk; omega)
      have hg5 := (he5.block _ (by rw [HZA.out]; omega) hgq).trans HGA.out
      have hz5 : w.heap.size ≤ w5.heap.size := Nat.le_trans hbz3 (by have := he5.size; have := HZA.out; omega)
      have hl5 : ([] : List Value).length + (intL x.pos).length < 1000000000001 := by rw [intL_length]; simp; omega
      have hsep : ∀ (w6 : World), Eff (· = w1.heap.size) w5 w6 → ∀ (k : Nat) (vs : Nat → Value) (hk : k < (chp ps).length), bk5 = (k : Int) → RowP w5 base rv5 (chp ps)[k] vs → ∃ vs', RowP w6 base rv5 (chp ps)[k] vs' := fun w6 e6 k vs hk hbk hrow => by
        rcases hrr with ⟨e1, e2⟩ | hnew
        · subst e1 e2
          rcases H3.out.rd with h9 | ⟨k2, vs2, h9, hk2, hrow2⟩
          · omega
          · obtain rfl : k = k2 := by omega
            have hrow4 := hrow2.below ((Below.refl w1.heap.size w1).alloc (Nat.le_refl _) (.cells #[] 3)) (Nat.le_refl _)
            have hrow5 := hrow4.effq he5 H4.out.blk (by decide) (by decide)
            exact ⟨vs2, hrow5.eff e6 (fun b hb e9 => by have := (hrow2.ge b hb).2; omega)⟩
        · rcases hnew with h9 | ⟨k2, vs2, h9, hk2, hrow2⟩
          · omega
          · obtain rfl : k = k2 := by omega
            refine ⟨vs2, (hrow2.eff e6 (fun b hb e9 => by have := (hrow2.ge b hb).1; have := HZA.out; omega)).mono (by have := HZA.out; omega)⟩
      have HSEP := Lib.hid hsep
      have HO5 := Lib.hid ho5
      have HRD5 := Lib.hid hrd5
      have H1A := Lib.hid (intL_one x.pos)
      have HL5 := Lib.hid hl5
      have H5 := Lib.hid h5
      have HE5 := Lib.hid (HE3.out.trans (Eff.trans ((Eff.refl (· = q) w1).alloc (.cells #[] 3)) he5 (fun i hi _ => hi)) (fun i hi _ => hi))
      have HG5 := Lib.hid hg5
      clear ho5 hrd5 hl5 h5 he5 hg5 hsep hrr HOA HGA H4 hgq
      go_wp2_with (at_builtin; with_reducible refine apN elIL HO5.out HRD5.out H1A.out HL5.out hz5 rfl _ _ rfl rfl rfl ?_)
      intro v6 w6 k1 k2 k3 k4
      have e6 : Eff (· = w1.heap.size) w5 w6 := (Eff.refl _ w5).grown k4 (fun i hi _ => by simp [Value.ownBlock] at hi; exact hi.symm)
      have h6 := H5.out.grow e6 HG5.out (HSEP.out w6 e6)
      have HF := Lib.hid (show PosP w base q lp ps IM (p + 1) mv true (.returned v6) w6 from ⟨v6, rfl, by rw [HPU.out]; exact k1, by rw [HPU.out, if_pos (.inr rfl), if_neg HNE.out]; exact ⟨_, _, h6⟩, HE5.out.trans e6 (fun i hi hl => by omega)⟩)
      obtain ⟨A6, N6, C6, rfl⟩ := own_sl k1
      clear k1 k2 k3 k4 e6 h6 HSEP HO5 HRD5 H5 HE5 HG5
      go_wp2
      go_ret
      exact HF.out
    | false =>
      have c6 : w1.cell? ⟨q, 6, none⟩ = some (.bool false) := blk_cell h1.blk 6
      obtain ⟨mv2, hmv2⟩ : ∃ mv2, mv2 = mv + x.pos.length := ⟨_, rfl⟩
      have s9 : IntKind.i64.wrap ((mv : Int) + (x.pos.length : Int)) = (mv2 : Int) := by rw [show (mv : Int) + (x.pos.length : Int) = (mv2 : Int) by omega]; exact IntWalk.i64_in _ (by omega)
      have C2 : Calls Tryd.prog 17 #[.pointer (some ⟨q, 0, none⟩)] w1.drew (CurPost w1.drew base q lp ps IM (p + 1) mv false (.int .i64 (x.pos.length : Nat))) := by
        have hb := below_drewN (Below.refl w1.heap.size w1) 1
        have h9 := freq_any (w1.drewN 1) base q lp ps IM (p + 1) mv false ⟨bk1, rv1, h1.below hb (Nat.le_refl _)⟩ hz1 EA (hS1.below hb)
        rw [HPU.out] at h9; exact h9
      have c1 : w1.cell? ⟨q, 1, none⟩ = some (.int .i64 (mv : Nat)) := blk_cell h1.blk 1
      have HE1 := Lib.hid he1
      have HC2 := Lib.hid C2
      have HMV2 := Lib.hid hmv2
      clear h1 he1 C2 hmv2 hS1
      go_upto_region 4 with fail
      clear c6
      go_region_with ((go_at_call 17; (with_reducible refine HC2.out.mono ?_); rintro e w2 ⟨rfl, ⟨bk2, rv2, h2⟩, he2⟩; have c12 : w2.cell? ⟨q, 1, none⟩ = some (.int .i64 (mv : Nat)) := blk_cell h2.blk 1; have f12 := blk_frozen h2.blk 1))
      all_goals
        have f62 := blk_frozen h2.blk 6
        have c62 : w2.cell? ⟨q, 6, none⟩ = some (.bool false) := blk_cell h2.blk 6
        have b1 := blk_set h2.blk 1 (.int .i64 (mv2 : Nat))
        have b2 := blk_set b1 6 (.bool true)
        have e3 : Eff (· = q) w2 ((w2.setCell ⟨q, 1, none⟩ (.int .i64 (mv2 : Nat))).setCell ⟨q, 6, none⟩ (.bool true)) := Eff.setCell (F := fun i => i = q) (Eff.setCell (F := fun i => i = q) (Eff.refl _ w2) (p := ⟨q, 1, none⟩) (fun _ => rfl) _) (p := ⟨q, 6, none⟩) (fun _ => rfl) _
        have ec : ((curC (docU ps (p + 1)) mv lp (((p + 1 : Nat) : Int) - 1) bk2 rv2 false).setIfInBounds 1 (.int .i64 (mv2 : Nat))).setIfInBounds 6 (.bool true) = curC (docU ps (p + 1)) mv2 lp (((p + 1 : Nat) : Int) - 1) bk2 rv2 true := by simp [curC]
        rw [ec] at b2
        have h3 := h2.turn e3 b2 h2.hu
        have HE3 := Lib.hid ((HE1.out.trans ((Eff.refl (· = q) w1).drew.trans he2 (fun i hi _ => hi)) (fun i hi _ => hi)).trans e3 (fun i hi _ => hi))
        have H3 := Lib.hid h3
        have HS3 := Lib.hid (HS.out.effq HE3.out hlo.1 hlo.2)
        clear b1 b2 e3 ec h3 h2 he2
        go_upto_region 6 with fail
        generalize (w2.setCell ⟨q, 1, none⟩ (.int .i64 (mv2 : Nat))).setCell ⟨q, 6, none⟩ (.bool true) = w3 at H3 HE3 HS3 ⊢
        clear c12 f12 f62 c62
        have hqz : q < w3.heap.size := lt_of_heap H3.out.blk
        have hbz3 : w.heap.size ≤ w3.heap.size := HE3.out.size
        have hbA : Below w3.heap.size w3 (w3.alloc (.cells #[] 3)) := (Below.refl _ _).alloc (Nat.le_refl _) _
        have hoA := own_empty w3 w.heap.size 3 hbz3
        have h4 := H3.out.below hbA (Nat.le_refl _)
        have hS4 := HS3.out.below hbA
        have hgA := heap_alloc_new w3 (.cells #[] 3)
        have hzA : (w3.alloc (.cells #[] 3)).heap.size = w3.heap.size + 1 := World.size_alloc _ _
        have C6 := here_any _ base q lp ps IM _ (p + 1) mv2 true _ _ h4 (by rw [hzA]; omega) p hp EA hS4
        rw [HX.out] at C6
        have HOA := Lib.hid hoA
        have HGA := Lib.hid hgA
        have H4 := Lib.hid h4
        have HZA := Lib.hid hzA
        clear hbA hoA h4 hS4 hgA hzA
        have c3 : w3.cell? ⟨q, 3, none⟩ = some (.int .i64 (p : Nat)) := by
          have h9 : w3.cell? ⟨q, 3, none⟩ = some (.int .i64 (((p + 1 : Nat) : Int) - 1)) := blk_cell H3.out.blk 3
          rw [show (((p + 1 : Nat) : Int) - 1) = (p : Int) by omega] at h9
          exact h9
        go_wp2_with fail
        with_reducible refine C6.mono ?_
        rintro e w5 ⟨A5, C5, rfl, hrd5, ⟨bk5, rv5, h5, hrr⟩, he5⟩
        clear C6 c3
        have hgq : w3.heap.size ≠ q := by omega
        have ho5 : Own w5 w.heap.size 3 (.slice (some ⟨w3.heap.size, 0, none⟩) 0 0) [] := HOA.out.eff he5 (fun k hk e9 => by simp [Value.ownBlock] at hk; omega)
        have hg5 := (he5.block _ (by rw [HZA.out]; omega) hgq).trans HGA.out
        have hz5 : w.heap.size ≤ w5.heap.size := Nat.le_trans hbz3 (by have := he5.size; have := HZA.out; omega)
        have hl5 : ([] : List Value).length + (intL x.pos).length < 1000000000001 := by rw [intL_length]; simp; omega
        have hsep : ∀ (w6 : World), Eff (· = w3.heap.size) w5 w6 → ∀ (k : Nat) (vs : Nat → Value) (hk : k < (chp ps).length), bk5 = (k : Int) → RowP w5 base rv5 (chp ps)[k] vs → ∃ vs', RowP w6 base rv5 (chp ps)[k] vs' := fun w6 e6 k vs hk hbk hrow => by
          rcases hrr with ⟨e1, e2⟩ | hnew
          · subst e1 e2
            rcases H3.out.rd with h9 | ⟨k2, vs2, h9, hk2, hrow2⟩
            · omega
            · obtain rfl : k = k2 := by omega
              have hrow4 := hrow2.below ((Below.refl w3.heap.size w3).alloc (Nat.le_refl _) (.cells #[] 3)) (Nat.le_refl _)
              have hrow5 := hrow4.effq he5 H4.out.blk (by decide) (by decide)
              exact ⟨vs2, hrow5.eff e6 (fun b hb e9 => by have := (hrow2.ge b hb).2; omega)⟩
          · rcases hnew with h9 | ⟨k2, vs2, h9, hk2, hrow2⟩
            · omega
            · obtain rfl : k = k2 := by omega
              refine ⟨vs2, (hrow2.eff e6 (fun b hb e9 => by have := (hrow2.ge b hb).1; have := HZA.out; omega)).mono (by have := HZA.out; omega)⟩
        have HSEP := Lib.hid hsep
        have HO5 := Lib.hid ho5
        have HRD5 := Lib.hid hrd5
        have H1A := Lib.hid (intL_one x.pos)
        have HL5 := Lib.hid hl5
        have H5 := Lib.hid h5
        have HE5 := Lib.hid (HE3.out.trans (Eff.trans ((Eff.refl (· = q) w3).alloc (.cells #[] 3)) he5 (fun i hi _ => hi)) (fun i hi _ => hi))
        have HG5 := Lib.hid hg5
        clear ho5 hrd5 hl5 h5 he5 hg5 hsep hrr HOA HGA H4 hgq
        go_wp2_with (at_builtin; with_reducible refine apN elIL HO5.out HRD5.out H1A.out HL5.out hz5 rfl _ _ rfl rfl rfl ?_)
        intro v6 w6 k1 k2 k3 k4
        have e6 : Eff (· = w3.heap.size) w5 w6 := (Eff.refl _ w5).grown k4 (fun i hi _ => by simp [Value.ownBlock] at hi; exact hi.symm)
        have h6 := H5.out.grow e6 HG5.out (HSEP.out w6 e6)
        have HF := Lib.hid (show PosP w base q lp ps IM (p + 1) mv false (.returned v6) w6 from ⟨v6, rfl, by rw [HPU.out]; exact k1, by rw [HPU.out, if_neg (by simp [HNE.out]), if_neg HNE.out, ← HMV2.out]; exact ⟨_, _, h6⟩, HE5.out.trans e6 (fun i hi hl => by omega)⟩)
        obtain ⟨A6, N6, C6, rfl⟩ := own_sl k1
        clear k1 k2 k3 k4 e6 h6 HSEP HO5 HRD5 H5 HE5 HG5
        go_wp2
        go_ret
        exact HF.out
end Go.Proofs.YtaijepjhmjjecaaDoor

/- concordmem.SameInts: are both lists alike? -/
namespace Go.Proofs.YtaijepjhmjjecaaDoor
set_option linter.unusedVariables false
open Go.ChangeShapes Go.WideShapes Go.ChangeAt Go.RowKit

theorem take_eq_snoc {l m : List Int} {i : Nat} (hl : i < l.length) (hm : i < m.length) (h : l.take i = m.take i) (e : l[i] = m[i]) : l.take (i + 1) = m.take (i + 1) := by
  rw [List.take_add_one, List.take_add_one, h, List.getElem?_eq_getElem hl, List.getElem?_eq_getElem hm, e]
set_option maxRecDepth 100000 in
theorem samei_any (w : World) (a a' : Option Addr) (n n' c c' : Nat) (l m : List Int) (h : Rd w (.slice a n c) (intL l)) (h' : Rd w (.slice a' n' c') (intL m)) (hl : (l.length : Int) ≤ 9223372036854775807) (hm : (m.length : Int) ≤ 9223372036854775807) :
    Calls Tryd.prog 18 #[.slice a n c, .slice a' n' c'] w fun e w' => e = .returned (.bool (decide (l = m))) ∧ ∃ d, w' = w.drewN d := by
  obtain ⟨rfl, hg⟩ := rd_get h
  obtain ⟨rfl, hg'⟩ := rd_get h'
  have HG := Lib.hid hg
  have HG' := Lib.hid hg'
  clear h hg h' hg'
  by_cases hlen : l.length = m.length
  · have HL := Lib.hid hlen
    have q1 : ((l.length : Int) == (m.length : Int)) = true := by simp; omega
    have q2 : l.length ≤ m.length := by omega
    have q3 : m.length ≤ l.length := by omega
    clear hlen
    go_enter Tryd.func18, Tryd.ntmps18
    go_wp2
    go_loopw [13] (fun s wr => ∃ i d : Nat, s = .int .i64 i ∧ i ≤ l.length ∧ l.take i = m.take i ∧ wr = w.drewN d) (fun s _ => l.length - (intOf s).toNat)
    case atStart => exact ⟨0, 0, rfl, Nat.zero_le _, rfl, rfl⟩
    case round =>
      obtain ⟨i, d, rfl, hi, hsame, rfl⟩ := hrel
      have HS := Lib.hid hsame
      clear hsame
      by_cases hlt : i < l.length
      · have hlt' : i < m.length := by omega
        obtain ⟨b, o, rfl, hg⟩ := HG.out (by omega)
        obtain ⟨b', o', rfl, hg'⟩ := HG'.out (by omega)
        have hc := hg i hlt
        have hc' := hg' i hlt'
        obtain ⟨z, hz⟩ : ∃ z, l[i] = z := ⟨_, rfl⟩
        obtain ⟨y, hy⟩ : ∃ y, m[i] = y := ⟨_, rfl⟩
        rw [hz] at hc
        rw [hy] at hc'
        have HZ := Lib.hid hz
        have HY := Lib.hid hy
        clear hg hg' hz hy
        by_cases he : z = y
        · subst he
          have hstep := Lib.hid (take_eq_snoc hlt hlt' HS.out (HZ.out.trans HY.out.symm))
          clear HZ HY
          go_wp2
          go_quiet (fail)
          go_wp2
          go_roundw
          case rel => exact ⟨i + 1, d + nq, by go_num, by omega, hstep.out, by first | rfl | trivial⟩
          case measure => simp [intOf]; omega
        · have hb : (z == y) = false := by simpa using he
          have HE := Lib.hid he
          clear he
          go_wp2
          go_quiet (fail)
          go_wp2
          go_ret
          have hne : ¬ l = m := fun e => by subst e; exact HE.out (HZ.out.symm.trans HY.out)
          exact ⟨ret_bool (decide_eq_false hne).symm, d + nq, World.drewN_drewN ..⟩
      · obtain rfl : i = l.length := by omega
        have hlm : l = m := by
          have := HS.out
          rw [List.take_length, HL.out, List.take_length] at this; exact this
        have HLM := Lib.hid hlm
        clear hlm
        go_wp2
        go_ret
        exact ⟨ret_bool (decide_eq_true HLM.out).symm, _, rfl⟩
  · have q1 : ((l.length : Int) == (m.length : Int)) = false := by simp; omega
    have HL := Lib.hid hlen
    clear hlen
    go_enter Tryd.func18, Tryd.ntmps18
    go_wp2
    go_ret
    exact ⟨ret_bool (decide_eq_false (fun e => HL.out (by rw [e]))).symm, 0, rfl⟩
end Go.Proofs.YtaijepjhmjjecaaDoor
