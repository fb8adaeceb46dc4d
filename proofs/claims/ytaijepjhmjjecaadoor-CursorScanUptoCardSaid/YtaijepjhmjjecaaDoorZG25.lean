/- Merged: CurO, ScanP. -/
import Derived.Test.YtaijepjhmjjecaaDoorZG20
import Derived.Test.YtaijepjhmjjecaaDoorZG23
import Derived.Test.YtaijepjhmjjecaaDoorZG17
/- cursor: Positions. -/
namespace Go.Proofs.YtaijepjhmjjecaaDoor
set_option linter.unusedVariables false
open Go.ChangeShapes Go.WideShapes Go.ChangeAt Go.RowKit

/-- What Positions answers and leaves. -/
def PosP (w : World) (base q : Nat) (lp : Value) (ps : List PostV) (IM : List UInt8) (u mv : Nat) (told : Bool) (e : Ending) (w' : World) : Prop :=
  ∃ v, e = .returned v ∧ Own w' w.heap.size 3 v (intL (posU ps u)) ∧ CurAt w' base q lp ps IM u (if posU ps u = [] ∨ told = true then mv else mv + (posU ps u).length) (if posU ps u = [] then told else true) ∧ Eff (· = q) w w'
/-- A cursor under a row of ints that grows, apart from what it has read. -/
theorem CurB.grow {w w' : World} {base q g : Nat} {lp : Value} {ps : List PostV} {IM : List UInt8} {d : Int} {u mv : Nat} {told : Bool} {bk : Int} {rv : Value} {cs : Array Value} {fr : Nat × Nat} (h : CurB w base q lp ps IM d u mv told bk rv) (e : Eff (· = g) w w') (hg : w.heap[g]? = some (.cells cs 3 fr))
    (hr : ∀ (k : Nat) (vs : Nat → Value) (hk : k < (chp ps).length), bk = (k : Int) → RowP w base rv (chp ps)[k] vs → ∃ vs', RowP w' base rv (chp ps)[k] vs') : CurB w' base q lp ps IM d u mv told bk rv := by
  have hq : q ≠ g := fun e9 => absurd (heap_type h.blk (e9 ▸ hg)) (by decide)
  refine ⟨(e.block q (lt_of_heap h.blk) hq).trans h.blk, h.hq, h.lo, h.hu, ?_, ?_, h.sl⟩
  · rcases h.ls with h9 | ⟨p, im, sa, sc, h1, h2, h3⟩
    · exact .inl h9
    · exact .inr ⟨p, im, sa, sc, h1, h2.effq e hg (by decide) (by decide) (by decide), h3⟩
  · rcases h.rd with h9 | ⟨k, vs, h1, h2, h3⟩
    · exact .inl h9
    · obtain ⟨vs', h4⟩ := hr k vs h2 h1 h3
      exact .inr ⟨k, vs', h1, h2, h4⟩
set_option maxRecDepth 100000 in
set_option maxHeartbeats 8000000 in
theorem posi_any (w : World) (base q : Nat) (lp : Value) (ps : List PostV) (IM : List UInt8) (u mv : Nat) (told : Bool) (h : CurAt w base q lp ps IM u mv told) (hbz : base ≤ w.heap.size) (hmv : mv ≤ 1000000000000000) (EA : Nat → Addr) (hS : Sent6 w EA) :
    Calls Tryd.prog 19 #[.pointer (some ⟨q, 0, none⟩)] w (PosP w base q lp ps IM u mv told) := by
  have C1 := freq_any w base q lp ps IM u mv told h hbz EA hS
  obtain ⟨hl1, hl2, hl3⟩ := h.lens
  have hlo : Low6 base ∧ base ≤ q := by obtain ⟨_, _, h9⟩ := h; exact ⟨h9.lo, h9.hq⟩
  by_cases hnil : posU ps u = []
  · rw [hnil] at C1
    have HN := Lib.hid hnil
    clear h hS hnil
    go_enter Tryd.func19, Tryd.ntmps19
    go_wp2_with fail
    with_reducible refine C1.mono ?_
    rintro e w1 ⟨rfl, hat, he⟩
    clear C1
    have HF := Lib.hid (show PosP w base q lp ps IM u mv told (.returned (.slice none 0 0)) w1 from ⟨_, rfl, by rw [HN.out]; exact own_nil _ _ _, by rw [if_pos (.inl HN.out), if_pos HN.out]; exact hat, he⟩)
    clear hat he
    go_wp2
    go_ret
    exact HF.out
  · have hu : ¬ (u = 0 ∨ ps.length < u) := fun h9 => hnil (posU_out h9)
    obtain ⟨p, rfl⟩ : ∃ p, u = p + 1 := ⟨u - 1, by omega⟩
    have hp : p < ps.length := by omega
    have hpu := posU_at hp
    have hpl := hl2 ps[p] (List.getElem_mem hp)
    obtain ⟨x, hx⟩ : ∃ x, ps[p] = x := ⟨_, rfl⟩
    rw [hx] at hpu hpl
    have hne : x.pos ≠ [] := by rw [← hpu]; exact hnil
    have hlen : 0 < x.pos.length := List.length_pos_iff.2 hne
    rw [hpu] at C1
    have t0 : ((x.pos.length : Int) == 0) = false := beq_false_of_ne (by omega)
    have HPU := Lib.hid hpu
    have HX := Lib.hid hx
    have HS := Lib.hid hS
    have HNE := Lib.hid hne
    have hqw : q < w.heap.size := by obtain ⟨_, _, h9⟩ := h; exact lt_of_heap h9.blk
    clear h hS hnil hu hpu hne hx
    go_enter Tryd.func19, Tryd.ntmps19
    go_wp2_with fail
    with_reducible refine C1.mono ?_
    rintro e w1 ⟨rfl, ⟨bk1, rv1, h1⟩, he1⟩
    clear C1
    have hz1 : base ≤ w1.heap.size := Nat.le_trans hbz he1.size
    have hS1 := HS.out.effq he1 hlo.1 hlo.2
    cases told with
    | true =>
      have c6 : w1.cell? ⟨q, 6, none⟩ = some (.bool true) := blk_cell h1.blk 6
      have H3 := Lib.hid h1
      have HE3 := Lib.hid he1
      have HS3 := Lib.hid hS1
      clear h1 he1 hS1 t0
      have hqz : q < w1.heap.size := lt_of_heap H3.out.blk
      have hbz3 : w.heap.size ≤ w1.heap.size := HE3.out.size
      have hbA : Below w1.heap.size w1 (w1.alloc (.cells #[] 3)) := (Below.refl _ _).alloc (Nat.le_refl _) _
      have hoA := own_empty w1 w.heap.size 3 hbz3
      have h4 := H3.out.below hbA (Nat.le_refl _)
      have hS4 := HS3.out.below hbA
      have hgA := heap_alloc_new w1 (.cells #[] 3)
      have hzA : (w1.alloc (.cells #[] 3)).heap.size = w1.heap.size + 1 := World.size_alloc _ _
      have C6 := here_any _ base q lp ps IM _ (p + 1) mv true _ _ h4 (by rw [hzA]; omega) p hp EA hS4
      rw [HX.out] at C6
      have HOA := Lib.hid hoA
      have HGA := Lib.hid hgA
      have H4 := Lib.hid h4
      have HZA := Lib.hid hzA
      clear hbA hoA h4 hS4 hgA hzA
      go_upto_region 6 with fail
      clear c6
      have c3 : w1.cell? ⟨q, 3, none⟩ = some (.int .i64 (p : Nat)) := by
        have h9 : w1.cell? ⟨q, 3, none⟩ = some (.int .i64 (((p + 1 : Nat) : Int) - 1)) := blk_cell H3.out.blk 3
        rw [show (((p + 1 : Nat) : Int) - 1) = (p : Int) by omega] at h9
        exact h9
      go_wp2_with fail
      with_reducible refine C6.mono ?_
      rintro e w5 ⟨A5, C5, rfl, hrd5, ⟨bk5, rv5, h5, hrr⟩, he5⟩
      clear C6 c3
      have hgq : w1.heap.size ≠ q := by omega
      have ho5 : Own w5 w.heap.size 3 (.slice (some ⟨w1.heap.size, 0, none⟩) 0 0) [] := HOA.out.eff he5 (fun k hk e9 => by simp [Value.ownBlock] at hk; omega)
      have hg5 := (he5.block _ (by rw [HZA.out]; omega) hgq).trans HGA.out
      have hz5 : w.heap.size ≤ w5.heap.size := Nat.le_trans hbz3 (by have := he5.size; have := HZA.out; omega)
      have hl5 : ([] : List Value).length + (intL x.pos).length < 1000000000001 := by rw [intL_length]; simp; omega
      have hsep : ∀ (w6 : World), Eff (· = w1.heap.size) w5 w6 → ∀ (k : Nat) (vs : Nat → Value) (hk : k < (chp ps).length), bk5 = (k : Int) → RowP w5 base rv5 (chp ps)[k] vs → ∃ vs', RowP w6 base rv5 (chp ps)[k] vs' := fun w6 e6 k vs hk hbk hrow => by
        rcases hrr with ⟨e1, e2⟩ | hnew
        · subst e1 e2
          rcases H3.out.rd with h9 | ⟨k2, vs2, h9, hk2, hrow2⟩
          · omega
          · obtain rfl : k = k2 := by omega
            have hrow4 := hrow2.below ((Below.refl w1.heap.size w1).alloc (Nat.le_refl _) (.cells #[] 3)) (Nat.le_refl _)
            have hrow5 := hrow4.effq he5 H4.out.blk (by decide) (by decide)
            exact ⟨vs2, hrow5.eff e6 (fun b hb e9 => by have := (hrow2.ge b hb).2; omega)⟩
        · rcases hnew with h9 | ⟨k2, vs2, h9, hk2, hrow2⟩
          · omega
          · obtain rfl : k = k2 := by omega
            refine ⟨vs2, (hrow2.eff e6 (fun b hb e9 => by have := (hrow2.ge b hb).1; have := HZA.out; omega)).mono (by have := HZA.out; omega)⟩
      have HSEP := Lib.hid hsep
      have HO5 := Lib.hid ho5
      have HRD5 := Lib.hid hrd5
      have H1A := Lib.hid (intL_one x.pos)
      have HL5 := Lib.hid hl5
      have H5 := Lib.hid h5
      have HE5 := Lib.hid (HE3.out.trans (Eff.trans ((Eff.refl (· = q) w1).alloc (.cells #[] 3)) he5 (fun i hi _ => hi)) (fun i hi _ => hi))
      have HG5 := Lib.hid hg5
      clear ho5 hrd5 hl5 h5 he5 hg5 hsep hrr HOA HGA H4 hgq
      go_wp2_with (at_builtin; with_reducible refine apN elIL HO5.out HRD5.out H1A.out HL5.out hz5 rfl _ _ rfl rfl rfl ?_)
      intro v6 w6 k1 k2 k3 k4
      have e6 : Eff (· = w1.heap.size) w5 w6 := (Eff.refl _ w5).grown k4 (fun i hi _ => by simp [Value.ownBlock] at hi; exact hi.symm)
      have h6 := H5.out.grow e6 HG5.out (HSEP.out w6 e6)
      have HF := Lib.hid (show PosP w base q lp ps IM (p + 1) mv true (.returned v6) w6 from ⟨v6, rfl, by rw [HPU.out]; exact k1, by rw [HPU.out, if_pos (.inr rfl), if_neg HNE.out]; exact ⟨_, _, h6⟩, HE5.out.trans e6 (fun i hi hl => by omega)⟩)
      obtain ⟨A6, N6, C6, rfl⟩ := own_sl k1
      clear k1 k2 k3 k4 e6 h6 HSEP HO5 HRD5 H5 HE5 HG5
      go_wp2
      go_ret
      exact HF.out
    | false =>
      have c6 : w1.cell? ⟨q, 6, none⟩ = some (.bool false) := blk_cell h1.blk 6
      obtain ⟨mv2, hmv2⟩ : ∃ mv2, mv2 = mv + x.pos.length := ⟨_, rfl⟩
      have s9 : IntKind.i64.wrap ((mv : Int) + (x.pos.length : Int)) = (mv2 : Int) := by rw [show (mv : Int) + (x.pos.length : Int) = (mv2 : Int) by omega]; exact IntWalk.i64_in _ (by omega)
      have C2 : Calls Tryd.prog 17 #[.pointer (some ⟨q, 0, none⟩)] w1.drew (CurPost w1.drew base q lp ps IM (p + 1) mv false (.int .i64 (x.pos.length : Nat))) := by
        have hb := below_drewN (Below.refl w1.heap.size w1) 1
        have h9 := freq_any (w1.drewN 1) base q lp ps IM (p + 1) mv false ⟨bk1, rv1, h1.below hb (Nat.le_refl _)⟩ hz1 EA (hS1.below hb)
        rw [HPU.out] at h9; exact h9
      have c1 : w1.cell? ⟨q, 1, none⟩ = some (.int .i64 (mv : Nat)) := blk_cell h1.blk 1
      have HE1 := Lib.hid he1
      have HC2 := Lib.hid C2
      have HMV2 := Lib.hid hmv2
      clear h1 he1 C2 hmv2 hS1
      go_upto_region 4 with fail
      clear c6
      go_region_with ((go_at_call 17; (with_reducible refine HC2.out.mono ?_); rintro e w2 ⟨rfl, ⟨bk2, rv2, h2⟩, he2⟩; have c12 : w2.cell? ⟨q, 1, none⟩ = some (.int .i64 (mv : Nat)) := blk_cell h2.blk 1; have f12 := blk_frozen h2.blk 1))
      all_goals
        have f62 := blk_frozen h2.blk 6
        have c62 : w2.cell? ⟨q, 6, none⟩ = some (.bool false) := blk_cell h2.blk 6
        have b1 := blk_set h2.blk 1 (.int .i64 (mv2 : Nat))
        have b2 := blk_set b1 6 (.bool true)
        have e3 : Eff (· = q) w2 ((w2.setCell ⟨q, 1, none⟩ (.int .i64 (mv2 : Nat))).setCell ⟨q, 6, none⟩ (.bool true)) := Eff.setCell (F := fun i => i = q) (Eff.setCell (F := fun i => i = q) (Eff.refl _ w2) (p := ⟨q, 1, none⟩) (fun _ => rfl) _) (p := ⟨q, 6, none⟩) (fun _ => rfl) _
        have ec : ((curC (docU ps (p + 1)) mv lp (((p + 1 : Nat) : Int) - 1) bk2 rv2 false).setIfInBounds 1 (.int .i64 (mv2 : Nat))).setIfInBounds 6 (.bool true) = curC (docU ps (p + 1)) mv2 lp (((p + 1 : Nat) : Int) - 1) bk2 rv2 true := by simp [curC]
        rw [ec] at b2
        have h3 := h2.turn e3 b2 h2.hu
        have HE3 := Lib.hid ((HE1.out.trans ((Eff.refl (· = q) w1).drew.trans he2 (fun i hi _ => hi)) (fun i hi _ => hi)).trans e3 (fun i hi _ => hi))
        have H3 := Lib.hid h3
        have HS3 := Lib.hid (HS.out.effq HE3.out hlo.1 hlo.2)
        clear b1 b2 e3 ec h3 h2 he2
        go_upto_region 6 with fail
        generalize (w2.setCell ⟨q, 1, none⟩ (.int .i64 (mv2 : Nat))).setCell ⟨q, 6, none⟩ (.bool true) = w3 at H3 HE3 HS3 ⊢
        clear c12 f12 f62 c62
        have hqz : q < w3.heap.size := lt_of_heap H3.out.blk
        have hbz3 : w.heap.size ≤ w3.heap.size := HE3.out.size
        have hbA : Below w3.heap.size w3 (w3.alloc (.cells #[] 3)) := (Below.refl _ _).alloc (Nat.le_refl _) _
        have hoA := own_empty w3 w.heap.size 3 hbz3
        have h4 := H3.out.below hbA (Nat.le_refl _)
        have hS4 := HS3.out.below hbA
        have hgA := heap_alloc_new w3 (.cells #[] 3)
        have hzA : (w3.alloc (.cells #[] 3)).heap.size = w3.heap.size + 1 := World.size_alloc _ _
        have C6 := here_any _ base q lp ps IM _ (p + 1) mv2 true _ _ h4 (by rw [hzA]; omega) p hp EA hS4
        rw [HX.out] at C6
        have HOA := Lib.hid hoA
        have HGA := Lib.hid hgA
        have H4 := Lib.hid h4
        have HZA := Lib.hid hzA
        clear hbA hoA h4 hS4 hgA hzA
        have c3 : w3.cell? ⟨q, 3, none⟩ = some (.int .i64 (p : Nat)) := by
          have h9 : w3.cell? ⟨q, 3, none⟩ = some (.int .i64 (((p + 1 : Nat) : Int) - 1)) := blk_cell H3.out.blk 3
          rw [show (((p + 1 : Nat) : Int) - 1) = (p : Int) by omega] at h9
          exact h9
        go_wp2_with fail
        with_reducible refine C6.mono ?_
        rintro e w5 ⟨A5, C5, rfl, hrd5, ⟨bk5, rv5, h5, hrr⟩, he5⟩
        clear C6 c3
        have hgq : w3.heap.size ≠ q := by omega
        have ho5 : Own w5 w.heap.size 3 (.slice (some ⟨w3.heap.size, 0, none⟩) 0 0) [] := HOA.out.eff he5 (fun k hk e9 => by simp [Value.ownBlock] at hk; omega)
        have hg5 := (he5.block _ (by rw [HZA.out]; omega) hgq).trans HGA.out
        have hz5 : w.heap.size ≤ w5.heap.size := Nat.le_trans hbz3 (by have := he5.size; have := HZA.out; omega)
        have hl5 : ([] : List Value).length + (intL x.pos).length < 1000000000001 := by rw [intL_length]; simp; omega
        have hsep : ∀ (w6 : World), Eff (· = w3.heap.size) w5 w6 → ∀ (k : Nat) (vs : Nat → Value) (hk : k < (chp ps).length), bk5 = (k : Int) → RowP w5 base rv5 (chp ps)[k] vs → ∃ vs', RowP w6 base rv5 (chp ps)[k] vs' := fun w6 e6 k vs hk hbk hrow => by
          rcases hrr with ⟨e1, e2⟩ | hnew
          · subst e1 e2
            rcases H3.out.rd with h9 | ⟨k2, vs2, h9, hk2, hrow2⟩
            · omega
            · obtain rfl : k = k2 := by omega
              have hrow4 := hrow2.below ((Below.refl w3.heap.size w3).alloc (Nat.le_refl _) (.cells #[] 3)) (Nat.le_refl _)
              have hrow5 := hrow4.effq he5 H4.out.blk (by decide) (by decide)
              exact ⟨vs2, hrow5.eff e6 (fun b hb e9 => by have := (hrow2.ge b hb).2; omega)⟩
          · rcases hnew with h9 | ⟨k2, vs2, h9, hk2, hrow2⟩
            · omega
            · obtain rfl : k = k2 := by omega
              refine ⟨vs2, (hrow2.eff e6 (fun b hb e9 => by have := (hrow2.ge b hb).1; have := HZA.out; omega)).mono (by have := HZA.out; omega)⟩
        have HSEP := Lib.hid hsep
        have HO5 := Lib.hid ho5
        have HRD5 := Lib.hid hrd5
        have H1A := Lib.hid (intL_one x.pos)
        have HL5 := Lib.hid hl5
        have H5 := Lib.hid h5
        have HE5 := Lib.hid (HE3.out.trans (Eff.trans ((Eff.refl (· = q) w3).alloc (.cells #[] 3)) he5 (fun i hi _ => hi)) (fun i hi _ => hi))
        have HG5 := Lib.hid hg5
        clear ho5 hrd5 hl5 h5 he5 hg5 hsep hrr HOA HGA H4 hgq
        go_wp2_with (at_builtin; with_reducible refine apN elIL HO5.out HRD5.out H1A.out HL5.out hz5 rfl _ _ rfl rfl rfl ?_)
        intro v6 w6 k1 k2 k3 k4
        have e6 : Eff (· = w3.heap.size) w5 w6 := (Eff.refl _ w5).grown k4 (fun i hi _ => by simp [Value.ownBlock] at hi; exact hi.symm)
        have h6 := H5.out.grow e6 HG5.out (HSEP.out w6 e6)
        have HF := Lib.hid (show PosP w base q lp ps IM (p + 1) mv false (.returned v6) w6 from ⟨v6, rfl, by rw [HPU.out]; exact k1, by rw [HPU.out, if_neg (by simp [HNE.out]), if_neg HNE.out, ← HMV2.out]; exact ⟨_, _, h6⟩, HE5.out.trans e6 (fun i hi hl => by omega)⟩)
        obtain ⟨A6, N6, C6, rfl⟩ := own_sl k1
        clear k1 k2 k3 k4 e6 h6 HSEP HO5 HRD5 H5 HE5 HG5
        go_wp2
        go_ret
        exact HF.out
end Go.Proofs.YtaijepjhmjjecaaDoor

/- cursor, plain: the postings that CursorScan makes, its search, its moves. No program occurs here. -/
namespace Go.Proofs.YtaijepjhmjjecaaDoor
set_option linter.unusedVariables false

/-- The documents of the law's list: g the gaps. -/
def scD (g : Nat → Int) : Nat → Int
  | 0 => -1
  | i + 1 => scD g i + (1 + g i)
def scP (g : Int) (n : Nat) : List Int := (List.range n).map fun (k : Nat) => 7 * (k : Int) + g
theorem scP_succ (g : Int) (n : Nat) : scP g (n + 1) = scP g n ++ [7 * (n : Int) + g] := by simp [scP, List.range_succ]
theorem scP_length (g : Int) (n : Nat) : (scP g n).length = n := by simp [scP]
/-- The first m postings. -/
def scL (g : Nat → Int) (f : Nat → Nat) (m : Nat) : List PostV := (List.range m).map fun i => ⟨scD g (i + 1), scP (g i) (f i)⟩
theorem scL_succ (g : Nat → Int) (f : Nat → Nat) (m : Nat) : scL g f (m + 1) = scL g f m ++ [⟨scD g (m + 1), scP (g m) (f m)⟩] := by simp [scL, List.range_succ]
theorem scL_length (g : Nat → Int) (f : Nat → Nat) (m : Nat) : (scL g f m).length = m := by simp [scL]
theorem scD_in {g : Nat → Int} (hg : ∀ i, 0 ≤ g i ∧ g i ≤ 40) : ∀ i : Nat, -1 + (i : Int) ≤ scD g i ∧ scD g i ≤ -1 + 41 * (i : Int)
  | 0 => by simp [scD]
  | i + 1 => by
    have h1 := scD_in hg i
    have h2 := hg i
    show -1 + ((i + 1 : Nat) : Int) ≤ scD g i + (1 + g i) ∧ scD g i + (1 + g i) ≤ -1 + 41 * ((i + 1 : Nat) : Int)
    omega
theorem asc_snoc : ∀ (last : Int) (l : List Int) (z : Int), asc last l → (∀ x ∈ l, x < z) → last < z → z ≤ 9223372036854775807 → asc last (l ++ [z])
  | last, [], z, _, _, h1, h2 => ⟨h1, h2, trivial⟩
  | last, y :: r, z, h, hx, h1, h2 => ⟨h.1, h.2.1, asc_snoc y r z h.2.2 (fun x hx' => hx x (List.mem_cons_of_mem _ hx')) (hx y (List.mem_cons_self ..)) h2⟩
theorem scP_asc {g : Int} (hg : 0 ≤ g ∧ g ≤ 40) : ∀ n : Nat, n ≤ 10 → asc (-1) (scP g n)
  | 0, _ => trivial
  | n + 1, h => by
    rw [scP_succ]
    refine asc_snoc _ _ _ (scP_asc hg n (by omega)) (fun x hx => ?_) (by omega) (by omega)
    simp only [scP, List.mem_map, List.mem_range] at hx
    obtain ⟨k, hk, rfl⟩ := hx
    omega
theorem scL_last (g : Nat → Int) (f : Nat → Nat) : ∀ m, lastV (-1) (scL g f m) = scD g m
  | 0 => rfl
  | m + 1 => by rw [scL_succ, lastV_snoc]
theorem scL_ok {g : Nat → Int} (hg : ∀ i, 0 ≤ g i ∧ g i ≤ 40) {f : Nat → Nat} (hf : ∀ i, 1 ≤ f i ∧ f i ≤ 5) : ∀ m, m ≤ 1048576 → okV (-1) (scL g f m)
  | 0, _ => rfl
  | m + 1, h => by
    rw [scL_succ]
    refine okV_join (scL_ok hg hf m (by omega)) (okV_mk (goodV_mk ?_ ?_ ?_ ?_ ?_) rfl)
    · have := scD_in hg (m + 1); show 0 ≤ scD g (m + 1); omega
    · have := scD_in hg (m + 1); show scD g (m + 1) < _; omega
    · rw [scL_last]
      have := hg m
      show scD g m < scD g m + (1 + g m)
      omega
    · intro e
      have h1 := congrArg List.length e
      have := hf m
      simp only [scP_length, List.length_nil] at h1
      omega
    · exact scP_asc (hg m) (f m) (by have := hf m; omega)
theorem scL_total {g : Nat → Int} {f : Nat → Nat} (hf : ∀ i, 1 ≤ f i ∧ f i ≤ 5) : ∀ m, totalV (scL g f m) ≤ 5 * m
  | 0 => by simp [scL, totalV]
  | m + 1 => by
    have h1 := scL_total (g := g) hf m
    have h2 := hf m
    rw [scL_succ, totalV_append]
    have : totalV [⟨scD g (m + 1), scP (g m) (f m)⟩] = f m := by simp [totalV, scP_length]
    omega
theorem scL_totalS (g : Nat → Int) (f : Nat → Nat) (m : Nat) : totalV (scL g f (m + 1)) = totalV (scL g f m) + f m := by
  rw [scL_succ, totalV_append]
  simp [totalV, scP_length]
theorem scL_fit {g : Nat → Int} (hg : ∀ i, 0 ≤ g i ∧ g i ≤ 40) {f : Nat → Nat} (hf : ∀ i, 1 ≤ f i ∧ f i ≤ 5) (m : Nat) (hm : m ≤ 1048576) : FitP (scL g f m) := by
  intro p hp
  simp only [scL, List.mem_map, List.mem_range] at hp
  obtain ⟨i, hi, rfl⟩ := hp
  have h1 := scD_in hg (i + 1)
  have h2 := hf i
  have h3 := hg i
  refine ⟨⟨by show _ ≤ scD g (i + 1); omega, by show scD g (i + 1) ≤ _; omega⟩, fun x hx => ?_, by show (scP (g i) (f i)).length ≤ _; rw [scP_length]; omega⟩
  simp only [scP, List.mem_map, List.mem_range] at hx
  obtain ⟨k, hk, rfl⟩ := hx
  omega
/-! ### Where Advance comes to, place by place -/
theorem takeW_spec {α : Type} (p : α → Bool) : ∀ (l : List α), (∀ (i : Nat) (h : i < l.length), i < (l.takeWhile p).length → p l[i] = true) ∧ (∀ h : (l.takeWhile p).length < l.length, p l[(l.takeWhile p).length] = false)
  | [] => ⟨fun i h => by simp at h, fun h => by simp at h⟩
  | x :: r => by
    obtain ⟨h1, h2⟩ := takeW_spec p r
    by_cases hx : p x = true
    · rw [List.takeWhile_cons_of_pos hx]
      refine ⟨fun i h h9 => ?_, fun h => ?_⟩
      · cases i with
        | zero => exact hx
        | succ i => exact h1 i (by simpa using h) (by simpa using h9)
      · simpa using h2 (by simpa using h)
    · have hx' : p x = false := by simpa using hx
      rw [List.takeWhile_cons_of_neg hx]
      exact ⟨fun i h h9 => by simp at h9, fun h => by simpa using hx'⟩
theorem firstU_low {ps : List PostV} {u : Nat} {t : Int} (j : Nat) (hj : j < ps.length) (h1 : u ≤ j) (h2 : j < firstU ps u t) : ps[j].doc < t := by
  obtain ⟨i, rfl⟩ : ∃ i, j = u + i := ⟨j - u, by omega⟩
  unfold firstU at h2
  have h3 := (takeW_spec (fun p : PostV => decide (p.doc < t)) (ps.drop u)).1 i (by rw [List.length_drop]; omega) (by omega)
  rw [List.getElem_drop] at h3
  exact of_decide_eq_true h3
theorem firstU_stop {ps : List PostV} {u : Nat} {t : Int} (h : firstU ps u t < ps.length) : ¬ (ps[firstU ps u t]).doc < t := by
  have h3 := (takeW_spec (fun p : PostV => decide (p.doc < t)) (ps.drop u)).2 (by
    rw [List.length_drop]
    unfold firstU at h
    omega)
  rw [List.getElem_drop] at h3
  exact of_decide_eq_false h3
/-- The place behind Advance. -/
def advU (ps : List PostV) (u : Nat) (t : Int) : Nat := if stayU ps u t then u else firstU ps u t + 1
theorem advU_in {ps : List PostV} {u : Nat} (t : Int) (hu : u ≤ ps.length + 1) : u ≤ advU ps u t ∧ advU ps u t ≤ ps.length + 1 := by
  unfold advU
  split
  · omega
  · rename_i h
    unfold stayU at h
    have h1 := firstU_ge ps u t
    have h2 := firstU_le t (show u ≤ ps.length by omega)
    omega
theorem scan_go {ps : List PostV} (ok : okV (-1) ps) {u v : Nat} {t : Int} (hu : u ≤ ps.length + 1) (h1 : u ≤ v) (h2 : v < advU ps u t) : docU ps v < t ∧ docU ps v ≠ 2147483647 ∧ v ≤ ps.length := by
  unfold advU at h2
  split at h2
  · omega
  · rename_i h
    unfold stayU at h
    have h3 := firstU_le t (show u ≤ ps.length by omega)
    by_cases e : v = u
    · subst e
      refine ⟨by omega, ?_, by omega⟩
      unfold docU
      split
      · decide
      · split
        · rename_i h4 h5
          have := okV_doc ok _ h5
          omega
        · omega
    · obtain ⟨j, rfl⟩ : ∃ j, v = j + 1 := ⟨v - 1, by omega⟩
      have hj : j < ps.length := by omega
      rw [docU_at hj]
      have := okV_doc ok j hj
      have hlow := firstU_low (u := u) (t := t) j hj (by omega) (by omega)
      exact ⟨hlow, by omega, by omega⟩
theorem scan_end {ps : List PostV} {u : Nat} {t : Int} (hu : u ≤ ps.length + 1) : ¬ docU ps (advU ps u t) < t ∨ docU ps (advU ps u t) = 2147483647 := by
  unfold advU
  split
  · rename_i h
    unfold stayU at h
    rcases h with h | h
    · exact .inl (by omega)
    · exact .inr (docU_end (by omega))
  · by_cases hq : firstU ps u t < ps.length
    · rw [docU_at hq]; exact .inl (firstU_stop hq)
    · exact .inr (docU_end (by omega))
/-! ### Moves -/
def ptU (ps : List PostV) (u : Nat) : Nat := totalV (ps.take u)
theorem ptU_mono (ps : List PostV) {u v : Nat} (h : u ≤ v) : ptU ps u ≤ ptU ps v := by
  unfold ptU
  have h1 := totalV_split (ps.take v) u
  rw [List.take_take, Nat.min_eq_left h] at h1
  omega
theorem ptU_le (ps : List PostV) (u : Nat) : ptU ps u ≤ totalV ps := by
  unfold ptU
  have := totalV_split ps u
  omega
theorem ptU_pos {ps : List PostV} {u : Nat} (h : posU ps u ≠ []) : ptU ps (u - 1) + (posU ps u).length = ptU ps u := by
  unfold posU at h ⊢
  by_cases h0 : u = 0
  · rw [if_pos h0] at h; exact absurd rfl h
  · rw [if_neg h0] at h ⊢
    by_cases h1 : u - 1 < ps.length
    · rw [dif_pos h1] at h ⊢
      unfold ptU
      have h2 := totalV_take ps (u - 1) h1
      rw [show u - 1 + 1 = u by omega] at h2
      omega
    · rw [dif_neg h1] at h; exact absurd rfl h
/-- How many moves a cursor at u can have made. -/
def capU (ps : List PostV) (u : Nat) (told : Bool) : Nat := 2 * min u ps.length + (if u = ps.length + 1 then 1 else 0) + if told = true then ptU ps u else ptU ps (u - 1)
theorem capU_le (ps : List PostV) {u : Nat} (hu : u ≤ ps.length + 1) (told : Bool) : capU ps u told ≤ 2 * ps.length + 1 + totalV ps := by
  unfold capU
  have h1 := ptU_le ps u
  have h2 := ptU_le ps (u - 1)
  split <;> split <;> omega
theorem capU_max (ps : List PostV) (u : Nat) (told : Bool) : capU ps u told ≤ 2 * min u ps.length + (if u = ps.length + 1 then 1 else 0) + ptU ps u := by
  unfold capU
  have := ptU_mono ps (show u - 1 ≤ u by omega)
  have h2 : (if told = true then ptU ps u else ptU ps (u - 1)) ≤ ptU ps u := by split <;> omega
  exact Nat.add_le_add_left h2 _
theorem capU_to {ps : List PostV} {u q : Nat} {mv : Nat} {told : Bool} (h : mv ≤ capU ps u told) (hu : u ≤ q) (hq : q ≤ ps.length) : mv + costU u q ps.length ≤ capU ps (q + 1) false := by
  have h1 := capU_max ps u told
  have h2 := ptU_mono ps hu
  unfold capU
  simp only [Nat.add_sub_cancel]
  rw [if_neg (show ¬ (false = true) by decide)]
  rw [if_neg (show ¬ u = ps.length + 1 by omega)] at h1
  by_cases e : q = ps.length
  · have h3 := costU_fin (show u ≤ ps.length by omega)
    rw [e] at h2 ⊢
    rw [if_pos rfl]
    omega
  · have h3 := costU_move hu (show q < ps.length by omega)
    rw [if_neg (by omega)]
    omega
theorem capU_adv {ps : List PostV} {u : Nat} {mv : Nat} {told : Bool} (h : mv ≤ capU ps u told) (hu : u ≤ ps.length + 1) (t : Int) : (if stayU ps u t then mv else mv + costU u (firstU ps u t) ps.length) ≤ capU ps (if stayU ps u t then u else firstU ps u t + 1) (if stayU ps u t then told else false) := by
  split
  · exact h
  · rename_i h9
    unfold stayU at h9
    exact capU_to h (firstU_ge ps u t) (firstU_le t (by omega))
theorem capU_next {ps : List PostV} {u : Nat} {mv : Nat} {told : Bool} (h : mv ≤ capU ps u told) (hu : u ≤ ps.length + 1) : (if u = ps.length + 1 then mv else mv + costU u u ps.length) ≤ capU ps (if u = ps.length + 1 then u else u + 1) (if u = ps.length + 1 then told else false) := by
  split
  · exact h
  · exact capU_to h (Nat.le_refl _) (by omega)
theorem capU_posi {ps : List PostV} {u : Nat} {mv : Nat} {told : Bool} (h : mv ≤ capU ps u told) : (if posU ps u = [] ∨ told = true then mv else mv + (posU ps u).length) ≤ capU ps u (if posU ps u = [] then told else true) := by
  by_cases h1 : posU ps u = []
  · rw [if_pos (.inl h1), if_pos h1]; exact h
  · rw [if_neg h1]
    have h2 := ptU_pos h1
    unfold capU at h ⊢
    rw [if_pos (show true = true from rfl)]
    cases told with
    | true => rw [if_pos (.inr rfl)]; rw [if_pos rfl] at h; exact h
    | false =>
      rw [if_neg (by rintro (h9 | h9); exact h1 h9; cases h9)]
      rw [if_neg (show ¬ (false = true) by decide)] at h
      omega
end Go.Proofs.YtaijepjhmjjecaaDoor
