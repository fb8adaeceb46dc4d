/- Merged: CurG, PhP, PhU. -/
import Derived.Test.YtaijepjhmjjecaaDoorZG16
import Derived.Test.YtaijepjhmjjecaaDoorZG16
import Derived.Lib.SlicesCompact
/- cursor: goTo (printed by wip/gen_goto.py). -/
namespace Go.Proofs.YtaijepjhmjjecaaDoor
set_option linter.unusedVariables false
open Go.ChangeShapes Go.WideShapes Go.ChangeAt Go.RowKit

/-- What a call of a cursor's leaves. -/
def CurPost (w : World) (base q : Nat) (lp : Value) (ps : List PostV) (IM : List UInt8) (u mv : Nat) (told : Bool) (v : Value) (e : Ending) (w' : World) : Prop :=
  e = .returned v ∧ CurAt w' base q lp ps IM u mv told ∧ Eff (· = q) w w'
theorem curC_turn (d d' : Int) (mv mv' : Nat) (lp : Value) (pl bk : Int) (rv : Value) (told told' : Bool) (g : Nat) {V : Int} (hV : V = (mv' : Nat)) :
    ((((curC d mv lp pl bk rv told).setIfInBounds 1 (.int .i64 V)).setIfInBounds 3 (.int .i64 (g : Nat))).setIfInBounds 6 (.bool told')).setIfInBounds 0 (.int .i64 d') = curC d' mv' lp (((g + 1 : Nat) : Int) - 1) bk rv told' := by
  have e : (((g + 1 : Nat) : Int) - 1) = (g : Int) := by omega
  subst hV
  rw [e]
  simp [curC]
set_option maxRecDepth 100000 in
set_option maxHeartbeats 8000000 in
theorem goto_any (w : World) (base q : Nat) (lp : Value) (ps : List PostV) (IM : List UInt8) (d : Int) (u mv : Nat) (told : Bool) (bk : Int) (rv : Value) (h : CurB w base q lp ps IM d u mv told bk rv) (hbz : base ≤ w.heap.size) (hu : u ≤ ps.length) (g : Nat) (hg1 : u ≤ g) (hg2 : g ≤ ps.length)
    (hlen : ps.length ≤ 2000000) (hmv : mv ≤ 1000000000000000) (EA : Nat → Addr) (hS : Sent6 w EA) :
    Calls Tryd.prog 47 #[.pointer (some ⟨q, 0, none⟩), .int .i64 (g : Nat)] w (CurPost w base q lp ps IM (g + 1) (mv + costU u g ps.length) false (.int .i64 (docU ps (g + 1)))) := by
  obtain ⟨n, hn⟩ : ∃ n, n = ps.length := ⟨_, rfl⟩
  have D1 : ∀ e : Nat, Calls Tryd.prog 20 #[.pointer (some ⟨q, 0, none⟩)] (w.drewN e) fun e' w' => e' = .returned (.int .i64 (n : Nat)) ∧ w.drewN e = w' := fun e => by
    have h9 := docsC_any (w.drewN e) base q lp ps IM d u mv told bk rv (h.below (B := w.heap.size) (below_drewN (Below.refl _ w) e) (Nat.le_refl _))
    rw [← hn] at h9; exact h9
  obtain ⟨pl, hpl⟩ : ∃ pl : Int, (u : Int) - 1 = pl := ⟨_, rfl⟩
  have hblk := h.blk
  rw [hpl] at hblk
  have c1 : w.cell? ⟨q, 1, none⟩ = some (.int .i64 (mv : Nat)) := blk_cell hblk 1
  have c3 : w.cell? ⟨q, 3, none⟩ = some (.int .i64 pl) := blk_cell hblk 3
  have s0 : IntKind.i64.wrap (pl + 1) = (u : Int) := by rw [IntKind.wrap_i64]; omega
  rw [← hn] at hu hg2 hlen ⊢
  have H := Lib.hid h
  have HB := Lib.hid hblk
  have HS := Lib.hid hS
  have HPL := Lib.hid hpl
  have HN := Lib.hid hn
  clear h hblk hS hpl hn
  go_enter Tryd.func47, Tryd.ntmps47
  go_wp2
  go_quiet ((go_at_call 20; first | with_reducible exact quiet_left (D1 _) | with_reducible exact quiet_leftN (D1 _) | with_reducible exact quiet_leftNN (D1 _)))
  have hqw := lt_of_heap HB.out
  have hb2 : (w.drewN nq).heap[q]? = _ := HB.out
  have hE0 : Eff (· = q) w (w.drewN nq) := (Eff.refl _ w).drewN nq
  have c1' : (w.drewN nq).cell? ⟨q, 1, none⟩ = some (.int .i64 (mv : Nat)) := c1
  have c3' : (w.drewN nq).cell? ⟨q, 3, none⟩ = some (.int .i64 pl) := c3
  have hbel := below_drewN (Below.refl w.heap.size w) nq
  have H1 := Lib.hid (H.out.below hbel (Nat.le_refl _))
  have HS1 := Lib.hid (HS.out.below hbel)
  have hz1 : base ≤ (w.drewN nq).heap.size := hbz
  generalize w.drewN nq = w1 at hb2 hE0 c1' c3' H1 HS1 hz1 ⊢
  clear c1 c3 D1 hbel
  have c0 := blk_cell hb2 0
  have c6 := blk_cell hb2 6
  have f1 := blk_frozen hb2 1
  have f3 := blk_frozen hb2 3
  have f6 := blk_frozen hb2 6
  have f0 := blk_frozen hb2 0
  have HB2 := Lib.hid hb2
  have HE0 := Lib.hid hE0
  clear hb2 hE0
  by_cases hgn : g < n
  · by_cases h16 : u / 16 = g / 16
    · have t1 : decide (g < n) = true := decide_eq_true hgn
      have t2 : ((u : Int) / 16 == (g : Int) / 16) = true := by simp; omega
      obtain ⟨mc, hmc⟩ : ∃ mc, mc = g + 1 - u := ⟨_, rfl⟩
      have s1 : IntKind.i64.wrap ((g : Int) - pl) = (mc : Int) := by have := HPL.out; rw [show (g : Int) - pl = (mc : Int) by omega]; exact IntWalk.i64_in _ (by omega)
      have hcost : costU u g n = mc := by unfold costU; rw [if_neg (show ¬ g = n by omega), if_pos h16]; exact hmc.symm
      obtain ⟨mv2, hmv2⟩ : ∃ mv2, mv + mc = mv2 := ⟨_, rfl⟩
      have hV : ((mv2 : Nat) : Int) = (mv2 : Int) := rfl
      have s9 : IntKind.i64.wrap ((mv : Int) + (mc)) = (mv2 : Int) := by rw [show (mv : Int) + (mc) = (mv2 : Int) by omega]; exact IntWalk.i64_in _ (by omega)
      have b1 := blk_set HB2.out 1 (.int .i64 ((mv2 : Nat) : Int))
      have b3 := blk_set b1 3 (.int .i64 (g : Nat))
      have b6 := blk_set b3 6 (.bool false)
      have b0 := blk_set b6 0 (.int .i64 2147483647)
      have e4 : Eff (· = q) w1 ((((w1.setCell ⟨q, 1, none⟩ (.int .i64 ((mv2 : Nat) : Int))).setCell ⟨q, 3, none⟩ (.int .i64 (g : Nat))).setCell ⟨q, 6, none⟩ (.bool false)).setCell ⟨q, 0, none⟩ (.int .i64 2147483647)) :=
        Eff.setCell (F := fun i => i = q) (Eff.setCell (F := fun i => i = q) (Eff.setCell (F := fun i => i = q) (Eff.setCell (F := fun i => i = q) (Eff.refl _ w1) (p := ⟨q, 1, none⟩) (fun _ => rfl) _) (p := ⟨q, 3, none⟩) (fun _ => rfl) _) (p := ⟨q, 6, none⟩) (fun _ => rfl) _) (p := ⟨q, 0, none⟩) (fun _ => rfl) _
      rw [curC_turn _ _ _ _ _ _ _ _ _ _ _ hV] at b0
      have hT := H1.out.turn e4 b0 (by have := HN.out; omega)
      have HT := Lib.hid hT
      have HB4 := Lib.hid b0
      have HE4 := Lib.hid (HE0.out.trans e4 (fun i hi _ => hi))
      have HMV := Lib.hid (show mv2 = mv + costU u g n by rw [hcost]; exact hmv2.symm)
      have hcq1 : w1.cell? ⟨q, 0, none⟩ = some (.int .i64 d) := c0
      have hcq6 : w1.cell? ⟨q, 6, none⟩ = some (.bool told) := c6
      have hz4 : base ≤ ((((w1.setCell ⟨q, 1, none⟩ (.int .i64 ((mv2 : Nat) : Int))).setCell ⟨q, 3, none⟩ (.int .i64 (g : Nat))).setCell ⟨q, 6, none⟩ (.bool false)).setCell ⟨q, 0, none⟩ (.int .i64 2147483647)).heap.size := Nat.le_trans hz1 e4.size
      have hS4 : Sent6 ((((w1.setCell ⟨q, 1, none⟩ (.int .i64 ((mv2 : Nat) : Int))).setCell ⟨q, 3, none⟩ (.int .i64 (g : Nat))).setCell ⟨q, 6, none⟩ (.bool false)).setCell ⟨q, 0, none⟩ (.int .i64 2147483647)) EA := HS1.out.effq e4 H1.out.lo H1.out.hq
      have HS4 := Lib.hid hS4
      clear b1 b3 b6 b0 e4 hT hS4 hcost hmv2 c0 c6 hV hmc h16
      go_upto_region 4 with fail
      go_region
      go_upto_region 11 with fail
      generalize (((w1.setCell ⟨q, 1, none⟩ (.int .i64 ((mv2 : Nat) : Int))).setCell ⟨q, 3, none⟩ (.int .i64 (g : Nat))).setCell ⟨q, 6, none⟩ (.bool false)).setCell ⟨q, 0, none⟩ (.int .i64 2147483647) = w4 at HT HB4 HE4 HS4 hz4 ⊢
      have HT := Lib.hid (HT.out.below (B := w4.heap.size) (below_drewN (Below.refl _ _) 1) (Nat.le_refl _))
      have HS4 := Lib.hid (HS4.out.below (below_drewN (Below.refl _ _) 1))
      have HE4 := Lib.hid (HE4.out.drewN 1)
      have HB4 := Lib.hid (show (w4.drewN 1).heap[q]? = _ from HB4.out)
      have hz4 : base ≤ (w4.drewN 1).heap.size := hz4
      change Code.wp _ _ _ _ (w4.drewN 1)
      generalize w4.drewN 1 = w4 at HT HB4 HE4 HS4 hz4 ⊢
      clear f1 f3 f6 f0 hcq1 hcq6 c1' c3' s0
      have hgp : g < ps.length := by have := HN.out; omega
      have C1 := here_any w4 base q lp ps IM 2147483647 (g + 1) mv2 false bk rv HT.out hz4 g hgp EA HS4.out
      have hdoc := docU_at hgp
      obtain ⟨x, hx⟩ : ∃ x, ps[g] = x := ⟨_, rfl⟩
      rw [hx] at C1 hdoc
      have i1 : (g : Int) < (n : Int) := by omega
      have HD := Lib.hid hdoc
      clear hx hdoc
      go_wp2_with fail
      with_reducible refine C1.mono ?_
      rintro e w5 ⟨A5, C5, rfl, -, ⟨bk5, rv5, h5, -⟩, he5⟩
      clear C1
      have hb5 := h5.blk
      have c05 : w5.cell? ⟨q, 0, none⟩ = some (.int .i64 2147483647) := blk_cell hb5 0
      have f05 := blk_frozen hb5 0
      have b5 := blk_set hb5 0 (.int .i64 x.doc)
      have e5 : Eff (· = q) w5 (w5.setCell ⟨q, 0, none⟩ (.int .i64 x.doc)) := Eff.setCell (F := fun i => i = q) (Eff.refl _ w5) (p := ⟨q, 0, none⟩) (fun _ => rfl) _
      have e0 : (curC 2147483647 mv2 lp (((g + 1 : Nat) : Int) - 1) bk5 rv5 false).setIfInBounds 0 (.int .i64 x.doc) = curC x.doc mv2 lp (((g + 1 : Nat) : Int) - 1) bk5 rv5 false := by simp [curC]
      rw [e0] at b5
      have h6 := h5.turn e5 b5 h5.hu
      have HFIN := Lib.hid (show CurPost w base q lp ps IM (g + 1) (mv + costU u g n) false (.int .i64 (docU ps (g + 1))) (.returned (.int .i64 x.doc)) (w5.setCell ⟨q, 0, none⟩ (.int .i64 x.doc)) from ⟨by rw [HD.out], ⟨bk5, rv5, by rw [← HMV.out, HD.out]; exact h6⟩, (HE4.out.trans he5 (fun i hi _ => hi)).trans e5 (fun i hi _ => hi)⟩)
      clear h5 he5 hb5 b5 e5 e0 h6
      go_wp2
      go_ret
      exact HFIN.out
    · have t1 : decide (g < n) = true := decide_eq_true hgn
      obtain ⟨e, he⟩ : ∃ e, e = g / 16 := ⟨_, rfl⟩
      obtain ⟨f, hf⟩ : ∃ f, f = u / 16 := ⟨_, rfl⟩
      obtain ⟨r, hr⟩ : ∃ r, r = g % 16 := ⟨_, rfl⟩
      obtain ⟨dq, hdq⟩ : ∃ dq, dq = e - f := ⟨_, rfl⟩
      obtain ⟨dr, hdr⟩ : ∃ dr, dr = dq + r := ⟨_, rfl⟩
      obtain ⟨mc, hmc⟩ : ∃ mc, mc = dr + 1 := ⟨_, rfl⟩
      have E1 : (g : Int) / 16 = (e : Int) := by omega
      have E2 : (u : Int) / 16 = (f : Int) := by omega
      have E3 : (g : Int) % 16 = (r : Int) := by omega
      have t2 : ((f : Int) == (e : Int)) = false := beq_false_of_ne (by omega)
      have s1 : IntKind.i64.wrap ((e : Int) - (f : Int)) = (dq : Int) := by rw [show (e : Int) - (f : Int) = (dq : Int) by omega]; exact IntWalk.i64_in _ (by omega)
      have s2 : IntKind.i64.wrap ((dq : Int) + (r : Int)) = (dr : Int) := by rw [show (dq : Int) + (r : Int) = (dr : Int) by omega]; exact IntWalk.i64_in _ (by omega)
      have s3 : IntKind.i64.wrap ((dr : Int) + 1) = (mc : Int) := by rw [show (dr : Int) + 1 = (mc : Int) by omega]; exact IntWalk.i64_in _ (by omega)
      have hcost : costU u g n = mc := by unfold costU; rw [if_neg (show ¬ g = n by omega), if_neg h16, hmc, hdr, hdq, he, hf, hr]
      obtain ⟨mv2, hmv2⟩ : ∃ mv2, mv + mc = mv2 := ⟨_, rfl⟩
      have hV : ((mv2 : Nat) : Int) = (mv2 : Int) := rfl
      have s9 : IntKind.i64.wrap ((mv : Int) + (mc)) = (mv2 : Int) := by rw [show (mv : Int) + (mc) = (mv2 : Int) by omega]; exact IntWalk.i64_in _ (by omega)
      have b1 := blk_set HB2.out 1 (.int .i64 ((mv2 : Nat) : Int))
      have b3 := blk_set b1 3 (.int .i64 (g : Nat))
      have b6 := blk_set b3 6 (.bool false)
      have b0 := blk_set b6 0 (.int .i64 2147483647)
      have e4 : Eff (· = q) w1 ((((w1.setCell ⟨q, 1, none⟩ (.int .i64 ((mv2 : Nat) : Int))).setCell ⟨q, 3, none⟩ (.int .i64 (g : Nat))).setCell ⟨q, 6, none⟩ (.bool false)).setCell ⟨q, 0, none⟩ (.int .i64 2147483647)) :=
        Eff.setCell (F := fun i => i = q) (Eff.setCell (F := fun i => i = q) (Eff.setCell (F := fun i => i = q) (Eff.setCell (F := fun i => i = q) (Eff.refl _ w1) (p := ⟨q, 1, none⟩) (fun _ => rfl) _) (p := ⟨q, 3, none⟩) (fun _ => rfl) _) (p := ⟨q, 6, none⟩) (fun _ => rfl) _) (p := ⟨q, 0, none⟩) (fun _ => rfl) _
      rw [curC_turn _ _ _ _ _ _ _ _ _ _ _ hV] at b0
      have hT := H1.out.turn e4 b0 (by have := HN.out; omega)
      have HT := Lib.hid hT
      have HB4 := Lib.hid b0
      have HE4 := Lib.hid (HE0.out.trans e4 (fun i hi _ => hi))
      have HMV := Lib.hid (show mv2 = mv + costU u g n by rw [hcost]; exact hmv2.symm)
      have hcq1 : w1.cell? ⟨q, 0, none⟩ = some (.int .i64 d) := c0
      have hcq6 : w1.cell? ⟨q, 6, none⟩ = some (.bool told) := c6
      have hz4 : base ≤ ((((w1.setCell ⟨q, 1, none⟩ (.int .i64 ((mv2 : Nat) : Int))).setCell ⟨q, 3, none⟩ (.int .i64 (g : Nat))).setCell ⟨q, 6, none⟩ (.bool false)).setCell ⟨q, 0, none⟩ (.int .i64 2147483647)).heap.size := Nat.le_trans hz1 e4.size
      have hS4 : Sent6 ((((w1.setCell ⟨q, 1, none⟩ (.int .i64 ((mv2 : Nat) : Int))).setCell ⟨q, 3, none⟩ (.int .i64 (g : Nat))).setCell ⟨q, 6, none⟩ (.bool false)).setCell ⟨q, 0, none⟩ (.int .i64 2147483647)) EA := HS1.out.effq e4 H1.out.lo H1.out.hq
      have HS4 := Lib.hid hS4
      clear b1 b3 b6 b0 e4 hT hS4 hcost hmv2 c0 c6 hV hmc hdq hdr he hf hr h16
      go_upto_region 11 with fail
      generalize (((w1.setCell ⟨q, 1, none⟩ (.int .i64 ((mv2 : Nat) : Int))).setCell ⟨q, 3, none⟩ (.int .i64 (g : Nat))).setCell ⟨q, 6, none⟩ (.bool false)).setCell ⟨q, 0, none⟩ (.int .i64 2147483647) = w4 at HT HB4 HE4 HS4 hz4 ⊢
      clear f1 f3 f6 f0 hcq1 hcq6 c1' c3' s0
      have hgp : g < ps.length := by have := HN.out; omega
      have C1 := here_any w4 base q lp ps IM 2147483647 (g + 1) mv2 false bk rv HT.out hz4 g hgp EA HS4.out
      have hdoc := docU_at hgp
      obtain ⟨x, hx⟩ : ∃ x, ps[g] = x := ⟨_, rfl⟩
      rw [hx] at C1 hdoc
      have i1 : (g : Int) < (n : Int) := by omega
      have HD := Lib.hid hdoc
      clear hx hdoc
      go_wp2_with fail
      with_reducible refine C1.mono ?_
      rintro e w5 ⟨A5, C5, rfl, -, ⟨bk5, rv5, h5, -⟩, he5⟩
      clear C1
      have hb5 := h5.blk
      have c05 : w5.cell? ⟨q, 0, none⟩ = some (.int .i64 2147483647) := blk_cell hb5 0
      have f05 := blk_frozen hb5 0
      have b5 := blk_set hb5 0 (.int .i64 x.doc)
      have e5 : Eff (· = q) w5 (w5.setCell ⟨q, 0, none⟩ (.int .i64 x.doc)) := Eff.setCell (F := fun i => i = q) (Eff.refl _ w5) (p := ⟨q, 0, none⟩) (fun _ => rfl) _
      have e0 : (curC 2147483647 mv2 lp (((g + 1 : Nat) : Int) - 1) bk5 rv5 false).setIfInBounds 0 (.int .i64 x.doc) = curC x.doc mv2 lp (((g + 1 : Nat) : Int) - 1) bk5 rv5 false := by simp [curC]
      rw [e0] at b5
      have h6 := h5.turn e5 b5 h5.hu
      have HFIN := Lib.hid (show CurPost w base q lp ps IM (g + 1) (mv + costU u g n) false (.int .i64 (docU ps (g + 1))) (.returned (.int .i64 x.doc)) (w5.setCell ⟨q, 0, none⟩ (.int .i64 x.doc)) from ⟨by rw [HD.out], ⟨bk5, rv5, by rw [← HMV.out, HD.out]; exact h6⟩, (HE4.out.trans he5 (fun i hi _ => hi)).trans e5 (fun i hi _ => hi)⟩)
      clear h5 he5 hb5 b5 e5 e0 h6
      go_wp2
      go_ret
      exact HFIN.out
  · by_cases hun : u = n
    · have t1 : decide (g < n) = false := decide_eq_false hgn
      have t2 : ((u : Int) == (n : Int)) = true := by simp; omega
      obtain ⟨mc, hmc⟩ : ∃ mc, mc = 1 := ⟨_, rfl⟩
      have hcost : costU u g n = mc := by unfold costU; rw [if_pos (show g = n by omega), if_pos hun]; exact hmc.symm
      obtain ⟨mv2, hmv2⟩ : ∃ mv2, mv + mc = mv2 := ⟨_, rfl⟩
      have hV : ((mv2 : Nat) : Int) = (mv2 : Int) := rfl
      have s9 : IntKind.i64.wrap ((mv : Int) + (1)) = (mv2 : Int) := by rw [show (mv : Int) + (1) = (mv2 : Int) by omega]; exact IntWalk.i64_in _ (by omega)
      have b1 := blk_set HB2.out 1 (.int .i64 ((mv2 : Nat) : Int))
      have b3 := blk_set b1 3 (.int .i64 (g : Nat))
      have b6 := blk_set b3 6 (.bool false)
      have b0 := blk_set b6 0 (.int .i64 2147483647)
      have e4 : Eff (· = q) w1 ((((w1.setCell ⟨q, 1, none⟩ (.int .i64 ((mv2 : Nat) : Int))).setCell ⟨q, 3, none⟩ (.int .i64 (g : Nat))).setCell ⟨q, 6, none⟩ (.bool false)).setCell ⟨q, 0, none⟩ (.int .i64 2147483647)) :=
        Eff.setCell (F := fun i => i = q) (Eff.setCell (F := fun i => i = q) (Eff.setCell (F := fun i => i = q) (Eff.setCell (F := fun i => i = q) (Eff.refl _ w1) (p := ⟨q, 1, none⟩) (fun _ => rfl) _) (p := ⟨q, 3, none⟩) (fun _ => rfl) _) (p := ⟨q, 6, none⟩) (fun _ => rfl) _) (p := ⟨q, 0, none⟩) (fun _ => rfl) _
      rw [curC_turn _ _ _ _ _ _ _ _ _ _ _ hV] at b0
      have hT := H1.out.turn e4 b0 (by have := HN.out; omega)
      have HT := Lib.hid hT
      have HB4 := Lib.hid b0
      have HE4 := Lib.hid (HE0.out.trans e4 (fun i hi _ => hi))
      have HMV := Lib.hid (show mv2 = mv + costU u g n by rw [hcost]; exact hmv2.symm)
      have hcq1 : w1.cell? ⟨q, 0, none⟩ = some (.int .i64 d) := c0
      have hcq6 : w1.cell? ⟨q, 6, none⟩ = some (.bool told) := c6
      have hz4 : base ≤ ((((w1.setCell ⟨q, 1, none⟩ (.int .i64 ((mv2 : Nat) : Int))).setCell ⟨q, 3, none⟩ (.int .i64 (g : Nat))).setCell ⟨q, 6, none⟩ (.bool false)).setCell ⟨q, 0, none⟩ (.int .i64 2147483647)).heap.size := Nat.le_trans hz1 e4.size
      have hS4 : Sent6 ((((w1.setCell ⟨q, 1, none⟩ (.int .i64 ((mv2 : Nat) : Int))).setCell ⟨q, 3, none⟩ (.int .i64 (g : Nat))).setCell ⟨q, 6, none⟩ (.bool false)).setCell ⟨q, 0, none⟩ (.int .i64 2147483647)) EA := HS1.out.effq e4 H1.out.lo H1.out.hq
      have HS4 := Lib.hid hS4
      clear b1 b3 b6 b0 e4 hT hS4 hcost hmv2 c0 c6 hV hmc hun
      go_upto_region 11 with fail
      generalize (((w1.setCell ⟨q, 1, none⟩ (.int .i64 ((mv2 : Nat) : Int))).setCell ⟨q, 3, none⟩ (.int .i64 (g : Nat))).setCell ⟨q, 6, none⟩ (.bool false)).setCell ⟨q, 0, none⟩ (.int .i64 2147483647) = w4 at HT HB4 HE4 HS4 hz4 ⊢
      clear f1 f3 f6 f0 hcq1 hcq6 c1' c3' s0
      have i1 : ¬ ((g : Int) < (n : Int)) := by omega
      have hdoc := docU_end (ps := ps) (u := g + 1) (by have := HN.out; omega)
      have c04 : w4.cell? ⟨q, 0, none⟩ = some (.int .i64 2147483647) := blk_cell HB4.out 0
      have HFIN := Lib.hid (show CurPost w base q lp ps IM (g + 1) (mv + costU u g n) false (.int .i64 (docU ps (g + 1))) (.returned (.int .i64 2147483647)) w4 from ⟨by rw [hdoc], ⟨bk, rv, by rw [← HMV.out, hdoc]; exact HT.out⟩, HE4.out⟩)
      clear hdoc
      go_wp2
      go_ret
      exact HFIN.out
    · have t1 : decide (g < n) = false := decide_eq_false hgn
      have t2 : ((u : Int) == (n : Int)) = false := beq_false_of_ne (by omega)
      obtain ⟨e, he⟩ : ∃ e, e = (n + 15) / 16 := ⟨_, rfl⟩
      obtain ⟨f, hf⟩ : ∃ f, f = u / 16 := ⟨_, rfl⟩
      obtain ⟨dq, hdq⟩ : ∃ dq, dq = e - f := ⟨_, rfl⟩
      obtain ⟨mc, hmc⟩ : ∃ mc, mc = dq + 1 := ⟨_, rfl⟩
      have E1 : ((n : Int) + 15) / 16 = (e : Int) := by omega
      have E1b : ((n : Int) + 16 - 1) / 16 = (e : Int) := by omega
      have E2 : (u : Int) / 16 = (f : Int) := by omega
      have s0a : IntKind.i64.wrap ((n : Int) + 16) = (n : Int) + 16 := IntWalk.i64_in _ (by omega)
      have s0b : IntKind.i64.wrap ((n : Int) + 16 - 1) = (n : Int) + 15 := by rw [show (n : Int) + 16 - 1 = (n : Int) + 15 by omega]; exact IntWalk.i64_in _ (by omega)
      have s1 : IntKind.i64.wrap ((e : Int) - (f : Int)) = (dq : Int) := by rw [show (e : Int) - (f : Int) = (dq : Int) by omega]; exact IntWalk.i64_in _ (by omega)
      have s3 : IntKind.i64.wrap ((dq : Int) + 1) = (mc : Int) := by rw [show (dq : Int) + 1 = (mc : Int) by omega]; exact IntWalk.i64_in _ (by omega)
      have hcost : costU u g n = mc := by unfold costU; rw [if_pos (show g = n by omega), if_neg hun, hmc, hdq, he, hf]
      obtain ⟨mv2, hmv2⟩ : ∃ mv2, mv + mc = mv2 := ⟨_, rfl⟩
      have hV : ((mv2 : Nat) : Int) = (mv2 : Int) := rfl
      have s9 : IntKind.i64.wrap ((mv : Int) + (mc)) = (mv2 : Int) := by rw [show (mv : Int) + (mc) = (mv2 : Int) by omega]; exact IntWalk.i64_in _ (by omega)
      have b1 := blk_set HB2.out 1 (.int .i64 ((mv2 : Nat) : Int))
      have b3 := blk_set b1 3 (.int .i64 (g : Nat))
      have b6 := blk_set b3 6 (.bool false)
      have b0 := blk_set b6 0 (.int .i64 2147483647)
      have e4 : Eff (· = q) w1 ((((w1.setCell ⟨q, 1, none⟩ (.int .i64 ((mv2 : Nat) : Int))).setCell ⟨q, 3, none⟩ (.int .i64 (g : Nat))).setCell ⟨q, 6, none⟩ (.bool false)).setCell ⟨q, 0, none⟩ (.int .i64 2147483647)) :=
        Eff.setCell (F := fun i => i = q) (Eff.setCell (F := fun i => i = q) (Eff.setCell (F := fun i => i = q) (Eff.setCell (F := fun i => i = q) (Eff.refl _ w1) (p := ⟨q, 1, none⟩) (fun _ => rfl) _) (p := ⟨q, 3, none⟩) (fun _ => rfl) _) (p := ⟨q, 6, none⟩) (fun _ => rfl) _) (p := ⟨q, 0, none⟩) (fun _ => rfl) _
      rw [curC_turn _ _ _ _ _ _ _ _ _ _ _ hV] at b0
      have hT := H1.out.turn e4 b0 (by have := HN.out; omega)
      have HT := Lib.hid hT
      have HB4 := Lib.hid b0
      have HE4 := Lib.hid (HE0.out.trans e4 (fun i hi _ => hi))
      have HMV := Lib.hid (show mv2 = mv + costU u g n by rw [hcost]; exact hmv2.symm)
      have hcq1 : w1.cell? ⟨q, 0, none⟩ = some (.int .i64 d) := c0
      have hcq6 : w1.cell? ⟨q, 6, none⟩ = some (.bool told) := c6
      have hz4 : base ≤ ((((w1.setCell ⟨q, 1, none⟩ (.int .i64 ((mv2 : Nat) : Int))).setCell ⟨q, 3, none⟩ (.int .i64 (g : Nat))).setCell ⟨q, 6, none⟩ (.bool false)).setCell ⟨q, 0, none⟩ (.int .i64 2147483647)).heap.size := Nat.le_trans hz1 e4.size
      have hS4 : Sent6 ((((w1.setCell ⟨q, 1, none⟩ (.int .i64 ((mv2 : Nat) : Int))).setCell ⟨q, 3, none⟩ (.int .i64 (g : Nat))).setCell ⟨q, 6, none⟩ (.bool false)).setCell ⟨q, 0, none⟩ (.int .i64 2147483647)) EA := HS1.out.effq e4 H1.out.lo H1.out.hq
      have HS4 := Lib.hid hS4
      clear b1 b3 b6 b0 e4 hT hS4 hcost hmv2 c0 c6 hV hmc hdq he hf hun
      go_upto_region 11 with fail
      generalize (((w1.setCell ⟨q, 1, none⟩ (.int .i64 ((mv2 : Nat) : Int))).setCell ⟨q, 3, none⟩ (.int .i64 (g : Nat))).setCell ⟨q, 6, none⟩ (.bool false)).setCell ⟨q, 0, none⟩ (.int .i64 2147483647) = w4 at HT HB4 HE4 HS4 hz4 ⊢
      clear f1 f3 f6 f0 hcq1 hcq6 c1' c3' s0
      have i1 : ¬ ((g : Int) < (n : Int)) := by omega
      have hdoc := docU_end (ps := ps) (u := g + 1) (by have := HN.out; omega)
      have c04 : w4.cell? ⟨q, 0, none⟩ = some (.int .i64 2147483647) := blk_cell HB4.out 0
      have HFIN := Lib.hid (show CurPost w base q lp ps IM (g + 1) (mv + costU u g n) false (.int .i64 (docU ps (g + 1))) (.returned (.int .i64 2147483647)) w4 from ⟨by rw [hdoc], ⟨bk, rv, by rw [← HMV.out, hdoc]; exact HT.out⟩, HE4.out⟩)
      clear hdoc
      go_wp2
      go_ret
      exact HFIN.out
end Go.Proofs.YtaijepjhmjjecaaDoor

/- The phrase's frequency, plain: rising lists, what both sides count, and its rules. No program occurs here. -/
namespace Go.Proofs.YtaijepjhmjjecaaDoor
set_option linter.unusedVariables false

def Rise (l : List Int) : Prop := l.Pairwise (· < ·)
def insI (x : Int) : List Int → List Int
  | [] => [x]
  | y :: r => if x < y then x :: y :: r else if x = y then y :: r else y :: insI x r
theorem insI_mem (x : Int) : ∀ (l : List Int) (z : Int), z ∈ insI x l ↔ z = x ∨ z ∈ l
  | [], z => by simp [insI]
  | y :: r, z => by
    unfold insI
    split
    · simp
    · split
      · rename_i h1 h2; subst h2; simp
      · simp only [List.mem_cons, insI_mem x r z]
        constructor
        · rintro (h | h | h) <;> simp [h]
        · rintro (h | h | h) <;> simp [h]
theorem insI_rise (x : Int) : ∀ (l : List Int), Rise l → Rise (insI x l)
  | [], _ => List.pairwise_singleton _ _
  | y :: r, h => by
    obtain ⟨h1, h2⟩ := List.pairwise_cons.1 h
    unfold insI
    split
    · next hl =>
      refine List.pairwise_cons.2 ⟨fun z hz => ?_, h⟩
      rcases List.mem_cons.1 hz with rfl | hz
      · exact hl
      · have := h1 z hz; omega
    · split
      · exact h
      · refine List.pairwise_cons.2 ⟨fun z hz => ?_, insI_rise x r h2⟩
        rcases (insI_mem x r z).1 hz with rfl | hz
        · omega
        · exact h1 z hz
theorem insI_len (x : Int) : ∀ (l : List Int), Rise l → (insI x l).length = if x ∈ l then l.length else l.length + 1
  | [], _ => by simp [insI]
  | y :: r, h => by
    obtain ⟨h1, h2⟩ := List.pairwise_cons.1 h
    unfold insI
    split
    · next hl =>
      have hn : ¬ x ∈ y :: r := fun hm => by
        rcases List.mem_cons.1 hm with rfl | hm
        · omega
        · have := h1 x hm; omega
      rw [if_neg hn]; rfl
    · split
      · next _ he => subst he; simp
      · next hl hne =>
        have ih := insI_len x r h2
        by_cases hm : x ∈ r
        · rw [if_pos hm] at ih
          rw [if_pos (List.mem_cons_of_mem _ hm), List.length_cons, ih]; rfl
        · rw [if_neg hm] at ih
          have hn : ¬ x ∈ y :: r := fun h9 => by
            rcases List.mem_cons.1 h9 with h9 | h9
            · exact hne h9
            · exact hm h9
          rw [if_neg hn, List.length_cons, ih]; rfl
def riseOf (l : List Int) : List Int := l.foldl (fun r x => insI x r) []
theorem riseOf_snoc (l : List Int) (x : Int) : riseOf (l ++ [x]) = insI x (riseOf l) := by simp [riseOf]
theorem foldIns_mem : ∀ (l r : List Int) (z : Int), z ∈ l.foldl (fun r x => insI x r) r ↔ z ∈ l ∨ z ∈ r
  | [], r, z => by simp
  | x :: l, r, z => by
    rw [List.foldl_cons, foldIns_mem l, insI_mem]
    simp only [List.mem_cons]
    constructor
    · rintro (h | h | h) <;> simp [h]
    · rintro ((h | h) | h) <;> simp [h]
theorem riseOf_mem (l : List Int) (z : Int) : z ∈ riseOf l ↔ z ∈ l := by simp [riseOf, foldIns_mem]
theorem foldIns_rise : ∀ (l r : List Int), Rise r → Rise (l.foldl (fun r x => insI x r) r)
  | [], r, h => h
  | x :: l, r, h => foldIns_rise l _ (insI_rise x r h)
theorem riseOf_rise (l : List Int) : Rise (riseOf l) := foldIns_rise l [] List.Pairwise.nil
/-- Two rising lists with the same members are one. -/
theorem rise_ext : ∀ {a b : List Int}, Rise a → Rise b → (∀ z, z ∈ a ↔ z ∈ b) → a = b
  | [], [], _, _, _ => rfl
  | [], y :: r, _, _, h => absurd ((h y).2 (by simp)) (by simp)
  | x :: l, [], _, _, h => absurd ((h x).1 (by simp)) (by simp)
  | x :: l, y :: r, ha, hb, h => by
    obtain ⟨a1, a2⟩ := List.pairwise_cons.1 ha
    obtain ⟨b1, b2⟩ := List.pairwise_cons.1 hb
    have hxy : x = y := by
      have h1 := (h x).1 (by simp)
      have h2 := (h y).2 (by simp)
      rcases List.mem_cons.1 h1 with e | h1
      · exact e
      · rcases List.mem_cons.1 h2 with e | h2
        · exact e.symm
        · have := b1 x h1; have := a1 y h2; omega
    subst hxy
    congr 1
    refine rise_ext a2 b2 fun z => ?_
    constructor
    · intro hz
      have h1 := (h z).1 (List.mem_cons_of_mem _ hz)
      rcases List.mem_cons.1 h1 with rfl | h1
      · exact absurd (a1 z hz) (by omega)
      · exact h1
    · intro hz
      have h1 := (h z).2 (List.mem_cons_of_mem _ hz)
      rcases List.mem_cons.1 h1 with rfl | h1
      · exact absurd (b1 z hz) (by omega)
      · exact h1
theorem riseOf_ext {a b : List Int} (h : ∀ z, z ∈ a ↔ z ∈ b) : riseOf a = riseOf b :=
  rise_ext (riseOf_rise a) (riseOf_rise b) fun z => by rw [riseOf_mem, riseOf_mem, h]
theorem riseOf_self {a : List Int} (h : Rise a) : riseOf a = a := rise_ext (riseOf_rise a) h fun z => riseOf_mem a z
/-! ### What both sides count -/
def shiftL (o : Int) (l : List Int) : List Int := l.map (· - o)
def hasIn (l : List Int) (lo hi : Int) : Bool := l.any fun x => decide (lo ≤ x) && decide (x ≤ hi)
theorem hasIn_iff {l : List Int} {lo hi : Int} : hasIn l lo hi = true ↔ ∃ x ∈ l, lo ≤ x ∧ x ≤ hi := by simp [hasIn]
theorem hasIn_ext {a b : List Int} (h : ∀ z, z ∈ a ↔ z ∈ b) (lo hi : Int) : hasIn a lo hi = hasIn b lo hi := by
  rw [Bool.eq_iff_iff, hasIn_iff, hasIn_iff]
  constructor
  · rintro ⟨x, hx, r⟩; exact ⟨x, (h x).1 hx, r⟩
  · rintro ⟨x, hx, r⟩; exact ⟨x, (h x).2 hx, r⟩
def movedV : List (List Int) → List Int → List (List Int)
  | l :: ls, o :: os => shiftL o l :: movedV ls os
  | _, _ => []
theorem movedV_length : ∀ (ls : List (List Int)) (os : List Int), ls.length = os.length → (movedV ls os).length = ls.length
  | [], [], _ => rfl
  | l :: ls, o :: os, h => by rw [movedV, List.length_cons, List.length_cons, movedV_length ls os (by simpa using h)]
theorem movedV_get : ∀ (ls : List (List Int)) (os : List Int) (i : Nat) (h : i < ls.length) (h2 : i < os.length) (h3 : i < (movedV ls os).length), (movedV ls os)[i] = shiftL os[i] ls[i]
  | l :: ls, o :: os, 0, h, h2, h3 => rfl
  | l :: ls, o :: os, i + 1, h, h2, h3 => movedV_get ls os i (by simpa using h) (by simpa using h2) (by simpa [movedV] using h3)
/-- The count over the tried places. -/
def cntV (S : List Int) (ms : List (List Int)) (slop : Int) : Nat := (S.filter fun b => ms.all fun l => hasIn l b (b + slop)).length
def okN (x : Int) : Bool := decide (0 ≤ x) && decide (x ≤ 2147483646)
theorem okN_iff {x : Int} : okN x = true ↔ 0 ≤ x ∧ x ≤ 2147483646 := by simp [okN]
def phOk (ls : List (List Int)) (os : List Int) (slop : Int) : Bool :=
  (decide (ls ≠ []) && decide (ls.length = os.length) && decide (0 ≤ slop) && decide (slop ≤ 2147483647)) && (os.all okN && ls.all fun l => l.all okN)
def phV (ls : List (List Int)) (os : List Int) (slop : Int) : Nat :=
  if phOk ls os slop = true then cntV (riseOf (movedV ls os).flatten) (movedV ls os) slop else 0
/-! ### Sorted, then each once -/
theorem compact_rise (d : Array Int) (hs : d.toList.Pairwise (· ≤ ·)) : ∀ m, m ≤ d.size → Rise (Lib.compactUpTo d m) ∧ (∀ z, z ∈ Lib.compactUpTo d m ↔ z ∈ d.toList.take m) ∧ ∀ z ∈ Lib.compactUpTo d m, ∀ j, m = j + 1 → z ≤ d[j]!
  | 0, _ => ⟨by simp [Lib.compactUpTo, Rise], by simp [Lib.compactUpTo], fun z hz => by simp [Lib.compactUpTo] at hz⟩
  | m + 1, hm => by
    obtain ⟨i1, i2, i3⟩ := compact_rise d hs m (by omega)
    have hd : d[m]! = d[m]'(by omega) := getElem!_pos d m (by omega)
    have htk : d.toList.take (m + 1) = d.toList.take m ++ [d[m]'(by omega)] := by
      rw [List.take_succ_eq_append_getElem (by simp; omega)]; simp
    have hle : ∀ j, j < m → d[j]! ≤ d[m]! := fun j hj => by
      have := List.pairwise_iff_getElem.1 hs j m (by simp; omega) (by simp; omega) hj
      rw [hd, getElem!_pos d j (by omega)]
      simpa using this
    rw [Lib.compactUpTo_succ]
    by_cases hk : Lib.keeps d m = true
    · rw [if_pos hk]
      have hne : m = 0 ∨ d[m]! ≠ d[m - 1]! := of_decide_eq_true hk
      have hlt : ∀ z ∈ Lib.compactUpTo d m, z < d[m]! := fun z hz => by
        rcases hne with h0 | h0
        · subst h0; simp [Lib.compactUpTo] at hz
        · have h1 := i3 z hz (m - 1) (by
            have : m ≠ 0 := fun e => by subst e; simp [Lib.compactUpTo] at hz
            omega)
          have : m ≠ 0 := fun e => by subst e; simp [Lib.compactUpTo] at hz
          have h2 := hle (m - 1) (by omega)
          omega
      refine ⟨List.pairwise_append.2 ⟨i1, List.pairwise_singleton _ _, fun z hz y hy => by rw [List.mem_singleton.1 hy]; exact hlt z hz⟩, fun z => ?_, fun z hz j hj => ?_⟩
      · rw [htk, List.mem_append, List.mem_append, i2, hd]
      · obtain rfl : j = m := by omega
        rcases List.mem_append.1 hz with hz | hz
        · exact Int.le_of_lt (hlt z hz)
        · rw [List.mem_singleton.1 hz]; exact Int.le_refl _
    · rw [if_neg hk, List.append_nil]
      have hne : ¬ (m = 0 ∨ d[m]! ≠ d[m - 1]!) := fun h => hk (decide_eq_true h)
      have h0 : m ≠ 0 := fun e => hne (.inl e)
      have he : d[m]! = d[m - 1]! := by
        refine Classical.byContradiction fun h => hne (.inr h)
      refine ⟨i1, fun z => ?_, fun z hz j hj => ?_⟩
      · rw [htk, List.mem_append, i2]
        constructor
        · exact .inl
        · rintro (h | h)
          · exact h
          · rw [List.mem_singleton.1 h, ← hd, he, getElem!_pos d (m - 1) (by omega)]
            refine List.mem_iff_getElem.2 ⟨m - 1, by simp; omega, by simp⟩
      · obtain rfl : j = m := by omega
        have := i3 z hz (j - 1) (by omega)
        omega
theorem compact_sorted {l : List Int} (hs : l.Pairwise (· ≤ ·)) : Lib.compact l = riseOf l := by
  obtain ⟨h1, h2, _⟩ := compact_rise l.toArray (by simpa using hs) l.length (by simp)
  refine rise_ext h1 (riseOf_rise l) fun z => ?_
  rw [riseOf_mem]
  show z ∈ Lib.compactUpTo l.toArray l.length ↔ _
  rw [h2]; simp
theorem sortI_mem (l : List Int) (z : Int) : z ∈ l.mergeSort (fun x y => decide (x ≤ y)) ↔ z ∈ l := List.mem_mergeSort
theorem sortI_le (l : List Int) : (l.mergeSort fun x y => decide (x ≤ y)).Pairwise (· ≤ ·) := by
  have h := List.pairwise_mergeSort (le := fun x y : Int => decide (x ≤ y)) (fun a b c h1 h2 => decide_eq_true (Int.le_trans (of_decide_eq_true h1) (of_decide_eq_true h2))) (fun a b => by
    rcases Int.le_total a b with h | h <;> simp [h]) l
  exact h.imp fun hxy => of_decide_eq_true hxy
theorem cntV_ext {S S' : List Int} {ms ms' : List (List Int)} {slop : Int} (hS : S = S') (hl : ms.length = ms'.length) (h : ∀ (i : Nat) (h1 : i < ms.length) (h2 : i < ms'.length), ∀ z, z ∈ ms[i] ↔ z ∈ ms'[i]) : cntV S ms slop = cntV S' ms' slop := by
  subst hS
  unfold cntV
  congr 1
  refine List.filter_congr fun b _ => ?_
  rw [Bool.eq_iff_iff, List.all_eq_true, List.all_eq_true]
  constructor
  · intro h9 l hl'
    obtain ⟨i, hi, rfl⟩ := List.mem_iff_getElem.1 hl'
    rw [← hasIn_ext (h i (by omega) hi)]
    exact h9 _ (List.getElem_mem _)
  · intro h9 l hl'
    obtain ⟨i, hi, rfl⟩ := List.mem_iff_getElem.1 hl'
    rw [hasIn_ext (h i hi (by omega))]
    exact h9 _ (List.getElem_mem _)
end Go.Proofs.YtaijepjhmjjecaaDoor

/- The phrase's frequency, plain: two rising lists merged; a number looked for. No program occurs here. -/
namespace Go.Proofs.YtaijepjhmjjecaaDoor
set_option linter.unusedVariables false

/-- The merge's state: out is what stands ahead of both places. -/
structure UniS (a b : List Int) (i j : Nat) (out : List Int) : Prop where
  hi : i ≤ a.length
  hj : j ≤ b.length
  eq : out = riseOf (a.take i ++ b.take j)
  la : ∀ z ∈ out, ∀ h : i < a.length, z < a[i]
  lb : ∀ z ∈ out, ∀ h : j < b.length, z < b[j]
theorem UniS.start (a b : List Int) : UniS a b 0 0 [] := ⟨Nat.zero_le _, Nat.zero_le _, by simp [riseOf], fun z hz => absurd hz (by simp), fun z hz => absurd hz (by simp)⟩
theorem rise_lt {a : List Int} (h : Rise a) {i j : Nat} (hj : j < a.length) (hij : i < j) : a[i]'(by omega) < a[j] := List.pairwise_iff_getElem.1 h i j (by omega) hj hij
theorem take_mem_succ {a : List Int} {i : Nat} (h : i < a.length) (z : Int) : z ∈ a.take (i + 1) ↔ z ∈ a.take i ∨ z = a[i] := by
  rw [List.take_succ_eq_append_getElem h, List.mem_append, List.mem_singleton]
theorem UniS.put {a b : List Int} {i j i' j' : Nat} {out : List Int} {x : Int} (h : UniS a b i j out) (hi : i' ≤ a.length) (hj : j' ≤ b.length)
    (hx : ∀ z ∈ out, z < x) (hm : ∀ z, (z ∈ a.take i' ∨ z ∈ b.take j') ↔ (z ∈ a.take i ∨ z ∈ b.take j) ∨ z = x) (ha : ∀ h : i' < a.length, x < a[i']) (hb : ∀ h : j' < b.length, x < b[j']) : UniS a b i' j' (out ++ [x]) := by
  have hl : ∀ z ∈ out ++ [x], z ≤ x := fun z hz => by
    rcases List.mem_append.1 hz with hz | hz
    · exact Int.le_of_lt (hx z hz)
    · rw [List.mem_singleton.1 hz]; exact Int.le_refl _
  refine ⟨hi, hj, ?_, fun z hz h9 => by have := hl z hz; have := ha h9; omega, fun z hz h9 => by have := hl z hz; have := hb h9; omega⟩
  refine rise_ext (List.pairwise_append.2 ⟨by rw [h.eq]; exact riseOf_rise _, List.pairwise_singleton _ _, fun z hz y hy => by rw [List.mem_singleton.1 hy]; exact hx z hz⟩) (riseOf_rise _) fun z => ?_
  rw [List.mem_append, List.mem_singleton, h.eq, riseOf_mem, riseOf_mem, List.mem_append, List.mem_append, hm]
theorem UniS.left {a b : List Int} (hA : Rise a) {i j : Nat} {out : List Int} (h : UniS a b i j out) (hi : i < a.length) (hlt : ∀ hj : j < b.length, a[i] < b[j]) : UniS a b (i + 1) j (out ++ [a[i]]) :=
  h.put hi h.hj (fun z hz => h.la z hz hi) (fun z => by rw [take_mem_succ hi]; constructor <;> (rintro ((h | h) | h) <;> simp [h])) (fun h9 => rise_lt hA h9 (by omega)) hlt
theorem UniS.right {a b : List Int} (hB : Rise b) {i j : Nat} {out : List Int} (h : UniS a b i j out) (hj : j < b.length) (hlt : ∀ hi : i < a.length, b[j] < a[i]) : UniS a b i (j + 1) (out ++ [b[j]]) :=
  h.put h.hi hj (fun z hz => h.lb z hz hj) (fun z => by
    rw [take_mem_succ hj]
    constructor
    · rintro (h | h | h) <;> simp [h]
    · rintro ((h | h) | h) <;> simp [h]) hlt (fun h9 => rise_lt hB h9 (by omega))
theorem UniS.both {a b : List Int} (hA : Rise a) (hB : Rise b) {i j : Nat} {out : List Int} (h : UniS a b i j out) (hi : i < a.length) (hj : j < b.length) (he : a[i] = b[j]) : UniS a b (i + 1) (j + 1) (out ++ [a[i]]) :=
  h.put hi hj (fun z hz => h.la z hz hi) (fun z => by
    rw [take_mem_succ hi, take_mem_succ hj, he]
    constructor
    · rintro ((h | h) | h | h) <;> simp [h]
    · rintro ((h | h) | h) <;> simp [h]) (fun h9 => rise_lt hA h9 (by omega)) (fun h9 => by rw [he]; exact rise_lt hB h9 (by omega))
theorem UniS.fin {a b : List Int} {i j : Nat} {out : List Int} (h : UniS a b i j out) (hi : ¬ i < a.length) (hj : ¬ j < b.length) : out = riseOf (a ++ b) := by
  rw [h.eq, List.take_of_length_le (by omega), List.take_of_length_le (by omega)]
/-- Looked for by halves. -/
structure BetS (l : List Int) (lo : Int) (f t : Nat) : Prop where
  le : f ≤ t
  ht : t ≤ l.length
  low : ∀ (k : Nat) (h : k < l.length), k < f → l[k] < lo
  high : ∀ (k : Nat) (h : k < l.length), t ≤ k → lo ≤ l[k]
theorem BetS.start (l : List Int) (lo : Int) : BetS l lo 0 l.length := ⟨Nat.zero_le _, Nat.le_refl _, fun k h h9 => by omega, fun k h h9 => by omega⟩
theorem BetS.up {l : List Int} (hl : Rise l) {lo : Int} {f t k : Nat} (h : BetS l lo f t) (hk : k < l.length) (h1 : f ≤ k) (h2 : k < t) (hlt : l[k] < lo) : BetS l lo (k + 1) t :=
  ⟨by omega, h.ht, fun m hm h9 => by
    rcases Nat.lt_or_eq_of_le (show m ≤ k by omega) with h10 | h10
    · have := rise_lt hl hk h10; omega
    · subst h10; exact hlt, h.high⟩
theorem BetS.down {l : List Int} (hl : Rise l) {lo : Int} {f t k : Nat} (h : BetS l lo f t) (hk : k < l.length) (h1 : f ≤ k) (h2 : k < t) (hge : lo ≤ l[k]) : BetS l lo f k :=
  ⟨h1, by omega, h.low, fun m hm h9 => by
    rcases Nat.lt_or_eq_of_le h9 with h10 | h10
    · have := rise_lt hl hm h10; omega
    · subst h10; exact hge⟩
theorem BetS.fin {l : List Int} (hl : Rise l) {lo hi : Int} {f : Nat} (h : BetS l lo f f) : hasIn l lo hi = if hf : f < l.length then decide (l[f] ≤ hi) else false := by
  rw [Bool.eq_iff_iff, hasIn_iff]
  constructor
  · rintro ⟨x, hx, h1, h2⟩
    obtain ⟨k, hk, rfl⟩ := List.mem_iff_getElem.1 hx
    have hfk : f ≤ k := by
      rcases Nat.lt_or_ge k f with h9 | h9
      · have := h.low k hk h9; omega
      · exact h9
    have hf : f < l.length := by omega
    rw [dif_pos hf]
    refine decide_eq_true ?_
    rcases Nat.lt_or_eq_of_le hfk with h9 | h9
    · have := rise_lt hl hk h9; omega
    · subst h9; exact h2
  · intro h9
    split at h9
    · next hf => exact ⟨l[f], List.getElem_mem hf, h.high f hf (Nat.le_refl _), of_decide_eq_true h9⟩
    · cases h9
end Go.Proofs.YtaijepjhmjjecaaDoor
