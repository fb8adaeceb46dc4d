/- cursor: goTo (printed by wip/gen_goto.py). -/
import Derived.Test.YtaijepjhmjjecaaDoorZG18
import Derived.Test.YtaijepjhmjjecaaDoorZG18
namespace Go.Proofs.YtaijepjhmjjecaaDoor
set_option linter.unusedVariables false
open Go.ChangeShapes Go.WideShapes Go.ChangeAt Go.RowKit

/-- What a call of a cursor's leaves. -/
def CurPost (w : World) (base q : Nat) (lp : Value) (ps : List PostV) (IM : List UInt8) (u mv : Nat) (told : Bool) (v : Value) (e : Ending) (w' : World) : Prop :=
  e = .returned v ∧ CurAt w' base q lp ps IM u mv told ∧ Eff (· = q) w w'
theorem curC_turn (d d' : Int) (mv mv' : Nat) (lp : Value) (pl bk : Int) (rv : Value) (told told' : Bool) (g : Nat) {V : Int} (hV : V = (mv' : Nat)) :
    ((((curC d mv lp pl bk rv told).setIfInBounds 1 (.int .i64 V)).setIfInBounds 3 (.int .i64 (g : Nat))).setIfInBounds 6 (.bool told')).setIfInBounds 0 (.int .i64 d') = curC d' mv' lp (((g + 1 : Nat) : Int) - 1) bk rv told' := by
  have e : (((g + 1 : Nat) : Int) - 1) = (g : Int) := by omega
  subst hV
  rw [e]
  simp [curC]
set_option maxRecDepth 100000 in
set_option maxHeartbeats 8000000 in
theorem goto_any (w : World) (base q : Nat) (lp : Value) (ps : List PostV) (IM : List UInt8) (d : Int) (u mv : Nat) (told : Bool) (bk : Int) (rv : Value) (h : CurB w base q lp ps IM d u mv told bk rv) (hbz : base ≤ w.heap.size) (hu : u ≤ ps.length) (g : Nat) (hg1 : u ≤ g) (hg2 : g ≤ ps.length)
    (hlen : ps.length ≤ 2000000) (hmv : mv ≤ 1000000000000000) (EA : Nat → Addr) (hS : Sent6 w EA) :
    Calls Tryd.prog 47 #[.pointer (some ⟨q, 0, none⟩), .int .i64 (g : Nat)] w (CurPost w base q lp ps IM (g + 1) (mv + costU u g ps.length) false (.int .i64 (docU ps (g + 1)))) := by
  obtain ⟨n, hn⟩ : ∃ n, n = ps.length := ⟨_, rfl⟩
  have D1 : ∀ e : Nat, Calls Tryd.prog 20 #[.pointer (some ⟨q, 0, none⟩)] (w.drewN e) fun e' w' => e' = .returned (.int .i64 (n : Nat)) ∧ w.drewN e = w' := fun e => by
    have h9 := docsC_any (w.drewN e) base q lp ps IM d u mv told bk rv (h.below (B := w.heap.size) (below_drewN (Below.refl _ w) e) (Nat.le_refl _))
    rw [← hn] at h9; exact h9
  obtain ⟨pl, hpl⟩ : ∃ pl : Int, (u : Int) - 1 = pl := ⟨_, rfl⟩
  have hblk := h.blk
  rw [hpl] at hblk
  have c1 : w.cell? ⟨q, 1, none⟩ = some (.int .i64 (mv : Nat)) := blk_cell hblk 1
  have c3 : w.cell? ⟨q, 3, none⟩ = some (.int .i64 pl) := blk_cell hblk 3
  have s0 : IntKind.i64.wrap (pl + 1) = (u : Int) := by rw [IntKind.wrap_i64]; omega
  rw [← hn] at hu hg2 hlen ⊢
  have H := Lib.hid h
  have HB := Lib.hid hblk
  have HS := Lib.hid hS
  have HPL := Lib.hid hpl
  have HN := Lib.hid hn
  clear h hblk hS hpl hn
  go_enter Tryd.func47, Tryd.ntmps47
  go_wp2
  go_quiet ((go_at_call 20; first | with_reducible exact quiet_left (D1 _) | with_reducible exact quiet_leftN (D1 _) | with_reducible exact quiet_leftNN (D1 _)))
  have hqw := lt_of_heap HB.out
  have hb2 : (w.drewN nq).heap[q]? = _ := HB.out
  have hE0 : Eff (· = q) w (w.drewN nq) := (Eff.refl _ w).drewN nq
  have c1' : (w.drewN nq).cell? ⟨q, 1, none⟩ = some (.int .i64 (mv : Nat)) := c1
  have c3' : (w.drewN nq).cell? ⟨q, 3, none⟩ = some (.int .i64 pl) := c3
  have hbel := below_drewN (Below.refl w.heap.size w) nq
  have H1 := Lib.hid (H.out.below hbel (Nat.le_refl _))
  have HS1 := Lib.hid (HS.out.below hbel)
  have hz1 : base ≤ (w.drewN nq).heap.size := hbz
  generalize w.drewN nq = w1 at hb2 hE0 c1' c3' H1 HS1 hz1 ⊢
  clear c1 c3 D1 hbel
  have c0 := blk_cell hb2 0
  have c6 := blk_cell hb2 6
  have f1 := blk_frozen hb2 1
  have f3 := blk_frozen hb2 3
  have f6 := blk_frozen hb2 6
  have f0 := blk_frozen hb2 0
  have HB2 := Lib.hid hb2
  have HE0 := Lib.hid hE0
  clear hb2 hE0
  by_cases hgn : g < n
  · by_cases h16 : u / 16 = g / 16
    · have t1 : decide (g < n) = true := decide_eq_true hgn
      have t2 : ((u : Int) / 16 == (g : Int) / 16) = true := by simp; omega
      obtain ⟨mc, hmc⟩ : ∃ mc, mc = g + 1 - u := ⟨_, rfl⟩
      have s1 : IntKind.i64.wrap ((g : Int) - pl) = (mc : Int) := by have := HPL.out; rw [show (g : Int) - pl = (mc : Int) by omega]; exact IntWalk.i64_in _ (by omega)
      have hcost : costU u g n = mc := by unfold costU; rw [if_neg (show ¬ g = n by omega), if_pos h16]; exact hmc.symm
      obtain ⟨mv2, hmv2⟩ : ∃ mv2, mv + mc = mv2 := ⟨_, rfl⟩
      have hV : ((mv2 : Nat) : Int) = (mv2 : Int) := rfl
      have s9 : IntKind.i64.wrap ((mv : Int) + (mc)) = (mv2 : Int) := by rw [show (mv : Int) + (mc) = (mv2 : Int) by omega]; exact IntWalk.i64_in _ (by omega)
      have b1 := blk_set HB2.out 1 (.int .i64 ((mv2 : Nat) : Int))
      have b3 := blk_set b1 3 (.int .i64 (g : Nat))
      have b6 := blk_set b3 6 (.bool false)
      have b0 := blk_set b6 0 (.int .i64 2147483647)
      have e4 : Eff (· = q) w1 ((((w1.setCell ⟨q, 1, none⟩ (.int .i64 ((mv2 : Nat) : Int))).setCell ⟨q, 3, none⟩ (.int .i64 (g : Nat))).setCell ⟨q, 6, none⟩ (.bool false)).setCell ⟨q, 0, none⟩ (.int .i64 2147483647)) :=
        Eff.setCell (F := fun i => i = q) (Eff.setCell (F := fun i => i = q) (Eff.setCell (F := fun i => i = q) (Eff.setCell (F := fun i => i = q) (Eff.refl _ w1) (p := ⟨q, 1, none⟩) (fun _ => rfl) _) (p := ⟨q, 3, none⟩) (fun _ => rfl) _) (p := ⟨q, 6, none⟩) (fun _ => rfl) _) (p := ⟨q, 0, none⟩) (fun _ => rfl) _
      rw [curC_turn _ _ _ _ _ _ _ _ _ _ _ hV] at b0
      have hT := H1.out.turn e4 b0 (by have := HN.out; omega)
      have HT := Lib.hid hT
      have HB4 := Lib.hid b0
      have HE4 := Lib.hid (HE0.out.trans e4 (fun i hi _ => hi))
      have HMV := Lib.hid (show mv2 = mv + costU u g n by rw [hcost]; exact hmv2.symm)
      have hcq1 : w1.cell? ⟨q, 0, none⟩ = some (.int .i64 d) := c0
      have hcq6 : w1.cell? ⟨q, 6, none⟩ = some (.bool told) := c6
      have hz4 : base ≤ ((((w1.setCell ⟨q, 1, none⟩ (.int .i64 ((mv2 : Nat) : Int))).setCell ⟨q, 3, none⟩ (.int .i64 (g : Nat))).setCell ⟨q, 6, none⟩ (.bool false)).setCell ⟨q, 0, none⟩ (.int .i64 2147483647)).heap.size := Nat.le_trans hz1 e4.size
      have hS4 : Sent6 ((((w1.setCell ⟨q, 1, none⟩ (.int .i64 ((mv2 : Nat) : Int))).setCell ⟨q, 3, none⟩ (.int .i64 (g : Nat))).setCell ⟨q, 6, none⟩ (.bool false)).setCell ⟨q, 0, none⟩ (.int .i64 2147483647)) EA := HS1.out.effq e4 H1.out.lo H1.out.hq
      have HS4 := Lib.hid hS4
      clear b1 b3 b6 b0 e4 hT hS4 hcost hmv2 c0 c6 hV hmc h16
      go_upto_region 4 with fail
      go_region
      go_upto_region 11 with fail
      generalize (((w1.setCell ⟨q, 1, none⟩ (.int .i64 ((mv2 : Nat) : Int))).setCell ⟨q, 3, none⟩ (.int .i64 (g : Nat))).setCell ⟨q, 6, none⟩ (.bool false)).setCell ⟨q, 0, none⟩ (.int .i64 2147483647) = w4 at HT HB4 HE4 HS4 hz4 ⊢
      have HT := Lib.hid (HT.out.below (B := w4.heap.size) (below_drewN (Below.refl _ _) 1) (Nat.le_refl _))
      have HS4 := Lib.hid (HS4.out.below (below_drewN (Below.refl _ _) 1))
      have HE4 := Lib.hid (HE4.out.drewN 1)
      have HB4 := Lib.hid (show (w4.drewN 1).heap[q]? = _ from HB4.out)
      have hz4 : base ≤ (w4.drewN 1).heap.size := hz4
      change Code.wp _ _ _ _ (w4.drewN 1)
      generalize w4.drewN 1 = w4 at HT HB4 HE4 HS4 hz4 ⊢
      clear f1 f3 f6 f0 hcq1 hcq6 c1' c3' s0
      have hgp : g < ps.length := by have := HN.out; omega
      have C1 := here_any w4 base q lp ps IM 2147483647 (g + 1) mv2 false bk rv HT.out hz4 g hgp EA HS4.out
      have hdoc := docU_at hgp
      obtain ⟨x, hx⟩ : ∃ x, ps[g] = x := ⟨_, rfl⟩
      rw [hx] at C1 hdoc
      have i1 : (g : Int) < (n : Int) := by omega
      have HD := Lib.hid hdoc
      clear hx hdoc
      go_wp2_with fail
      with_reducible refine C1.mono ?_
      rintro e w5 ⟨A5, C5, rfl, -, ⟨bk5, rv5, h5, -⟩, he5⟩
      clear C1
      have hb5 := h5.blk
      have c05 : w5.cell? ⟨q, 0, none⟩ = some (.int .i64 2147483647) := blk_cell hb5 0
      have f05 := blk_frozen hb5 0
      have b5 := blk_set hb5 0 (.int .i64 x.doc)
      have e5 : Eff (· = q) w5 (w5.setCell ⟨q, 0, none⟩ (.int .i64 x.doc)) := Eff.setCell (F := fun i => i = q) (Eff.refl _ w5) (p := ⟨q, 0, none⟩) (fun _ => rfl) _
      have e0 : (curC 2147483647 mv2 lp (((g + 1 : Nat) : Int) - 1) bk5 rv5 false).setIfInBounds 0 (.int .i64 x.doc) = curC x.doc mv2 lp (((g + 1 : Nat) : Int) - 1) bk5 rv5 false := by simp [curC]
      rw [e0] at b5
      have h6 := h5.turn e5 b5 h5.hu
      have HFIN := Lib.hid (show CurPost w base q lp ps IM (g + 1) (mv + costU u g n) false (.int .i64 (docU ps (g + 1))) (.returned (.int .i64 x.doc)) (w5.setCell ⟨q, 0, none⟩ (.int .i64 x.doc)) from ⟨by rw [HD.out], ⟨bk5, rv5, by rw [← HMV.out, HD.out]; exact h6⟩, (HE4.out.trans he5 (fun i hi _ => hi)).trans e5 (fun i hi _ => hi)⟩)
      clear h5 he5 hb5 b5 e5 e0 h6
      go_wp2
      go_ret
      exact HFIN.out
    · have t1 : decide (g < n) = true := decide_eq_true hgn
      obtain ⟨e, he⟩ : ∃ e, e = g / 16 := ⟨_, rfl⟩
      obtain ⟨f, hf⟩ : ∃ f, f = u / 16 := ⟨_, rfl⟩
      obtain ⟨r, hr⟩ : ∃ r, r = g % 16 := ⟨_, rfl⟩
      obtain ⟨dq, hdq⟩ : ∃ dq, dq = e - f := ⟨_, rfl⟩
      obtain ⟨dr, hdr⟩ : ∃ dr, dr = dq + r := ⟨_, rfl⟩
      obtain ⟨mc, hmc⟩ : ∃ mc, mc = dr + 1 := ⟨_, rfl⟩
      have E1 : (g : Int) / 16 = (e : Int) := by omega
      have E2 : (u : Int) / 16 = (f : Int) := by omega
      have E3 : (g : Int) % 16 = (r : Int) := by omega
      have t2 : ((f : Int) == (e : Int)) = false := beq_false_of_ne (by omega)
      have s1 : IntKind.i64.wrap ((e : Int) - (f : Int)) = (dq : Int) := by rw [show (e : Int) - (f : Int) = (dq : Int) by omega]; exact IntWalk.i64_in _ (by omega)
      have s2 : IntKind.i64.wrap ((dq : Int) + (r : Int)) = (dr : Int) := by rw [show (dq : Int) + (r : Int) = (dr : Int) by omega]; exact IntWalk.i64_in _ (by omega)
      have s3 : IntKind.i64.wrap ((dr : Int) + 1) = (mc : Int) := by rw [show (dr : Int) + 1 = (mc : Int) by omega]; exact IntWalk.i64_in _ (by omega)
      have hcost : costU u g n = mc := by unfold costU; rw [if_neg (show ¬ g = n by omega), if_neg h16, hmc, hdr, hdq, he, hf, hr]
      obtain ⟨mv2, hmv2⟩ : ∃ mv2, mv + mc = mv2 := ⟨_, rfl⟩
      have hV : ((mv2 : Nat) : Int) = (mv2 : Int) := rfl
      have s9 : IntKind.i64.wrap ((mv : Int) + (mc)) = (mv2 : Int) := by rw [show (mv : Int) + (mc) = (mv2 : Int) by omega]; exact IntWalk.i64_in _ (by omega)
      have b1 := blk_set HB2.out 1 (.int .i64 ((mv2 : Nat) : Int))
      have b3 := blk_set b1 3 (.int .i64 (g : Nat))
      have b6 := blk_set b3 6 (.bool false)
      have b0 := blk_set b6 0 (.int .i64 2147483647)
      have e4 : Eff (· = q) w1 ((((w1.setCell ⟨q, 1, none⟩ (.int .i64 ((mv2 : Nat) : Int))).setCell ⟨q, 3, none⟩ (.int .i64 (g : Nat))).setCell ⟨q, 6, none⟩ (.bool false)).setCell ⟨q, 0, none⟩ (.int .i64 2147483647)) :=
        Eff.setCell (F := fun i => i = q) (Eff.setCell (F := fun i => i = q) (Eff.setCell (F := fun i => i = q) (Eff.setCell (F := fun i => i = q) (Eff.refl _ w1) (p := ⟨q, 1, none⟩) (fun _ => rfl) _) (p := ⟨q, 3, none⟩) (fun _ => rfl) _) (p := ⟨q, 6, none⟩) (fun _ => rfl) _) (p := ⟨q, 0, none⟩) (fun _ => rfl) _
      rw [curC_turn _ _ _ _ _ _ _ _ _ _ _ hV] at b0
      have hT := H1.out.turn e4 b0 (by have := HN.out; omega)
      have HT := Lib.hid hT
      have HB4 := Lib.hid b0
      have HE4 := Lib.hid (HE0.out.trans e4 (fun i hi _ => hi))
      have HMV := Lib.hid (show mv2 = mv + costU u g n by rw [hcost]; exact hmv2.symm)
      have hcq1 : w1.cell? ⟨q, 0, none⟩ = some (.int .i64 d) := c0
      have hcq6 : w1.cell? ⟨q, 6, none⟩ = some (.bool told) := c6
      have hz4 : base ≤ ((((w1.setCell ⟨q, 1, none⟩ (.int .i64 ((mv2 : Nat) : Int))).setCell ⟨q, 3, none⟩ (.int .i64 (g : Nat))).setCell ⟨q, 6, none⟩ (.bool false)).setCell ⟨q, 0, none⟩ (.int .i64 2147483647)).heap.size := Nat.le_trans hz1 e4.size
      have hS4 : Sent6 ((((w1.setCell ⟨q, 1, none⟩ (.int .i64 ((mv2 : Nat) : Int))).setCell ⟨q, 3, none⟩ (.int .i64 (g : Nat))).setCell ⟨q, 6, none⟩ (.bool false)).setCell ⟨q, 0, none⟩ (.int .i64 2147483647)) EA := HS1.out.effq e4 H1.out.lo H1.out.hq
      have HS4 := Lib.hid hS4
      clear b1 b3 b6 b0 e4 hT hS4 hcost hmv2 c0 c6 hV hmc hdq hdr he hf hr h16
      go_upto_region 11 with fail
      generalize (((w1.setCell ⟨q, 1, none⟩ (.int .i64 ((mv2 : Nat) : Int))).setCell ⟨q, 3, none⟩ (.int .i64 (g : Nat))).setCell ⟨q, 6, none⟩ (.bool false)).setCell ⟨q, 0, none⟩ (.int .i64 2147483647) = w4 at HT HB4 HE4 HS4 hz4 ⊢
      clear f1 f3 f6 f0 hcq1 hcq6 c1' c3' s0
      have hgp : g < ps.length := by have := HN.out; omega
      have C1 := here_any w4 base q lp ps IM 2147483647 (g + 1) mv2 false bk rv HT.out hz4 g hgp EA HS4.out
      have hdoc := docU_at hgp
      obtain ⟨x, hx⟩ : ∃ x, ps[g] = x := ⟨_, rfl⟩
      rw [hx] at C1 hdoc
      have i1 : (g : Int) < (n : Int) := by omega
      have HD := Lib.hid hdoc
      clear hx hdoc
      go_wp2_with fail
      with_reducible refine C1.mono ?_
      rintro e w5 ⟨A5, C5, rfl, -, ⟨bk5, rv5, h5, -⟩, he5⟩
      clear C1
      have hb5 := h5.blk
      have c05 : w5.cell? ⟨q, 0, none⟩ = some (.int .i64 2147483647) := blk_cell hb5 0
      have f05 := blk_frozen hb5 0
      have b5 := blk_set hb5 0 (.int .i64 x.doc)
      have e5 : Eff (· = q) w5 (w5.setCell ⟨q, 0, none⟩ (.int .i64 x.doc)) := Eff.setCell (F := fun i => i = q) (Eff.refl _ w5) (p := ⟨q, 0, none⟩) (fun _ => rfl) _
      have e0 : (curC 2147483647 mv2 lp (((g + 1 : Nat) : Int) - 1) bk5 rv5 false).setIfInBounds 0 (.int .i64 x.doc) = curC x.doc mv2 lp (((g + 1 : Nat) : Int) - 1) bk5 rv5 false := by simp [curC]
      rw [e0] at b5
      have h6 := h5.turn e5 b5 h5.hu
      have HFIN := Lib.hid (show CurPost w base q lp ps IM (g + 1) (mv + costU u g n) false (.int .i64 (docU ps (g + 1))) (.returned (.int .i64 x.doc)) (w5.setCell ⟨q, 0, none⟩ (.int .i64 x.doc)) from ⟨by rw [HD.out], ⟨bk5, rv5, by rw [← HMV.out, HD.out]; exact h6⟩, (HE4.out.trans he5 (fun i hi _ => hi)).trans e5 (fun i hi _ => hi)⟩)
      clear h5 he5 hb5 b5 e5 e0 h6
      go_wp2
      go_ret
      exact HFIN.out
  · by_cases hun : u = n
    · have t1 : decide (g < n) = false := decide_eq_false hgn
      have t2 : ((u : Int) == (n : Int)) = true := by simp; omega
      obtain ⟨mc, hmc⟩ : ∃ mc, mc = 1 := ⟨_, rfl⟩
      have hcost : costU u g n = mc := by unfold costU; rw [if_pos (show g = n by omega), if_pos hun]; exact hmc.symm
      obtain ⟨mv2, hmv2⟩ : ∃ mv2, mv + mc = mv2 := ⟨_, rfl⟩
      have hV : ((mv2 : Nat) : Int) = (mv2 : Int) := rfl
      have s9 : IntKind.i64.wrap ((mv : Int) + (1)) = (mv2 : Int) := by rw [show (mv : Int) + (1) = (mv2 : Int) by omega]; exact IntWalk.i64_in _ (by omega)
      have b1 := blk_set HB2.out 1 (.int .i64 ((mv2 : Nat) : Int))
      have b3 := blk_set b1 3 (.int .i64 (g : Nat))
      have b6 := blk_set b3 6 (.bool false)
      have b0 := blk_set b6 0 (.int .i64 2147483647)
      have e4 : Eff (· = q) w1 ((((w1.setCell ⟨q, 1, none⟩ (.int .i64 ((mv2 : Nat) : Int))).setCell ⟨q, 3, none⟩ (.int .i64 (g : Nat))).setCell ⟨q, 6, none⟩ (.bool false)).setCell ⟨q, 0, none⟩ (.int .i64 2147483647)) :=
        Eff.setCell (F := fun i => i = q) (Eff.setCell (F := fun i => i = q) (Eff.setCell (F := fun i => i = q) (Eff.setCell (F := fun i => i = q) (Eff.refl _ w1) (p := ⟨q, 1, none⟩) (fun _ => rfl) _) (p := ⟨q, 3, none⟩) (fun _ => rfl) _) (p := ⟨q, 6, none⟩) (fun _ => rfl) _) (p := ⟨q, 0, none⟩) (fun _ => rfl) _
      rw [curC_turn _ _ _ _ _ _ _ _ _ _ _ hV] at b0
      have hT := H1.out.turn e4 b0 (by have := HN.out; omega)
      have HT := Lib.hid hT
      have HB4 := Lib.hid b0
      have HE4 := Lib.hid (HE0.out.trans e4 (fun i hi _ => hi))
      have HMV := Lib.hid (show mv2 = mv + costU u g n by rw [hcost]; exact hmv2.symm)
      have hcq1 : w1.cell? ⟨q, 0, none⟩ = some (.int .i64 d) := c0
      have hcq6 : w1.cell? ⟨q, 6, none⟩ = some (.bool told) := c6
      have hz4 : base ≤ ((((w1.setCell ⟨q, 1, none⟩ (.int .i64 ((mv2 : Nat) : Int))).setCell ⟨q, 3, none⟩ (.int .i64 (g : Nat))).setCell ⟨q, 6, none⟩ (.bool false)).setCell ⟨q, 0, none⟩ (.int .i64 2147483647)).heap.size := Nat.le_trans hz1 e4.size
      have hS4 : Sent6 ((((w1.setCell ⟨q, 1, none⟩ (.int .i64 ((mv2 : Nat) : Int))).setCell ⟨q, 3, none⟩ (.int .i64 (g : Nat))).setCell ⟨q, 6, none⟩ (.bool false)).setCell ⟨q, 0, none⟩ (.int .i64 2147483647)) EA := HS1.out.effq e4 H1.out.lo H1.out.hq
      have HS4 := Lib.hid hS4
      clear b1 b3 b6 b0 e4 hT hS4 hcost hmv2 c0 c6 hV hmc hun
      go_upto_region 11 with fail
      generalize (((w1.setCell ⟨q, 1, none⟩ (.int .i64 ((mv2 : Nat) : Int))).setCell ⟨q, 3, none⟩ (.int .i64 (g : Nat))).setCell ⟨q, 6, none⟩ (.bool false)).setCell ⟨q, 0, none⟩ (.int .i64 2147483647) = w4 at HT HB4 HE4 HS4 hz4 ⊢
      clear f1 f3 f6 f0 hcq1 hcq6 c1' c3' s0
      have i1 : ¬ ((g : Int) < (n : Int)) := by omega
      have hdoc := docU_end (ps := ps) (u := g + 1) (by have := HN.out; omega)
      have c04 : w4.cell? ⟨q, 0, none⟩ = some (.int .i64 2147483647) := blk_cell HB4.out 0
      have HFIN := Lib.hid (show CurPost w base q lp ps IM (g + 1) (mv + costU u g n) false (.int .i64 (docU ps (g + 1))) (.returned (.int .i64 2147483647)) w4 from ⟨by rw [hdoc], ⟨bk, rv, by rw [← HMV.out, hdoc]; exact HT.out⟩, HE4.out⟩)
      clear hdoc
      go_wp2
      go_ret
      exact HFIN.out
    · have t1 : decide (g < n) = false := decide_eq_false hgn
      have t2 : ((u : Int) == (n : Int)) = false := beq_false_of_ne (by omega)
      obtain ⟨e, he⟩ : ∃ e, e = (n + 15) / 16 := ⟨_, rfl⟩
      obtain ⟨f, hf⟩ : ∃ f, f = u / 16 := ⟨_, rfl⟩
      obtain ⟨dq, hdq⟩ : ∃ dq, dq = e - f := ⟨_, rfl⟩
      obtain ⟨mc, hmc⟩ : ∃ mc, mc = dq + 1 := ⟨_, rfl⟩
      have E1 : ((n : Int) + 15) / 16 = (e : Int) := by omega
      have E1b : ((n : Int) + 16 - 1) / 16 = (e : Int) := by omega
      have E2 : (u : Int) / 16 = (f : Int) := by omega
      have s0a : IntKind.i64.wrap ((n : Int) + 16) = (n : Int) + 16 := IntWalk.i64_in _ (by omega)
      have s0b : IntKind.i64.wrap ((n : Int) + 16 - 1) = (n : Int) + 15 := by rw [show (n : Int) + 16 - 1 = (n : Int) + 15 by omega]; exact IntWalk.i64_in _ (by omega)
      have s1 : IntKind.i64.wrap ((e : Int) - (f : Int)) = (dq : Int) := by rw [show (e : Int) - (f : Int) = (dq : Int) by omega]; exact IntWalk.i64_in _ (by omega)
      have s3 : IntKind.i64.wrap ((dq : Int) + 1) = (mc : Int) := by rw [show (dq : Int) + 1 = (mc : Int) by omega]; exact IntWalk.i64_in _ (by omega)
      have hcost : costU u g n = mc := by unfold costU; rw [if_pos (show g = n by omega), if_neg hun, hmc, hdq, he, hf]
      obtain ⟨mv2, hmv2⟩ : ∃ mv2, mv + mc = mv2 := ⟨_, rfl⟩
      have hV : ((mv2 : Nat) : Int) = (mv2 : Int) := rfl
      have s9 : IntKind.i64.wrap ((mv : Int) + (mc)) = (mv2 : Int) := by rw [show (mv : Int) + (mc) = (mv2 : Int) by omega]; exact IntWalk.i64_in _ (by omega)
      have b1 := blk_set HB2.out 1 (.int .i64 ((mv2 : Nat) : Int))
      have b3 := blk_set b1 3 (.int .i64 (g : Nat))
      have b6 := blk_set b3 6 (.bool false)
      have b0 := blk_set b6 0 (.int .i64 2147483647)
      have e4 : Eff (· = q) w1 ((((w1.setCell ⟨q, 1, none⟩ (.int .i64 ((mv2 : Nat) : Int))).setCell ⟨q, 3, none⟩ (.int .i64 (g : Nat))).setCell ⟨q, 6, none⟩ (.bool false)).setCell ⟨q, 0, none⟩ (.int .i64 2147483647)) :=
        Eff.setCell (F := fun i => i = q) (Eff.setCell (F := fun i => i = q) (Eff.setCell (F := fun i => i = q) (Eff.setCell (F := fun i => i = q) (Eff.refl _ w1) (p := ⟨q, 1, none⟩) (fun _ => rfl) _) (p := ⟨q, 3, none⟩) (fun _ => rfl) _) (p := ⟨q, 6, none⟩) (fun _ => rfl) _) (p := ⟨q, 0, none⟩) (fun _ => rfl) _
      rw [curC_turn _ _ _ _ _ _ _ _ _ _ _ hV] at b0
      have hT := H1.out.turn e4 b0 (by have := HN.out; omega)
      have HT := Lib.hid hT
      have HB4 := Lib.hid b0
      have HE4 := Lib.hid (HE0.out.trans e4 (fun i hi _ => hi))
      have HMV := Lib.hid (show mv2 = mv + costU u g n by rw [hcost]; exact hmv2.symm)
      have hcq1 : w1.cell? ⟨q, 0, none⟩ = some (.int .i64 d) := c0
      have hcq6 : w1.cell? ⟨q, 6, none⟩ = some (.bool told) := c6
      have hz4 : base ≤ ((((w1.setCell ⟨q, 1, none⟩ (.int .i64 ((mv2 : Nat) : Int))).setCell ⟨q, 3, none⟩ (.int .i64 (g : Nat))).setCell ⟨q, 6, none⟩ (.bool false)).setCell ⟨q, 0, none⟩ (.int .i64 2147483647)).heap.size := Nat.le_trans hz1 e4.size
      have hS4 : Sent6 ((((w1.setCell ⟨q, 1, none⟩ (.int .i64 ((mv2 : Nat) : Int))).setCell ⟨q, 3, none⟩ (.int .i64 (g : Nat))).setCell ⟨q, 6, none⟩ (.bool false)).setCell ⟨q, 0, none⟩ (.int .i64 2147483647)) EA := HS1.out.effq e4 H1.out.lo H1.out.hq
      have HS4 := Lib.hid hS4
      clear b1 b3 b6 b0 e4 hT hS4 hcost hmv2 c0 c6 hV hmc hdq he hf hun
      go_upto_region 11 with fail
      generalize (((w1.setCell ⟨q, 1, none⟩ (.int .i64 ((mv2 : Nat) : Int))).setCell ⟨q, 3, none⟩ (.int .i64 (g : Nat))).setCell ⟨q, 6, none⟩ (.bool false)).setCell ⟨q, 0, none⟩ (.int .i64 2147483647) = w4 at HT HB4 HE4 HS4 hz4 ⊢
      clear f1 f3 f6 f0 hcq1 hcq6 c1' c3' s0
      have i1 : ¬ ((g : Int) < (n : Int)) := by omega
      have hdoc := docU_end (ps := ps) (u := g + 1) (by have := HN.out; omega)
      have c04 : w4.cell? ⟨q, 0, none⟩ = some (.int .i64 2147483647) := blk_cell HB4.out 0
      have HFIN := Lib.hid (show CurPost w base q lp ps IM (g + 1) (mv + costU u g n) false (.int .i64 (docU ps (g + 1))) (.returned (.int .i64 2147483647)) w4 from ⟨by rw [hdoc], ⟨bk, rv, by rw [← HMV.out, hdoc]; exact HT.out⟩, HE4.out⟩)
      clear hdoc
      go_wp2
      go_ret
      exact HFIN.out
end Go.Proofs.YtaijepjhmjjecaaDoor
