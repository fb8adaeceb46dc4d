/- CursorScan: the walk. -/
import Derived.Test.YtaijepjhmjjecaaDoorZG24
import Derived.Test.YtaijepjhmjjecaaDoorZG24
import Derived.Test.YtaijepjhmjjecaaDoorZG25
import Derived.Test.YtaijepjhmjjecaaDoorZEncode
import Derived.Test.YtaijepjhmjjecaaDoorZG27
import Derived.BigQuiet
namespace Go.Proofs.YtaijepjhmjjecaaDoor
set_option linter.unusedVariables false
open Go.ChangeShapes Go.WideShapes Go.ChangeAt Go.RowKit

/-- How many positions the law gives posting i. -/
def scF (fs : List Int) (i : Nat) : Nat := 1 + if h : i < fs.length then (modI 4 fs[i]).toNat else 0
theorem scF_in (fs : List Int) (i : Nat) : 1 ≤ scF fs i ∧ scF fs i ≤ 5 := by
  unfold scF
  split
  · have := modI_in 4 fs[i]; omega
  · omega
def scG (gs : List Int) (i : Nat) : Int := if h : i < (modL 40 gs).length then (modL 40 gs)[i] else 0
theorem scG_in (gs : List Int) (i : Nat) : 0 ≤ scG gs i ∧ scG gs i ≤ 40 := by
  unfold scG
  split
  · rename_i h
    have e : (modL 40 gs)[i] = modI 40 (gs[i]'(by rw [modL_length] at h; exact h)) := by simp [modL]
    rw [e]
    exact modI_in 40 _
  · omega
theorem scG_at (gs : List Int) (i : Nat) (h : i < (modL 40 gs).length) : (modL 40 gs)[i] = scG gs i := by
  unfold scG; rw [dif_pos h]
/-- The posting that the law makes. -/
structure MkS (w0 wr : World) (z : Nat) (d : Int) (A : Option Addr) (k C : Nat) (l : List Int) : Prop where
  blk : wr.heap[z]? = some (.cells #[.int .i64 d, .slice A k C] 41 (0, 0))
  own : Own wr z 3 (.slice A k C) (intL l)
  bel : Below z w0 wr
theorem MkS.put {w0 wr w3 : World} {z : Nat} {d : Int} {A A3 : Option Addr} {k C k3 C3 : Nat} {l : List Int} {y : Int} (h : MkS w0 wr z d A k C l) (hz : w0.heap.size = z) (h1 : Own w3 z 3 (.slice A3 k3 C3) (intL l ++ [.int .i64 y])) (hg : wr.grownBy w3 (Value.slice A k C).ownBlock) :
    w3.heap[z]? = some (.cells #[.int .i64 d, .slice A k C] 41 (0, 0)) ∧ MkS w0 (w3.setCell ⟨z, 1, none⟩ (.slice A3 k3 C3)) z d A3 k3 C3 (l ++ [y]) := by
  have hzl : z < wr.heap.size := lt_of_heap h.blk
  have hb3 := (hg.block z hzl (fun e => h.own.ne_type h.blk (by decide) e.symm)).trans h.blk
  have hbl := h.bel.grown hg (Nat.le_of_lt hzl) (fun q hq => (h.own.lt q hq).1)
  refine ⟨hb3, blk_set hb3 1 _, ?_, ?_⟩
  · rw [intL_snoc9]
    exact h1.setOther (h1.ne_type hb3 (by decide)) _
  · exact hbl.trans (eff_below (B := z) (Eff.setCell (F := fun i => i = z) (Eff.refl _ w3) (p := ⟨z, 1, none⟩) (fun _ => rfl) _) (Nat.le_refl _) (by have := hg.size; omega))
set_option maxRecDepth 100000 in
set_option maxHeartbeats 16000000 in
theorem cursorScan_walk (w : World) (a : Option Addr) (n c : Nat) (gs : List Int) (hG : Rd w (.slice a n c) (intL gs)) (a1 : Option Addr) (n1 c1 : Nat) (fs : List Int) (hF : Rd w (.slice a1 n1 c1) (intL fs)) (a2 : Option Addr) (n2 c2 : Nat) (ts : List Int) (hTs : Rd w (.slice a2 n2 c2) (intL ts))
    (hgl : gs.length ≤ 1048576) (hfl : fs.length ≤ 1048576) (htl : ts.length ≤ 1048576) (EA : Nat → Addr) (hS : Sent7 w EA) :
    Calls Tryd.prog 8 #[.slice a n c, .slice a1 n1 c1, .slice a2 n2 c2] w fun e w' => e = .returned (.bool true) ∧ Below w.heap.size w w' := by
  have C1 := fixed_any w EA hS
  obtain ⟨rfl, -⟩ := rd_il hG
  obtain ⟨rfl, hfc⟩ := rd_il hF
  obtain ⟨rfl, htc⟩ := rd_il hTs
  have hcap : gs.length ≤ c := by
    obtain ⟨A, c', h, h1, _⟩ := hG
    injection h with _ _ e3
    rw [intL_length] at h1
    omega
  have hmin : min ((gs.length : Int)) 1048576 = (gs.length : Int) := by omega
  have HS := Lib.hid hS
  have HG := Lib.hid hG
  have HFC := Lib.hid hfc
  have HTC := Lib.hid htc
  clear hS hG hF hTs hfc htc
  go_enter Tryd.func8, Tryd.ntmps8
  go_wp2_with fail
  with_reducible refine C1.mono ?_
  rintro e w1 ⟨rfl, hb1⟩
  have C2 := ints_any w1 a gs.length c gs (HG.out.below hb1 (Nat.le_refl _)) (by omega) 40 (by omega)
  rw [show ((40 : Nat) : Int) = 40 from rfl] at C2
  have HB1 := Lib.hid hb1
  have HC2 := Lib.hid C2
  clear C1 hb1 C2 HG
  go_wp2_with fail
  with_reducible refine HC2.out.mono ?_
  rintro e w2 ⟨A1, C1, rfl, ho2, hb2⟩
  have hgc : ∀ i, i < gs.length → ∃ b o, A1 = some ⟨b, o, none⟩ ∧ w2.cell? ⟨b, o + i, none⟩ = some (.int .i64 (scG gs i)) := fun i hi => by
    obtain ⟨-, h2⟩ := rd_il ho2.rd
    obtain ⟨b, o, e, h3⟩ := h2 (by rw [modL_length]; omega)
    have h4 := h3 i (by rw [modL_length]; exact hi)
    rw [scG_at] at h4
    exact ⟨b, o, e, h4⟩
  have HGC := Lib.hid hgc
  have HB2 := Lib.hid (HB1.out.trans (hb2.mono HB1.out.size))
  have hgin := scG_in gs
  have hfin := scF_in fs
  obtain ⟨g, hg⟩ : ∃ g, scG gs = g := ⟨_, rfl⟩
  obtain ⟨f, hf⟩ : ∃ f, scF fs = f := ⟨_, rfl⟩
  have hfe : ∀ i, f i = 1 + if h : i < fs.length then (modI 4 fs[i]).toNat else 0 := fun i => by rw [← hf]; rfl
  rw [hg] at HGC hgin
  rw [hf] at hfin
  have HGI := Lib.hid hgin
  have HFI := Lib.hid hfin
  have HFE := Lib.hid hfe
  obtain ⟨B, hB⟩ : ∃ B, w2.heap.size = B := ⟨_, rfl⟩
  have HBE := Lib.hid hB
  clear ho2 hb2 HC2 HB1 hg hf hgc hgin hfin hfe hB
  go_wp2
  go_loopw [7, 8, 9, 10, 11, 12, 13, 14, 39] (fun s7 s8 s9 s10 s11 s12 s13 s14 s39 wr => ∃ (i : Nat) (A : Option Addr) (C : Nat) (t10 t11 t12 t13 t14 : Value), s7 = .slice A i C ∧ s8 = .int .i64 (scD g i) ∧ s9 = .int .i64 (totalV (scL g f i) : Nat) ∧ s10 = t10 ∧ s11 = t11 ∧ s12 = t12 ∧ s13 = t13 ∧ s14 = t14 ∧ s39 = .int .i64 i ∧ i ≤ gs.length ∧ RowKit.Hid (RowN wr B A i C (scL g f i)) ∧ RowKit.Hid (Below B w2 wr)) (fun _ _ _ _ _ _ _ _ s39 _ => gs.length - (intOf s39).toNat)
  case atStart => exact ⟨0, none, 0, _, _, _, _, _, rfl, rfl, by simp [scL, totalV], rfl, rfl, rfl, rfl, rfl, rfl, Nat.zero_le _, Lib.hid ⟨rfl, _, rowP_nil w2 B⟩, Lib.hid (Below.refl _ _)⟩
  case round =>
    obtain ⟨i, A, C, t10, t11, t12, t13, t14, rfl, rfl, rfl, rfl, rfl, rfl, rfl, rfl, rfl, hi, HR, HB⟩ := hrel
    by_cases hlt : i < gs.length
    · as_aux_lemma =>
      obtain ⟨b, o, hae, k0⟩ := HGC.out i hlt
      subst hae
      have k0 := (HB.out.cell (show b < B by rw [← HBE.out]; exact World.block_lt_of_cell? w2 _ k0)).trans k0
      have hsd := scD_in HGI.out i
      have hsd2 := scD_in HGI.out (i + 1)
      have hgi := HGI.out i
      have hfi := HFI.out i
      have htot := scL_total (g := g) HFI.out i
      have htot2 := scL_totalS g f i
      have hfe := HFE.out i
      have hd1 : scD g (i + 1) = scD g i + (1 + g i) := rfl
      obtain ⟨G, hGe⟩ : ∃ G, g i = G := ⟨_, rfl⟩
      obtain ⟨F, hFe⟩ : ∃ F, f i = F := ⟨_, rfl⟩
      obtain ⟨D, hDe⟩ : ∃ D, scD g i = D := ⟨_, rfl⟩
      obtain ⟨D1, hD1e⟩ : ∃ D, scD g (i + 1) = D := ⟨_, rfl⟩
      obtain ⟨T, hTe⟩ : ∃ T, totalV (scL g f i) = T := ⟨_, rfl⟩
      have hsc := scL_succ g f i
      rw [hGe] at k0 hgi hd1 hsc
      rw [hFe] at hfi htot2 hfe hsc
      rw [hDe] at hsd hd1 ⊢
      rw [hD1e] at hsd2 hd1 hsc
      rw [hTe] at htot htot2 ⊢
      have i1 : (i : Int) < (gs.length : Int) := by omega
      have s1 : IntKind.i64.wrap (1 + G) = 1 + G := by rw [IntKind.wrap_i64]; omega
      have s2 : IntKind.i64.wrap (D + (1 + G)) = D1 := by rw [IntKind.wrap_i64]; omega
      have HSC := Lib.hid hsc
      have HT2 := Lib.hid htot2
      have HFE2 := Lib.hid hfe
      have HD1 := Lib.hid hD1e
      clear hGe hFe hDe hTe hsc htot2 hfe hd1 hD1e
      go_upto_region 10 with fail
      obtain ⟨z, hz⟩ : ∃ z, wr.heap.size = z := ⟨_, rfl⟩
      have hmk : MkS wr (wr.alloc (.cells #[.int .i64 D1, .slice none 0 0] 41)) z D1 none 0 0 [] := by
        subst hz
        exact ⟨heap_alloc_new wr _, own_nil _ _ _, (Below.refl wr.heap.size wr).alloc (Nat.le_refl _) _⟩
      have HMK := Lib.hid hmk
      have HZ := Lib.hid hz
      rw [hz]
      clear hmk k0 s1 s2 hz
      generalize wr.alloc (.cells #[.int .i64 D1, .slice none 0 0] 41) = wX at HMK ⊢
      go_upto_if 53 with fail
      go_cut [13] (fun s13 wx => wX = wx ∧ s13 = .int .i64 (F : Nat))
      case first =>
        have hfe := HFE2.out
        by_cases hf : i < fs.length
        · obtain ⟨b5, o5, hae, hc5⟩ := HFC.out (by omega)
          have k5 := hc5 i hf
          have k5 := (HB2.out.cell (World.block_lt_of_cell? w _ k5)).trans k5
          have k5 := (HB.out.cell (show b5 < B by rw [← HBE.out]; exact World.block_lt_of_cell? w2 _ k5)).trans k5
          have k5 := (HMK.out.bel.cell (show b5 < z by rw [← HZ.out]; exact World.block_lt_of_cell? wr _ k5)).trans k5
          subst hae
          rw [dif_pos hf] at hfe
          have hm5 := modI_in 4 fs[i]
          obtain ⟨x, hx⟩ : ∃ x, fs[i] = x := ⟨_, rfl⟩
          rw [hx] at k5 hfe hm5
          have s3 : IntKind.u64.wrap x = x % 18446744073709551616 := IntKind.wrap_u64 x
          obtain ⟨X, hX⟩ : ∃ X, x % 18446744073709551616 = X := ⟨_, rfl⟩
          rw [hX] at s3
          obtain ⟨Y, hY⟩ : ∃ Y, modI 4 x = Y := ⟨_, rfl⟩
          have s4 : IntKind.i64.wrap (X.tmod 5) = Y := by
            have h1 : X.tmod 5 = Y := by rw [Int.tmod_eq_emod_of_nonneg (by omega), ← hY, ← hX]; unfold modI; rfl
            rw [hY] at hm5
            rw [h1, IntKind.wrap_i64]; omega
          rw [hY] at hfe hm5
          have s5 : IntKind.i64.wrap (1 + Y) = (F : Int) := by rw [IntKind.wrap_i64]; omega
          clear hc5 hx hX hY hfe hm5
          go_wp2
          go_meet
          exact ⟨rfl, rfl⟩
        · rw [dif_neg hf] at hfe
          obtain rfl : F = 1 := by omega
          go_wp2
          go_meet
          exact ⟨rfl, rfl⟩
      case rest =>
      obtain ⟨rfl, rfl⟩ := hcut
      clear HFE2
      obtain ⟨w0, rfl⟩ : ∃ w0 : World, w0 = wr := ⟨_, rfl⟩
      go_wp2
      go_loopw [14] (fun s14 wy => ∃ (k : Nat) (Ak : Option Addr) (Ck : Nat), s14 = .int .i64 k ∧ k ≤ F ∧ RowKit.Hid (MkS w0 wy z D1 Ak k Ck (scP G k))) (fun s14 _ => F - (intOf s14).toNat)
      case atStart => exact ⟨0, none, 0, rfl, Nat.zero_le _, HMK⟩
      case round =>
        clear HMK
        obtain ⟨k, Ak, Ck, rfl, hk, HM⟩ := hrel
        by_cases hlt2 : k < F
        · as_aux_lemma =>
          have c1' : wr.cell? ⟨z, 1, none⟩ = some (.slice Ak k Ck) := blk_cell HM.out.blk 1
          have hzy : z ≤ wr.heap.size := Nat.le_of_lt (lt_of_heap HM.out.blk)
          have hgi2 := hgi
          obtain ⟨K7, hK7⟩ : ∃ K, 7 * (k : Int) = K := ⟨_, rfl⟩
          obtain ⟨Y, hY⟩ : ∃ Y, K7 + G = Y := ⟨_, rfl⟩
          have hps := scP_succ G k
          rw [hK7, hY] at hps
          have s1 : IntKind.i64.wrap (7 * (k : Int)) = K7 := by rw [IntKind.wrap_i64]; omega
          have s2 : IntKind.i64.wrap (K7 + G) = Y := by rw [IntKind.wrap_i64]; omega
          have hl9 : (intL (scP G k)).length < 1000000000000 := by rw [intL_length, scP_length]; omega
          have i2 : (k : Int) < (F : Int) := by omega
          have HOW := Lib.hid HM.out.own
          have HL9 := Lib.hid hl9
          have HPS := Lib.hid hps
          clear hK7 hY hps hl9 hgi2 hlt2
          go_wp2_with (at_builtin; with_reducible refine ap1' elI9 rfl HOW.out HL9.out hzy rfl _ _ rfl rfl rfl ?_)
          intro v3 w3 g1 g2 g3 g4
          obtain ⟨A3, C3, hv⟩ := own_slice g1
          have hln : (intL (scP G k) ++ [Value.int .i64 Y]).length = k + 1 := by rw [List.length_append, intL_length, scP_length]; rfl
          rw [hln] at hv
          subst hv
          obtain ⟨hb3, hm3⟩ := HM.out.put HZ.out g1 g4
          rw [← HPS.out] at hm3
          have y1 : w3.cell? ⟨z, 1, none⟩ = some (.slice Ak k Ck) := blk_cell hb3 1
          have f1 := blk_frozen hb3 1
          have HM3 := Lib.hid hm3
          clear g1 g2 g3 g4 hb3 hm3 hln HOW HL9 HPS HM s1 s2 c1'
          go_wp2
          go_roundw
          case rel => exact ⟨k + 1, A3, C3, by go_num, by omega, HM3⟩
          case measure => simp [intOf]; omega
        · as_aux_lemma =>
          obtain rfl : k = F := by omega
          have i2 : ¬ ((k : Int) < (k : Int)) := by omega
          have s1 : IntKind.i64.wrap ((T : Int) + (k : Int)) = ((T + k : Nat) : Int) := by rw [IntKind.wrap_i64]; omega
          have c0' : wr.cell? ⟨z, 0, none⟩ = some (.int .i64 D1) := blk_cell HM.out.blk 0
          have c1' : wr.cell? ⟨z, 1, none⟩ = some (.slice Ak k Ck) := blk_cell HM.out.blk 1
          obtain ⟨hrl, vs, hrow⟩ := HR.out
          have hrow2 := hrow.below HM.out.bel (Nat.le_of_eq HZ.out)
          have hzB : B ≤ z := by have h1 := HB.out.size; have h2 := HBE.out; have h3 := HZ.out; omega
          have hown := own_base HM.out.own hzB
          have hsep : ∀ q b, q < (scL g f i).length → (vs q).ownBlock = some b → (Value.slice Ak k Ck).ownBlock ≠ some b := fun q b hq hb h9 => by
            have h1 := ((hrow.own q hq).lt b hb).2
            have h2 := (HM.out.own.lt b h9).1
            have h3 := HZ.out
            omega
          have hl9 : (scL g f i).length ≤ 1000000000 := by rw [scL_length]; omega
          have hz9 : B ≤ wr.heap.size := by have := lt_of_heap HM.out.blk; omega
          have hbw := HB.out.trans (HM.out.bel.mono hzB)
          have HROW := Lib.hid hrow2
          have HOWN := Lib.hid hown
          have HSEP := Lib.hid hsep
          have HL9 := Lib.hid hl9
          have HBW := Lib.hid hbw
          have HK := Lib.hid (show k ≤ k from Nat.le_refl _)
          clear hrl hrow hrow2 hown hsep hl9 hbw HR HB HM hlt2
          go_wp2_with (at_builtin; with_reducible refine apP1 HROW.out D1 (scP G k) _ HOWN.out HSEP.out HL9.out hz9 rfl _ _ rfl rfl rfl ?_)
          intro v8 w8 hrow8 hg8
          have hb8 := HBW.out.grown hg8 hz9 (fun q hq => (HROW.out.lt q hq).1)
          rw [← HSC.out] at hrow8
          obtain ⟨A8, C8, rfl, _⟩ := hrow8.sl
          rw [scL_length] at hrow8 ⊢
          have HR8 := Lib.hid (show RowN w8 B A8 (i + 1) C8 (scL g f (i + 1)) from ⟨scL_length _ _ _, _, hrow8⟩)
          have HB8 := Lib.hid hb8
          clear hrow8 hg8 hb8 HROW HOWN HSEP HL9 HBW c0' c1' s1 HSC
          go_wp2
          go_roundw
          case rel => exact ⟨i + 1, A8, C8, _, _, _, _, _, rfl, by rw [HD1.out], by rw [HT2.out] <;> first | rfl | go_num, rfl, rfl, rfl, rfl, rfl, by go_num, by omega, HR8, HB8⟩
          case measure => simp [intOf]; omega
    · obtain rfl : i = gs.length := by omega
      have i1 : ¬ ((gs.length : Int) < (gs.length : Int)) := by omega
      go_upto_region 20 with fail
      obtain ⟨N, hN⟩ : ∃ N, gs.length = N := ⟨_, rfl⟩
      obtain ⟨ps, hps⟩ : ∃ ps, scL g f gs.length = ps := ⟨_, rfl⟩
      have hok : okV (-1) ps := by rw [← hps]; exact scL_ok HGI.out HFI.out _ hgl
      have hft : FitP ps := by rw [← hps]; exact scL_fit HGI.out HFI.out _ hgl
      have hpl : ps.length = gs.length := by rw [← hps]; exact scL_length _ _ _
      have hpt : totalV ps ≤ 5 * gs.length := by rw [← hps]; exact scL_total HFI.out _
      rw [hps] at HR ⊢
      obtain ⟨hrn, vs, hrow⟩ := HR.out
      have hAC : gs.length ≤ C := by
        obtain ⟨_, _, e, h1, _⟩ := hrow.sl
        injection e with _ _ e3
        rw [e3]; omega
      have hrd : RdPost wr A gs.length ps := hrow.rd
      have hbw : Below w.heap.size w wr := by
        have h1 := HB.out
        rw [← HBE.out] at h1
        exact HB2.out.trans (h1.mono HB2.out.size)
      have CE := encode_any wr A gs.length C ps hrd hAC hft (by omega) (by omega) EA (HS.out.below hbw)
      have HCE := Lib.hid CE
      have HRD := Lib.hid hrd
      have HBW := Lib.hid hbw
      have HOK := Lib.hid hok
      have HFT := Lib.hid hft
      have HTC2 := Lib.hid (show ∀ X, Below wr.heap.size wr X → 0 < ts.length → ∃ b o, a2 = some ⟨b, o, none⟩ ∧ ∀ (j : Nat) (hj : j < ts.length), X.cell? ⟨b, o + j, none⟩ = some (.int .i64 ts[j]) from fun X hX h0 => by
        obtain ⟨b, o, e, h1⟩ := HTC.out h0
        refine ⟨b, o, e, fun j hj => ?_⟩
        have h2 := h1 j hj
        exact ((HBW.out.trans (hX.mono HBW.out.size)).cell (World.block_lt_of_cell? w _ h2)).trans h2)
      clear CE hrn hrow hrd hbw hok hft HR HB HGC HBE HFE HGI HFI HFC HTC hlt hps hN
      obtain ⟨L, hL⟩ : ∃ L, gs.length = L := ⟨_, rfl⟩
      rw [hL] at hpl hAC HCE HRD hgl hpt ⊢
      have HPL := Lib.hid hpl
      obtain ⟨T9, hT9⟩ : ∃ T, totalV ps = T := ⟨_, rfl⟩
      rw [hT9] at hpt ⊢
      have HT9 := Lib.hid hT9
      clear hL i1 hcap hmin hpl hT9
      go_wp2_with fail
      with_reducible refine HCE.out.mono ?_
      rintro e w3 ⟨h3, -⟩
      obtain ⟨A3, N3, K3, rfl, ho3, hb3⟩ := h3 HOK.out
      have HB3 := Lib.hid hb3
      have hl9 := HPL.out
      have ht9 := HT9.out
      have him := image_le HFT.out HOK.out (by omega) (by omega)
      have hrd := ho3.rd
      have C3 := fun (W : World) (hb : Below w3.heap.size w3 W) => copen_ok W A3 N3 K3 ps HOK.out HFT.out (by omega) (by omega) him (hrd.below hb (Nat.le_refl _)) EA ((HS.out.below (HBW.out.trans ((HB3.out.trans (hb.mono HB3.out.size)).mono HBW.out.size))).s6)
      have HC3 := Lib.hid C3
      clear h3 ho3 hb3 him hrd C3 HCE hl9 ht9
      go_wp2_with fail
      with_reducible refine (HC3.out w3 (Below.refl _ _)).mono ?_
      rintro e w4 ⟨q1, pl1, rfl, hc1, hb4⟩
      have HC1 := Lib.hid hc1
      have HB4 := Lib.hid hb4
      clear hc1 hb4
      go_wp2_with fail
      with_reducible refine (HC3.out w4 HB4.out).mono ?_
      rintro e w5 ⟨q2, pl2, rfl, hc2, hb5⟩
      have HQ := Lib.hid (And.intro (HC1.out.below hb5 (Nat.le_refl _)) hc2)
      have HLT1 := Lib.hid (show q1 < w4.heap.size by obtain ⟨_, h9⟩ := HC1.out.blk; exact lt_of_heap h9)
      have HZ45 := Lib.hid hb5.size
      have HB5 := Lib.hid (HB4.out.trans (hb5.mono HB4.out.size))
      clear hb5 hc2 HC3
      have CD := fun (X : World) (h : CurAt X w3.heap.size q1 (.pointer (some ⟨pl1, 0, none⟩)) ps (imageV ps) 0 0 false) => (show Calls Tryd.prog 20 #[.pointer (some ⟨q1, 0, none⟩)] X (fun e w' => e = .returned (.int .i64 (L : Nat)) ∧ X = w') by
        obtain ⟨bk, rv, hcb⟩ := h
        have := docsC_any X _ q1 _ ps _ _ 0 0 false bk rv hcb
        rwa [HPL.out] at this)
      have CT := fun (X : World) (h : CurAt X w3.heap.size q1 (.pointer (some ⟨pl1, 0, none⟩)) ps (imageV ps) 0 0 false) => (show Calls Tryd.prog 33 #[.pointer (some ⟨q1, 0, none⟩)] X (fun e w' => e = .returned (.int .i64 (T9 : Nat)) ∧ X = w') by
        obtain ⟨bk, rv, hcb⟩ := h
        have := totC_any X _ q1 _ ps _ _ 0 0 false bk rv hcb
        rwa [HT9.out] at this)
      have HCD := Lib.hid (CD w5 HQ.out.1)
      have HCT := Lib.hid (CT w5 HQ.out.1)
      clear CD CT HC1
      go_wp2_with fail
      with_reducible refine HCD.out.mono ?_
      rintro e wx ⟨rfl, rfl⟩
      clear HCD
      go_wp2_with fail
      with_reducible refine HCT.out.mono ?_
      rintro e wx ⟨rfl, rfl⟩
      clear HCT
      have hs0 : Sc2 w3 w5 w3.heap.size w3.heap.size q1 w4.heap.size q2 (.pointer (some ⟨pl1, 0, none⟩)) (.pointer (some ⟨pl2, 0, none⟩)) ps (imageV ps) 0 0 0 := by
        obtain ⟨h1, h2⟩ := HQ.out
        have hz4 := HB4.out.size
        have hz5 := HB5.out.size
        have hlt1 : q1 < w4.heap.size := HLT1.out
        have hge2 : w4.heap.size ≤ q2 := by obtain ⟨_, _, h9⟩ := h2; exact h9.hq
        exact ⟨⟨false, h1, Nat.zero_le _, HB5.out, Nat.le_refl _, hz5, Nat.le_refl _⟩, ⟨0, false, h2, Nat.zero_le _, HB5.out, hz4, HZ45.out, Nat.le_refl _⟩, by omega⟩
      have HSX := Lib.hid (show ∀ X, Below w3.heap.size w3 X → Sent6 X EA ∧ RdPost X A L ps ∧ (0 < ts.length → ∃ b o, a2 = some ⟨b, o, none⟩ ∧ ∀ (j : Nat) (hj : j < ts.length), X.cell? ⟨b, o + j, none⟩ = some (.int .i64 ts[j])) ∧ Below w.heap.size w X from fun X hX => by
        have h1 := HB3.out.trans (hX.mono HB3.out.size)
        have h2 := HBW.out.trans (h1.mono HBW.out.size)
        exact ⟨(HS.out.below h2).s6, HRD.out.below h1 (Nat.le_refl _), HTC2.out X h1, h2⟩)
      obtain ⟨b0, hb0⟩ : ∃ b, w3.heap.size = b := ⟨_, rfl⟩
      obtain ⟨b2, hb2⟩ : ∃ b, w4.heap.size = b := ⟨_, rfl⟩
      obtain ⟨IM, hIM⟩ : ∃ I, imageV ps = I := ⟨_, rfl⟩
      rw [hb0, hb2, hIM] at hs0
      rw [hb0] at HSX
      have HSC := Lib.hid hs0
      have htt : totalV ps ≤ 20000000 := by rw [HT9.out]; omega
      clear hs0 hb0 hb2 hIM HQ HB4 HB5 HLT1 HZ45 HB3 HRD HTC2 HBW HS HB2 hAC hpt HFT
      have HTT := Lib.hid htt
      clear htt
      go_wp2
      go_loopw [20, 22, 23, 24, 25, 26, 27, 131] (fun s20 s22 s23 s24 s25 s26 s27 s131 wr => ∃ (j u : Nat) (t22 t23 t24 t25 t26 t27 : Value), s20 = .int .i64 u ∧ s22 = t22 ∧ s23 = t23 ∧ s24 = t24 ∧ s25 = t25 ∧ s26 = t26 ∧ s27 = t27 ∧ s131 = .int .i64 j ∧ j ≤ ts.length ∧ u ≤ L + 1 ∧ RowKit.Hid (∃ m, Sc2 w3 wr b0 b0 q1 b2 q2 (.pointer (some ⟨pl1, 0, none⟩)) (.pointer (some ⟨pl2, 0, none⟩)) ps IM u m u)) (fun _ _ _ _ _ _ _ s131 _ => ts.length - (intOf s131).toNat)
      case atStart => exact ⟨0, 0, _, _, _, _, _, _, rfl, rfl, rfl, rfl, rfl, rfl, rfl, rfl, Nat.zero_le _, Nat.zero_le _, Lib.hid ⟨0, HSC.out⟩⟩
      case round =>
        clear HSC
        obtain ⟨j, u, t22, t23, t24, t25, t26, t27, rfl, rfl, rfl, rfl, rfl, rfl, rfl, rfl, hj, hu, HS2⟩ := hrel
        obtain ⟨m0, hsc⟩ := HS2.out
        have HSC := Lib.hid hsc
        clear hsc HS2
        by_cases hlt : j < ts.length
        · as_aux_lemma =>
          obtain ⟨-, -, htc, -⟩ := HSX.out _ HSC.out.bel.1
          obtain ⟨bt, ot, hae, hct⟩ := htc (by omega)
          have k0 := hct j hlt
          subst hae
          obtain ⟨t, ht⟩ : ∃ t, ts[j] = t := ⟨_, rfl⟩
          rw [ht] at k0
          have j1 : (j : Int) < (ts.length : Int) := by omega
          have CDoc := HSC.out.doc1
          obtain ⟨dv, hdv⟩ : ∃ d, docU ps u = d := ⟨_, rfl⟩
          rw [hdv] at CDoc
          have HCD := Lib.hid CDoc
          have s42 : IntKind.i64.wrap (42 * (L : Int)) = ((42 * L : Nat) : Int) := by rw [IntKind.wrap_i64]; omega
          have s43 : IntKind.i64.wrap (((42 * L : Nat) : Int) + 3) = ((42 * L + 3 : Nat) : Int) := by rw [IntKind.wrap_i64]; omega
          have d43 : (((42 * L + 3 : Nat) : Int) == 0) = false := beq_false_of_ne (by omega)
          clear ht hct htc CDoc hdv
          go_upto_if 136 with fail
          go_cut [22] (fun s22 wx => wr = wx ∧ ∃ T : Int, s22 = .int .i64 T)
          case first =>
            by_cases ht0 : t < 0
            · as_aux_lemma =>
              have t0 : decide (t < 0) = true := decide_eq_true ht0
              go_wp2_with fail
              with_reducible refine HCD.out.mono ?_
              rintro e wx ⟨rfl, rfl⟩
              go_wp2
              go_meet
              exact ⟨rfl, _, rfl⟩
            · as_aux_lemma =>
              have t0 : decide (t < 0) = false := decide_eq_false ht0
              go_wp2
              go_meet
              exact ⟨rfl, _, rfl⟩
          case rest =>
          obtain ⟨rfl, T, rfl⟩ := hcut
          have CM := HSC.out.mov1
          have CA := HSC.out.adv1 HTT.out T EA (HSX.out _ HSC.out.bel.1).1
          have hup : u ≤ ps.length + 1 := by rw [HPL.out]; exact hu
          have hadv := advU_in (ps := ps) (u := u) T hup
          have hgo := fun (v : Nat) (h1 : u ≤ v) (h2 : v < advU ps u T) => scan_go HOK.out hup h1 h2
          have hend := scan_end (ps := ps) (u := u) (t := T) hup
          obtain ⟨U, hU⟩ : ∃ U, advU ps u T = U := ⟨_, rfl⟩
          rw [hU] at CA hadv hgo hend
          rw [HPL.out] at hadv hgo
          obtain ⟨dU, hdU⟩ : ∃ d, docU ps U = d := ⟨_, rfl⟩
          rw [hdU] at CA hend
          have HDU := Lib.hid hdU
          have HGO := Lib.hid hgo
          have HEND := Lib.hid hend
          have HCM := Lib.hid CM
          have HCA := Lib.hid CA
          have HAV := Lib.hid hadv
          have hUL := hadv.2
          clear CM CA hup hadv hgo hend hU hdU HSC HCD s42 s43 d43 k0
          go_wp2_with fail
          with_reducible refine HCM.out.mono ?_
          rintro e wx ⟨rfl, rfl⟩
          clear HCM
          go_wp2_with fail
          with_reducible refine HCA.out.mono ?_
          rintro e w6 ⟨rfl, m6, hs6, hm6⟩
          have HS6 := Lib.hid hs6
          clear HCA hs6
          go_wp2
          go_loopw [20] (fun s20 wy => ∃ v : Nat, s20 = .int .i64 v ∧ u ≤ v ∧ v ≤ U ∧ RowKit.Hid (Sc2 w3 wy b0 b0 q1 b2 q2 (.pointer (some ⟨pl1, 0, none⟩)) (.pointer (some ⟨pl2, 0, none⟩)) ps IM U m6 v)) (fun s20 _ => U - (intOf s20).toNat)
          case atStart => exact ⟨u, rfl, Nat.le_refl _, HAV.out.1, HS6⟩
          case round =>
            clear HS6
            obtain ⟨v, rfl, hv1, hv2, HV⟩ := hrel
            by_cases hv : v < U
            · as_aux_lemma =>
              obtain ⟨g1, g2, g3⟩ := HGO.out v hv1 hv
              have CD := HV.out.doc2
              obtain ⟨dv, hdv⟩ : ∃ d, docU ps v = d := ⟨_, rfl⟩
              rw [hdv] at CD g1 g2
              have t1 : decide (dv < T) = true := decide_eq_true g1
              have t2 : (dv != 2147483647) = true := by simp; exact g2
              have CN := HV.out.next2 HTT.out (by rw [HPL.out]; exact g3) EA (HSX.out _ HV.out.bel.1).1
              obtain ⟨v1, hve⟩ : ∃ v1, v + 1 = v1 := ⟨_, rfl⟩
              obtain ⟨dw, hdw⟩ : ∃ d, docU ps (v + 1) = d := ⟨_, rfl⟩
              rw [hdw, hve] at CN
              have HCD := Lib.hid CD
              have HCN := Lib.hid CN
              have HDW := Lib.hid hdw
              have HVE := Lib.hid hve
              clear CD CN hdv g1 g2 hdw hve HV
              go_wp2_with fail
              with_reducible refine HCD.out.mono ?_
              rintro e wx ⟨rfl, rfl⟩
              go_wp2_with fail
              with_reducible refine HCD.out.mono ?_
              rintro e wx ⟨rfl, rfl⟩
              clear HCD
              go_wp2_with fail
              with_reducible refine HCN.out.mono ?_
              rintro e w7 ⟨rfl, hs7⟩
              have hve := HVE.out
              obtain ⟨L1, hL1⟩ : ∃ L1, L + 1 = L1 := ⟨_, rfl⟩
              have s1 : IntKind.i64.wrap ((v : Int) + 1) = (v1 : Int) := by rw [IntKind.wrap_i64]; omega
              have s2 : IntKind.i64.wrap ((L : Int) + 1) = (L1 : Int) := by rw [IntKind.wrap_i64]; omega
              have t3 : decide (L1 < v1) = false := decide_eq_false (by omega)
              have CD3 := fun e : Nat => (hs7.below (below_drewN (Below.refl w7.heap.size w7) e)).doc2
              have hdw : docU ps v1 = dw := by rw [← hve]; exact HDW.out
              rw [hdw] at CD3
              have HS7 := Lib.hid (fun e : Nat => hs7.below (below_drewN (Below.refl w7.heap.size w7) e))
              by_cases hvl : v < L
              · as_aux_lemma =>
                have t4 : decide (v1 ≤ L) = true := decide_eq_true (by omega)
                have s3 : IntKind.i64.wrap ((v1 : Int) - 1) = (v : Int) := by rw [IntKind.wrap_i64]; omega
                have i3 : (v : Int) < (L : Int) := by omega
                have hvp : v < ps.length := by rw [HPL.out]; exact hvl
                obtain ⟨-, hrp, -, -⟩ := HSX.out _ hs7.bel.1
                obtain ⟨bA, oA, AA, CA, hae, kd, -⟩ := hrp.at2 hvp
                have hde : ps[v].doc = dw := by rw [← HDW.out, docU_at hvp]
                rw [hde] at kd
                subst hae
                clear hs7 hrp hde hdw HDW hL1 hve hvp g3
                go_upto_region 39 with fail
                go_quiet ((go_at_call 30; first | with_reducible exact quiet_left (CD3 _) | with_reducible exact quiet_leftN (CD3 _) | with_reducible exact quiet_leftNN (CD3 _)))
                clear CD3 kd s2 s3
                go_wp2
                go_roundw
                case rel => exact ⟨v1, rfl, by have := HVE.out; omega, by have := HVE.out; omega, Lib.hid (HS7.out _)⟩
                case measure => have := HVE.out; simp [intOf]; omega
              · as_aux_lemma =>
                have t4 : decide (v1 ≤ L) = false := decide_eq_false (by omega)
                clear hs7 hdw HDW hL1 hve CD3 g3
                go_upto_region 39 with fail
                go_quiet (fail)
                clear s2
                go_wp2
                go_roundw
                case rel => exact ⟨v1, rfl, by have := HVE.out; omega, by have := HVE.out; omega, Lib.hid (HS7.out _)⟩
                case measure => have := HVE.out; simp [intOf]; omega
            · as_aux_lemma =>
              obtain rfl : v = U := by omega
              have CD1 := HV.out.doc1
              have CD2 := HV.out.doc2
              rw [HDU.out] at CD1 CD2
              have hsx := (HSX.out _ HV.out.bel.1).1
              have CF1 := HV.out.freq1 EA hsx
              obtain ⟨P, hP⟩ : ∃ P, posU ps v = P := ⟨_, rfl⟩
              rw [hP] at CF1
              have hPL : P.length ≤ 100000000 := by rw [← hP]; exact HV.out.pos v
              have HCD1 := Lib.hid CD1
              have HCD2 := Lib.hid CD2
              have HCF1 := Lib.hid CF1
              have HP := Lib.hid hP
              have t9 : decide (m6 < m0) = false := decide_eq_false (by omega)
              clear CD1 CD2 CF1 hP hsx HV HGO HAV hv hv1 hv2
              go_upto_region 36 with fail
              go_cut [170] (fun s170 wx => wr = wx ∧ s170 = .bool false)
              case first =>
                by_cases h5 : dU < T
                · have h6 : dU = 2147483647 := by
                    have := HEND.out
                    omega
                  have t1 : decide (dU < T) = true := decide_eq_true h5
                  have t2 : (dU != 2147483647) = false := by rw [h6]; rfl
                  clear h6 h5
                  go_wp2_with fail
                  with_reducible refine HCD2.out.mono ?_
                  rintro e wx ⟨rfl, rfl⟩
                  go_wp2_with fail
                  with_reducible refine HCD2.out.mono ?_
                  rintro e wx ⟨rfl, rfl⟩
                  go_wp2
                  go_meet
                  exact ⟨rfl, rfl⟩
                · have t1 : decide (dU < T) = false := decide_eq_false h5
                  go_wp2_with fail
                  with_reducible refine HCD2.out.mono ?_
                  rintro e wx ⟨rfl, rfl⟩
                  go_wp2
                  go_meet
                  exact ⟨rfl, rfl⟩
              case rest =>
              obtain ⟨rfl, rfl⟩ := hcut
              clear HEND
              go_wp2_with fail
              with_reducible refine HCD1.out.mono ?_
              rintro e wx ⟨rfl, rfl⟩
              go_wp2_with fail
              with_reducible refine HCD2.out.mono ?_
              rintro e wx ⟨rfl, rfl⟩
              go_wp2_with fail
              with_reducible refine HCF1.out.mono ?_
              rintro e w8 ⟨rfl, hs8, -⟩
              have CF2 := hs8.freq2 EA (HSX.out _ hs8.bel.1).1
              rw [HP.out] at CF2
              have HCF2 := Lib.hid CF2
              clear HCD1 HCD2 HCF1 hs8 CF2
              go_wp2_with fail
              with_reducible refine HCF2.out.mono ?_
              rintro e w9 ⟨rfl, hs9, -⟩
              have CM9 := hs9.mov1
              have HS9 := Lib.hid hs9
              clear HCF2 hs9
              go_wp2_with fail
              with_reducible refine CM9.mono ?_
              rintro e wx ⟨rfl, rfl⟩
              have CP1 := HS9.out.posi1 HTT.out EA (HSX.out _ HS9.out.bel.1).1
              rw [HP.out] at CP1
              have HCP1 := Lib.hid CP1
              clear CM9 HS9 CP1
              go_wp2_with fail
              with_reducible refine HCP1.out.mono ?_
              rintro e w10 ⟨x10, rfl, hx10, ⟨m10, hs10⟩, -, -⟩
              have CP2 := hs10.posi2 HTT.out EA (HSX.out _ hs10.bel.1).1
              rw [HP.out] at CP2
              have HCP2 := Lib.hid CP2
              have HX10 := Lib.hid hx10
              have HS10 := Lib.hid hs10
              obtain ⟨Ax, Cx, hvx⟩ := own_slice hx10
              rw [intL_length] at hvx
              subst hvx
              clear HCP1 CP2 hs10 hx10
              go_wp2_with fail
              with_reducible refine HCP2.out.mono ?_
              rintro e w11 ⟨y11, rfl, hy11, hs11, he11, hq11⟩
              have CF3 := hs11.freq1 EA (HSX.out _ hs11.bel.1).1
              rw [HP.out] at CF3
              have HCF3 := Lib.hid CF3
              obtain ⟨Ay, Cy, hvy⟩ := own_slice hy11
              rw [intL_length] at hvy
              subst hvy
              have HY11 := Lib.hid hy11
              have HX11 := Lib.hid (own_cur2 HS10.out HX10.out he11)
              have HS11 := Lib.hid hs11
              clear HCP2 CF3 hs11 hy11 he11 hq11 HX10 HS10
              go_wp2_with fail
              with_reducible refine HCF3.out.mono ?_
              rintro e w12 ⟨rfl, hs12, he12⟩
              have hx12 := own_cur1 HS11.out HX11.out he12
              have hy12 := own_cur1 HS11.out HY11.out he12
              obtain ⟨-, hxc⟩ := rd_il hx12.rd
              obtain ⟨-, hyc⟩ := rd_il hy12.rd
              have HXC := Lib.hid hxc
              have HYC := Lib.hid hyc
              have HS12 := Lib.hid hs12
              clear hx12 hy12 hxc hyc hs12 HX11 HY11 HS11 HCF3 he12
              go_wp2
              go_loopw [27, 246] (fun s27 s246 wz => ∃ (k d : Nat) (t27 : Value), s27 = t27 ∧ s246 = .int .i64 k ∧ k ≤ P.length ∧ wz = w12.drewN d) (fun _ s246 _ => P.length - (intOf s246).toNat)
              case atStart => exact ⟨0, 0, _, rfl, rfl, Nat.zero_le _, rfl⟩
              case round =>
                obtain ⟨k, d, t27, rfl, rfl, hk, rfl⟩ := hrel
                by_cases hlt5 : k < P.length
                · as_aux_lemma =>
                  have hpn : posU ps v ≠ [] := by
                    rw [HP.out]
                    intro e
                    rw [e] at hlt5
                    simp at hlt5
                  have hvr : ¬ (v = 0 ∨ ps.length < v) := fun h9 => hpn (posU_out h9)
                  rw [HPL.out] at hvr
                  obtain ⟨v0, hv0⟩ : ∃ v0, v0 + 1 = v := ⟨v - 1, by omega⟩
                  have hv0p : v0 < ps.length := by rw [HPL.out]; omega
                  have hpe : ps[v0].pos = P := by rw [← HP.out, ← hv0, posU_at hv0p]
                  obtain ⟨-, hrp, -, -⟩ := HSX.out _ HS12.out.bel.1
                  obtain ⟨bA, oA, Ap, Cp, hae, -, kp, kr⟩ := hrp.at2 hv0p
                  rw [hpe] at kp kr
                  obtain ⟨-, hpc⟩ := rd_il kr
                  obtain ⟨bx, ox, hxe, hx⟩ := HXC.out (by omega)
                  obtain ⟨by', oy, hye, hy⟩ := HYC.out (by omega)
                  obtain ⟨bp, op, hpe2, hp⟩ := hpc (by omega)
                  have x1 := hx k hlt5
                  have y1 := hy k hlt5
                  have p1 := hp k hlt5
                  obtain ⟨pv, hpv⟩ : ∃ pv, P[k] = pv := ⟨_, rfl⟩
                  rw [hpv] at x1 y1 p1
                  subst hae hxe hye hpe2
                  have t1 : decide (v < 1) = false := decide_eq_false (by omega)
                  have t1' : decide ((v : Int) < 1) = false := decide_eq_false (by omega)
                  have t2 : decide (L < v) = false := decide_eq_false (by omega)
                  have s3 : IntKind.i64.wrap ((v : Int) - 1) = (v0 : Int) := by rw [IntKind.wrap_i64]; omega
                  have i3 : (v0 : Int) < (L : Int) := by omega
                  have i4 : (k : Int) < (P.length : Int) := by omega
                  have HLT5 := Lib.hid hlt5
                  clear hpn hvr hv0 hv0p hpe hrp kr hpc hx hy hp hpv
                  go_upto_region 49 with fail
                  go_quiet (fail)
                  clear x1 y1 p1 kp s3
                  go_wp2
                  go_roundw
                  case rel => exact ⟨k + 1, _, _, rfl, by go_num, HLT5.out, by first | rfl | exact World.drewN_drewN ..⟩
                  case measure => have h9 := HLT5.out; simp [intOf]; omega
                · as_aux_lemma =>
                  obtain rfl : k = P.length := by omega
                  have i4 : ¬ ((P.length : Int) < (P.length : Int)) := by omega
                  have HSN := Lib.hid (HS12.out.below (below_drewN (Below.refl w12.heap.size w12) d))
                  clear HXC HYC HS12 hlt5
                  go_wp2
                  go_roundw
                  case rel => exact ⟨j + 1, v, _, _, _, _, _, _, rfl, rfl, rfl, rfl, rfl, rfl, rfl, by go_num, by omega, hUL, Lib.hid ⟨_, HSN.out⟩⟩
                  case measure => simp [intOf]; omega
        · as_aux_lemma =>
          obtain rfl : j = ts.length := by omega
          have j1 : ¬ ((ts.length : Int) < (ts.length : Int)) := by omega
          clear hlt
          go_wp2
          go_loopw [20, 28] (fun s20 s28 wy => ∃ (v : Nat) (t28 : Value), s20 = .int .i64 v ∧ s28 = t28 ∧ v ≤ L + 1 ∧ RowKit.Hid (∃ m, Sc2 w3 wy b0 b0 q1 b2 q2 (.pointer (some ⟨pl1, 0, none⟩)) (.pointer (some ⟨pl2, 0, none⟩)) ps IM u m v)) (fun s20 _ _ => L + 1 - (intOf s20).toNat)
          case atStart => exact ⟨u, _, rfl, rfl, hu, Lib.hid ⟨m0, HSC.out⟩⟩
          case round =>
            clear HSC
            obtain ⟨v, t28, rfl, rfl, hv, HS2⟩ := hrel
            obtain ⟨m1, hsc⟩ := HS2.out
            have HV := Lib.hid hsc
            clear hsc HS2
            by_cases hv1 : v ≤ L
            · as_aux_lemma =>
              have t1 : decide (v ≤ L) = true := decide_eq_true hv1
              have hle : v ≤ ps.length := by rw [HPL.out]; exact hv1
              have CN := HV.out.next2 HTT.out hle EA (HSX.out _ HV.out.bel.1).1
              obtain ⟨dw, hdw⟩ : ∃ d, docU ps (v + 1) = d := ⟨_, rfl⟩
              rw [hdw] at CN
              have HCN := Lib.hid CN
              have HV1 := Lib.hid hv1
              go_upto_if 295 with fail
              go_cut [28] (fun s28 wx => wr = wx ∧ s28 = .int .i64 dw)
              case first =>
                by_cases hvl : v < L
                · have hvp : v < ps.length := by rw [HPL.out]; exact hvl
                  obtain ⟨-, hrp, -, -⟩ := HSX.out _ HV.out.bel.1
                  obtain ⟨bA, oA, AA, CA, hae, kd, -⟩ := hrp.at2 hvp
                  have hde : ps[v].doc = dw := by rw [← hdw, docU_at hvp]
                  rw [hde] at kd
                  subst hae
                  have i3 : (v : Int) < (L : Int) := by omega
                  clear hrp hde hvp hdw CN
                  go_wp2
                  go_meet
                  exact ⟨rfl, rfl⟩
                · have hde : dw = 2147483647 := by rw [← hdw]; exact docU_end (by rw [HPL.out]; omega)
                  subst hde
                  clear hdw CN
                  go_wp2
                  go_meet
                  exact ⟨rfl, rfl⟩
              case rest =>
              obtain ⟨rfl, rfl⟩ := hcut
              clear hdw CN HV
              go_wp2_with fail
              with_reducible refine HCN.out.mono ?_
              rintro e w7 ⟨rfl, hs7⟩
              have CP := hs7.posi2 HTT.out EA (HSX.out _ hs7.bel.1).1
              have HCP := Lib.hid CP
              clear hs7 CP HCN
              go_wp2_with fail
              with_reducible refine HCP.out.mono ?_
              rintro e w8 ⟨y, rfl, hy, hs8, -, -⟩
              obtain ⟨Ay, Cy, hvy⟩ := own_slice hy
              subst hvy
              have HS8 := Lib.hid hs8
              clear hy hs8 HCP
              go_wp2
              go_roundw
              case rel => exact ⟨v + 1, _, by go_num, rfl, by omega, Lib.hid ⟨_, HS8.out⟩⟩
              case measure => simp [intOf]; omega
            · as_aux_lemma =>
              obtain rfl : v = L + 1 := by omega
              have t1 : decide (L + 1 ≤ L) = false := decide_eq_false (by omega)
              obtain ⟨⟨td1, h1⟩, ⟨m2, td2, h2⟩, hne⟩ := HV.out
              have hp1 : L + 1 = ps.length + 1 := by rw [HPL.out]
              have hm2 := (h2.small HTT.out).2.2
              have hm1 := (h1.small HTT.out).2.2
              rw [HPL.out, HT9.out] at hm1 hm2
              obtain ⟨K2, hK2⟩ : ∃ K, 2 * L = K := ⟨_, rfl⟩
              obtain ⟨K3, hK3⟩ : ∃ K, K2 + 1 = K := ⟨_, rfl⟩
              obtain ⟨K4, hK4⟩ : ∃ K, K3 + T9 = K := ⟨_, rfl⟩
              have ht9 := HTT.out
              rw [HT9.out] at ht9
              have s1 : IntKind.i64.wrap (2 * (L : Int)) = (K2 : Int) := by rw [IntKind.wrap_i64]; omega
              have s2 : IntKind.i64.wrap ((K2 : Int) + 1) = (K3 : Int) := by rw [IntKind.wrap_i64]; omega
              have s3 : IntKind.i64.wrap ((K3 : Int) + (T9 : Int)) = (K4 : Int) := by rw [IntKind.wrap_i64]; omega
              have t2 : decide (m2 ≤ K4) = true := decide_eq_true (by omega)
              have t3 : decide (m1 ≤ K4) = true := decide_eq_true (by omega)
              have CM := h2.mov
              have CN := h2.stay HTT.out hp1 EA (HSX.out _ h2.bel).1
              have HH1 := Lib.hid h1
              have HH2 := Lib.hid h2
              have HNE := Lib.hid hne
              have HKE := Lib.hid (show 2 * L + 1 + T9 = K4 by omega)
              have HCM := Lib.hid CM
              have HCN := Lib.hid CN
              clear h1 h2 hne CM CN hm1 hm2 hK2 hK3 hK4 ht9 HV hp1 hv1
              go_wp2_with fail
              with_reducible refine HCM.out.mono ?_
              rintro e wx ⟨rfl, rfl⟩
              clear HCM
              go_wp2_with fail
              with_reducible refine HCN.out.mono ?_
              rintro e w7 ⟨rfl, h27, he7⟩
              have h17 := HH1.out.other HH2.out HNE.out he7
              have CM7 := h27.mov
              have CM17 := h17.mov
              have CA7 := h17.adv HTT.out 2147483647 EA (HSX.out _ h17.bel).1
              have hde : docU ps (advU ps u 2147483647) = 2147483647 := by
                have hup : u ≤ ps.length + 1 := by rw [HPL.out]; exact hu
                have h9 := scan_end (ps := ps) (u := u) (t := 2147483647) hup
                have h8 : docU ps (advU ps u 2147483647) ≤ 2147483647 := by
                  unfold docU
                  split
                  · decide
                  · split
                    · rename_i h5 h6
                      have := okV_doc HOK.out _ h6
                      omega
                    · decide
                omega
              rw [hde] at CA7
              have HCM7 := Lib.hid CM7
              have HCM17 := Lib.hid CM17
              have HCA7 := Lib.hid CA7
              clear h27 he7 h17 CM7 CM17 CA7 hde HCN HH1 HH2 HNE
              go_wp2_with fail
              with_reducible refine HCM7.out.mono ?_
              rintro e wx ⟨rfl, rfl⟩
              clear HCM7
              go_wp2_with fail
              with_reducible refine HCM17.out.mono ?_
              rintro e wx ⟨rfl, rfl⟩
              clear HCM17
              go_wp2_with fail
              with_reducible refine HCA7.out.mono ?_
              rintro e w8 ⟨rfl, ⟨m8, td8, h8, -⟩, -⟩
              have CM8 := h8.mov
              have hm8 := (h8.small HTT.out).2.2
              rw [HPL.out, HT9.out] at hm8
              have t4 : decide (m8 ≤ K4) = true := decide_eq_true (by have := HKE.out; omega)
              have HFIN := Lib.hid (HSX.out _ h8.bel).2.2.2
              clear h8 hm8 HCA7
              go_wp2_with fail
              with_reducible refine CM8.mono ?_
              rintro e wx ⟨rfl, rfl⟩
              clear CM8
              go_wp2
              go_ret
              exact ⟨by simp, HFIN.out⟩
end Go.Proofs.YtaijepjhmjjecaaDoor
