/- CursorMemory: the walk. -/
import Derived.Test.YtaijepjhmjjecaaDoorZG22
import Derived.Test.YtaijepjhmjjecaaDoorZG30
import Derived.Test.YtaijepjhmjjecaaDoorZG15
namespace Go.Proofs.YtaijepjhmjjecaaDoor
set_option linter.unusedVariables false
open Go.ChangeShapes Go.WideShapes Go.ChangeAt Go.RowKit

set_option maxRecDepth 100000 in
set_option maxHeartbeats 16000000 in
theorem cursorMemory_walk (w : World) (a : Option Addr) (n c : Nat) (ps : List PostV) (hr : RdPost w a n ps) (hnc : n ≤ c) (hf : FitP ps) (hl : ps.length ≤ 1048576) (hT : totalV ps ≤ 1048576)
    (a1 : Option Addr) (n1 c1 : Nat) (ls : List (List Int)) (hL : RdLL w a1 n1 ls) (a2 : Option Addr) (n2 c2 : Nat) (os : List Int) (hO : Rd w (.slice a2 n2 c2) (intL os)) (hsum : sumL ls ≤ 2000000) (hln : ls.length ≤ 2000000) (hol : os.length ≤ 2000000) (EA : Nat → Addr) (hS : Sent w EA) :
    Calls Tryd.prog 6 #[.slice a n c, .slice a1 n1 c1, .slice a2 n2 c2] w fun e w' => e = .returned (.bool true) ∧ Below w.heap.size w w' := by
  have C1 := fixed_any w EA hS
  obtain rfl := hr.1
  have CK := fun (X : World) (hb : Below w.heap.size w X) => phk_any X a1 n1 c1 ls (hL.below hb (Nat.le_refl _)) a2 n2 c2 os (hO.below hb (Nat.le_refl _)) hsum hln hol
  have C2 := fun (X : World) (hb : Below w.heap.size w X) => renc_any X a ps.length c ps (hr.below hb (Nat.le_refl _)) hnc hf (by omega) (by omega) EA (hS.below hb).s7.s6
  have HCK := Lib.hid CK
  have HC2 := Lib.hid C2
  have HS := Lib.hid hS
  have HR := Lib.hid hr
  have HF := Lib.hid hf
  clear CK C2 hS hr hf hL hO hnc
  go_enter Tryd.func6, Tryd.ntmps6
  go_wp2_with fail
  with_reducible refine C1.mono ?_
  rintro e w1 ⟨rfl, hb1⟩
  have HB1 := Lib.hid hb1
  clear C1 hb1
  go_wp2_with fail
  with_reducible refine (HC2.out _ HB1.out).mono ?_
  rintro e w2 ⟨h1, h2⟩
  clear HC2
  by_cases ok : okV (-1) ps
  · obtain ⟨A2, N2, K2, rfl, ho2, hb2⟩ := h1 ok
    have HB2 := Lib.hid (HB1.out.trans (hb2.mono HB1.out.size))
    have him := image_le31 HF.out ok hl hT
    obtain ⟨IM, hIM⟩ : ∃ IM, imageV ps = IM := ⟨_, rfl⟩
    have hrd := ho2.rd
    rw [hIM] at hrd him
    have hnl : N2 = IM.length := by have h9 := ho2.len; rw [hIM] at h9; simpa [bytesV] using h9
    subst hnl
    have C3 := spare_any w2 A2 IM.length K2 IM hrd (by omega)
    have HC3 := Lib.hid C3
    have HIM := Lib.hid hIM
    have HRD := Lib.hid hrd
    have HOK := Lib.hid ok
    clear h1 h2 ho2 hb2 hrd C3 hIM ok HB1
    go_wp2_with fail
    with_reducible refine HC3.out.mono ?_
    rintro e w3 ⟨A3, K3, rfl, ho3, hb3⟩
    have hin := rd_takeV ho3.rd IM.length (by simp [bytesV])
    have hin2 : Rd w3 (.slice A3 IM.length K3) (bytesV (imageV ps)) := by
      rw [HIM.out]
      have e9 : (bytesV (IM ++ marks 7 0 80)).take IM.length = bytesV IM := by simp [bytesV]
      rw [e9] at hin
      exact hin
    have HB3 := Lib.hid hb3
    have C4 := copen_ok w3 A3 IM.length K3 ps HOK.out HF.out hl (by omega) (by rw [HIM.out]; omega) hin2 EA (HS.out.below (HB2.out.trans (hb3.mono HB2.out.size))).s7.s6
    have HC4 := Lib.hid C4
    have HO3 := Lib.hid ho3
    have HO3L := Lib.hid ho3
    clear hin hin2 hb3 C4 ho3 HC3
    go_wp2_with fail
    with_reducible refine HC4.out.mono ?_
    rintro e w4 ⟨q, pl, rfl, hc4, hb4⟩
    have ho4 := HO3.out.below hb4 (Nat.le_refl _)
    have hrd4 := (HRD.out.below HB3.out (Nat.le_refl _)).below hb4 (Nat.le_refl _)
    have C5 := kept_any w4 A3 (IM.length + 80) K3 A2 IM.length K2 IM ho4.rd hrd4 (by omega)
    have HC5 := Lib.hid C5
    have HO4 := Lib.hid ho4
    have HCU := Lib.hid hc4
    have HB4 := Lib.hid hb4
    clear ho4 hrd4 C5 hc4 hb4 HC4 HO3
    go_wp2_with fail
    with_reducible refine HC5.out.mono ?_
    rintro e w5 ⟨rfl, d5, rfl⟩
    have hbd := below_drewN (Below.refl w4.heap.size w4) d5
    have HO5 := Lib.hid (HO4.out.below hbd (Nat.le_refl _))
    have HCU5 := Lib.hid (HCU.out.below hbd (Nat.le_refl _))
    have HB5 := Lib.hid (HB4.out.trans (hbd.mono HB4.out.size))
    have HLO := Lib.hid (show ∀ b, (Value.slice A3 (IM.length + 80) K3).ownBlock = some b → b < w3.heap.size from fun b hb => (HO3L.out.lt b hb).2)
    obtain ⟨BS, hBS⟩ : ∃ BS, IM ++ marks 7 0 80 = BS := ⟨_, rfl⟩
    have hBL : IM.length + 80 = BS.length := by rw [← hBS, List.length_append, marks_length]
    have hfl : FlS w2 (w4.drewN d5) w2.heap.size w3.heap.size q (.pointer (some ⟨pl, 0, none⟩)) ps (imageV ps) A3 (IM.length + 80) K3 0 BS := by
      refine ⟨?_, HCU5.out, HB3.out.trans (HB5.out.mono HB3.out.size), HLO.out, HB5.out.size⟩
      have h9 := HO5.out
      rw [hBS] at h9
      simpa using h9
    rw [hBL] at hfl ⊢
    have hbl : BS.length ≤ 500000000 := by omega
    have HFL := Lib.hid hfl
    have HBL := Lib.hid hBL
    have hwb : w.heap.size ≤ w3.heap.size := Nat.le_trans HB2.out.size HB3.out.size
    obtain ⟨base, hbase⟩ : ∃ b, w3.heap.size = b := ⟨_, rfl⟩
    rw [hbase] at hwb
    have HWB := Lib.hid hwb
    obtain ⟨B0, hB0⟩ : ∃ b, w2.heap.size = b := ⟨_, rfl⟩
    rw [hbase, hB0] at HFL
    have HB0 := Lib.hid hB0
    have HBASE := Lib.hid hbase
    clear hbd HC5 HO4 HCU HB4 hfl hBS hBL hwb HO5 HCU5 HB5 HLO HO3L HRD HB3 hbase hB0
    generalize w4.drewN d5 = w5 at HFL ⊢
    go_wp2
    go_loopw [13, 55] (fun s13 s55 wr => ∃ (i : Nat) (t13 : Value), s13 = t13 ∧ s55 = .int .i64 i ∧ i ≤ BS.length ∧ RowKit.Hid (FlS w2 wr B0 base q (.pointer (some ⟨pl, 0, none⟩)) ps (imageV ps) A3 BS.length K3 i BS)) (fun _ s55 _ => BS.length - (intOf s55).toNat)
    case atStart => exact ⟨0, _, rfl, rfl, Nat.zero_le _, HFL⟩
    case round =>
      clear HFL
      obtain ⟨i, t13, rfl, rfl, hi, HFL⟩ := hrel
      by_cases hlt : i < BS.length
      · as_aux_lemma =>
        obtain ⟨g, hg⟩ := HFL.out.own.someAt (by omega)
        subst hg
        have hlen : ((BS.take i).map flipB).length = i := by rw [List.length_map, List.length_take]; omega
        have hx : (bytesV ((BS.take i).map flipB ++ BS.drop i))[i]? = some (.int .u8 (BS[i].toNat : Nat)) := by
          unfold bytesV
          rw [List.map_append, List.getElem?_append_right (by rw [List.length_map, hlen]; exact Nat.le_refl _), List.length_map, hlen, Nat.sub_self, List.drop_eq_getElem_cons hlt]
          rfl
        have k1 := HFL.out.own.get hx
        have f1 := HFL.out.own.frozen i
        have hfb := flip_bits BS[i]
        have hst := HFL.out.step hlt (by have h1 := HFL.out.bel.size; have h2 := HB0.out; omega)
        obtain ⟨x, hxe⟩ : ∃ x, BS[i].toNat = x := ⟨_, rfl⟩
        obtain ⟨z, hze⟩ : ∃ z, (flipB BS[i]).toNat = z := ⟨_, rfl⟩
        rw [hxe] at k1 hfb
        rw [hze] at hfb hst
        have i1 : (i : Int) < (BS.length : Int) := by omega
        have HST := Lib.hid hst
        clear hlen hx hst hxe hze HFL
        go_wp2
        go_roundw
        case rel => exact ⟨i + 1, _, rfl, by go_num, by omega, HST⟩
        case measure => simp [intOf]; omega
      · obtain rfl : i = BS.length := by omega
        have i1 : ¬ ((BS.length : Int) < (BS.length : Int)) := by omega
        -- POSTINGS
        have hgs : GoS wr wr base q (.pointer (some ⟨pl, 0, none⟩)) ps (imageV ps) 0 0 := ⟨⟨0, false, HFL.out.cur, Nat.le_refl _⟩, Below.refl _ _, HFL.out.bz⟩
        have hbw : Below w.heap.size w wr := by
          have h9 := HFL.out.bel
          rw [← HB0.out] at h9
          exact HB2.out.trans (h9.mono HB2.out.size)
        obtain ⟨wz, rfl⟩ : ∃ wz : World, wz = wr := ⟨_, rfl⟩
        have HGS := Lib.hid hgs
        have HBW := Lib.hid hbw
        have HFZ := HFL
        clear HFL hgs hbw
        have HSX := Lib.hid (show ∀ X m u, GoS wz X base q (.pointer (some ⟨pl, 0, none⟩)) ps (imageV ps) u m → Below wz.heap.size wz X ∨ True from fun _ _ _ _ => .inr trivial)
        obtain ⟨K9, hK9⟩ : ∃ K, K = 500000000 := ⟨_, rfl⟩
        have hKi : ∀ i, i ≤ ps.length → K9 * i ≤ 600000000000000 := fun i hi => by
          have := Nat.mul_le_mul (show K9 ≤ 500000000 by omega) (show i ≤ 1048576 by omega)
          omega
        have HKI := Lib.hid hKi
        have HK9 := Lib.hid hK9
        have HGS := Lib.hid (show GoS wz wz base q (.pointer (some ⟨pl, 0, none⟩)) ps (imageV ps) 0 (K9 * 0) by rw [Nat.mul_zero]; exact HGS.out)
        clear hKi hK9 HSX
        have HWX := Lib.hid (show ∀ X m u, GoS wz X base q (.pointer (some ⟨pl, 0, none⟩)) ps (imageV ps) u m → Below w.heap.size w X from fun X m u h => HBW.out.trans (h.bel.mono HWB.out))
        go_wp2
        go_loopw [14, 16, 17, 18, 19, 67] (fun s14 s16 s17 s18 s19 s67 wr => ∃ (i N : Nat) (A9 : Option Addr) (C9 : Nat) (t16 t17 t18 t19 : Value), s14 = .slice A9 N C9 ∧ s16 = t16 ∧ s17 = t17 ∧ s18 = t18 ∧ s19 = t19 ∧ s67 = .int .i64 i ∧ i ≤ ps.length ∧ N ≤ 3 * i ∧ RowKit.Hid (GoS wz wr base q (.pointer (some ⟨pl, 0, none⟩)) ps (imageV ps) i (K9 * i)) ∧ RowKit.Hid (∃ vs ys, KpS wr base N (.slice A9 N C9) vs ys ∧ ∀ k, k < N → (ys k).length ≤ 100000000)) (fun _ _ _ _ _ s67 _ => ps.length - (intOf s67).toNat)
        case atStart => exact ⟨0, 0, none, 0, _, _, _, _, rfl, rfl, rfl, rfl, rfl, rfl, Nat.zero_le _, Nat.zero_le _, HGS, Lib.hid ⟨fun _ => .slice none 0 0, fun _ => [], KpS.nil _ _ _ _, fun k hk => absurd hk (Nat.not_lt_zero _)⟩⟩
        case round =>
          clear HGS
          obtain ⟨i, N, A9, C9, t16, t17, t18, t19, rfl, rfl, rfl, rfl, rfl, rfl, hi, hN, HG, HK⟩ := hrel
          by_cases hlt : i < ps.length
          · obtain ⟨b9, o9, Ap, Cp, hae, k0, k1, k2⟩ := HR.out.at2 hlt
            have hbB := HWX.out _ _ _ HG.out
            replace k0 := (hbB.cell (World.block_lt_of_cell? w _ k0)).trans k0
            replace k1 := (hbB.cell (World.block_lt_of_cell? w _ k1)).trans k1
            have hpu := posU_at hlt
            have hdu := docU_at hlt
            obtain ⟨dv, hdv⟩ : ∃ d, ps[i].doc = d := ⟨_, rfl⟩
            obtain ⟨pv, hpv⟩ : ∃ d, ps[i].pos = d := ⟨_, rfl⟩
            have hpf := (HF.out _ (List.getElem_mem hlt)).2.2
            rw [hdv] at k0 hdu
            rw [hpv] at k1 k2 hpu hpf
            have i1 : (i : Int) < (ps.length : Int) := by omega
            have HRP := Lib.hid (show ∀ X, Below w.heap.size w X → Rd X (.slice Ap pv.length Cp) (intL pv) from fun X h => k2.below h (Nat.le_refl _))
            subst hae
            clear hdv hpv hbB k2
            go_upto_region 18 with fail
            have hX := heap_alloc_new wr (.cells #[.int .i64 dv, .slice Ap pv.length Cp] 41)
            have hba := (Below.refl wr.heap.size wr).alloc (Nat.le_refl _) (.cells #[.int .i64 dv, .slice Ap pv.length Cp] 41)
            have hg := HG.out.below hba
            have hgq := HG.out.hq
            have hzq : q < wr.heap.size := hgq.2
            obtain ⟨vs, ys, hkp, hyl⟩ := HK.out
            have hkp2 := hkp.below hba (Nat.le_refl _)
            clear k0 k1 hba hgq HK hkp
            generalize wr.alloc (.cells #[.int .i64 dv, .slice Ap pv.length Cp] 41) = wX at hX hg hkp2 ⊢
            generalize wr.heap.size = z at hX hzq ⊢
            have hzz : z < wX.heap.size := lt_of_heap hX
            have HX := Lib.hid (show ∀ X, Eff (· = q) wX X → X.cell? ⟨z, 0, none⟩ = some (.int .i64 dv) ∧ X.cell? ⟨z, 1, none⟩ = some (.slice Ap pv.length Cp) from fun X e => by
              have h9 := (e.block z hzz (by omega)).trans hX
              exact ⟨blk_cell h9 0, blk_cell h9 1⟩)
            have k0 : wX.cell? ⟨z, 0, none⟩ = some (.int .i64 dv) := blk_cell hX 0
            have k1 : wX.cell? ⟨z, 1, none⟩ = some (.slice Ap pv.length Cp) := blk_cell hX 1
            have HG2 := Lib.hid hg
            have HKP := Lib.hid hkp2
            have HYL := Lib.hid hyl
            clear hX hg HG hzq hzz hkp2 hyl
            go_cut [75] (fun s75 wx => s75 = .bool false ∧ RowKit.Hid (GoS wz wx base q (.pointer (some ⟨pl, 0, none⟩)) ps (imageV ps) (i + 1) (K9 * i + 100000000)) ∧ RowKit.Hid (Eff (· = q) wX wx))
            case first =>
              refine wp_region_noPanic ?_
              refine wp_region_held_drew (S := fun X => X.cell? ⟨z, 0, none⟩ = some (.int .i64 dv) ∧ X.cell? ⟨z, 1, none⟩ = some (.slice Ap pv.length Cp)) (by kernel_rfl) ⟨k0, k1⟩ (fun hHeld => ?_)
              clear k0 k1
              refine wpAnyH_take (i := 0) (v := ?_) rfl (by kernel_rfl) (by kernel_rfl) (by kernel_rfl) (fun _ _ _ h => h) (Or.inl ⟨by kernel_rfl, ?_⟩) hHeld ?_
              rotate_left
              · intro w hSw
                obtain ⟨z1, z2⟩ := hSw
                go_simp
                try with_reducible rfl
              refine wpAnyH_take (i := 2) (v := ?_) rfl (by kernel_rfl) (by kernel_rfl) (by kernel_rfl) (fun _ _ _ h => h) (Or.inl ⟨by kernel_rfl, ?_⟩) hHeld ?_
              rotate_left
              · intro w hSw
                obtain ⟨z1, z2⟩ := hSw
                go_simp
                try with_reducible rfl
              refine wpAnyH_take (i := 3) (v := ?_) rfl (by kernel_rfl) (by kernel_rfl) (by kernel_rfl) (fun _ _ _ h => h) (Or.inl ⟨by kernel_rfl, ?_⟩) hHeld ?_
              rotate_left
              · intro w hSw
                obtain ⟨z1, z2⟩ := hSw
                go_simp
                try with_reducible rfl
              have hg0 := HG2.out.below (Below.refl wX.heap.size wX).drew
              have HE := Lib.hid (eff_of_below (F := (· = q)) (Below.refl wX.heap.size wX).drew)
              generalize World.drew wX = X0 at hg0 HE hHeld ⊢
              clear HG2
              have hki := HKI.out i hi
              have C7 := hg0.next hi (by omega) EA (HS.out.below (HWX.out _ _ _ hg0)).s7.s6
              rw [hdu] at C7
              have HC := Lib.hid C7
              clear C7 hg0 hHeld hki
              refine wpAnyH_ready (rs := [1]) (by kernel_rfl) (by simp) ?_
              refine AllReadyH.cons rfl (fun KK hKK => ?_) ?_
              rotate_left
              · exact AllReadyH.nil
              rw [if_pos (by kernel_rfl)]
              go_simp
              go_wp2_with (go_at_call 16; (with_reducible refine HC.out.mono ?_); rintro e X1 ⟨rfl, hg1, he1⟩)
              have HE1 := Lib.hid (eff_tr HE.out he1)
              have hs9 := HX.out _ HE1.out
              have HG1 := Lib.hid hg1
              clear HC HE he1 hg1
              refine hKK.out _ _ hs9 (fun hHeld => ?_)
              clear hKK KK hs9
              refine wpAnyH_take (i := 4) (v := ?_) rfl (by kernel_rfl) (by kernel_rfl) (by kernel_rfl) (fun _ _ _ h => h) (Or.inl ⟨by kernel_rfl, ?_⟩) hHeld ?_
              rotate_left
              · intro w hSw
                obtain ⟨z1, z2⟩ := hSw
                go_simp
                try with_reducible rfl
              clear hHeld
              refine wpAnyH_done (by kernel_rfl) ?_ _
              refine NoPanic.normal ?_
              go_wp2_with fail
              go_meet
              exact ⟨rfl, HG1, HE1⟩
            case rest =>
            obtain ⟨rfl, HG3, HE3⟩ := hcut
            have HKPC := Lib.hid (KpS.go HG2.out HKP.out HE3.out)
            have HKO := Lib.hid (show ∀ k b, k < N → (vs k).ownBlock = some b → b < wc.heap.size from fun k b hk hb => ((HKPC.out.ow.own k hk).lt b hb).2)
            have hzc : base ≤ wc.heap.size := Nat.le_trans HG3.out.bz HG3.out.bel.size
            clear HG2 k0 k1 HKP
            have C1 := HG3.out.posi (by have := HKI.out i hi; omega) EA (HS.out.below (HWX.out _ _ _ HG3.out)).s7.s6
            rw [hpu] at C1
            have HC := Lib.hid C1
            clear C1
            go_wp2_with fail
            with_reducible refine HC.out.mono ?_
            rintro e x1 ⟨v1, rfl, ho1, hg1, he1⟩
            obtain ⟨a1, c1, hv1⟩ := own_slice ho1
            rw [intL_length] at hv1
            subst hv1
            have HO1 := Lib.hid ho1
            have HO1L := Lib.hid ho1
            have HKP1 := Lib.hid (KpS.go HG3.out HKPC.out he1)
            have HEE1 := Lib.hid (eff_tr HE3.out he1)
            have HZZ1 := Lib.hid (And.intro he1.size HG3.out.hq.2)
            have HG31 := Lib.hid hg1
            
            clear HC ho1 hg1 he1 HG3 HKPC
            have C2 := HG31.out.posi (by have := HKI.out i hi; omega) EA (HS.out.below (HWX.out _ _ _ HG31.out)).s7.s6
            rw [hpu] at C2
            have HC := Lib.hid C2
            clear C2
            go_wp2_with fail
            with_reducible refine HC.out.mono ?_
            rintro e x2 ⟨v2, rfl, ho2, hg2, he2⟩
            obtain ⟨a2, c2, hv2⟩ := own_slice ho2
            rw [intL_length] at hv2
            subst hv2
            have HO2 := Lib.hid ho2
            have HO2L := Lib.hid ho2
            have HKP2 := Lib.hid (KpS.go HG31.out HKP1.out he2)
            have HEE2 := Lib.hid (eff_tr HEE1.out he2)
            have HZZ2 := Lib.hid (And.intro he2.size HG31.out.hq.2)
            have HG32 := Lib.hid hg2
            have HP1 := Lib.hid (own_curq HO1.out he2 HZZ1.out.2)
            clear HO1
            clear HC ho2 hg2 he2 HG31 HKP1
            have C3 := HG32.out.posi (by have := HKI.out i hi; omega) EA (HS.out.below (HWX.out _ _ _ HG32.out)).s7.s6
            rw [hpu] at C3
            have HC := Lib.hid C3
            clear C3
            go_wp2_with fail
            with_reducible refine HC.out.mono ?_
            rintro e x3 ⟨v3, rfl, ho3, hg3, he3⟩
            obtain ⟨a3, c3, hv3⟩ := own_slice ho3
            rw [intL_length] at hv3
            subst hv3
            have HO3 := Lib.hid ho3
            have HKP3 := Lib.hid (KpS.go HG32.out HKP2.out he3)
            have HEE3 := Lib.hid (eff_tr HEE2.out he3)
            have HZZ3 := Lib.hid (And.intro he3.size HG32.out.hq.2)
            have HG33 := Lib.hid hg3
            have HP11 := Lib.hid (own_curq HP1.out he3 HZZ1.out.2)
            have HP22 := Lib.hid (own_curq HO2.out he3 HZZ2.out.2)
            clear HP1 HO2
            clear HC ho3 hg3 he3 HG32 HKP2
            obtain ⟨kz0, kz1⟩ := HX.out _ HEE3.out
            have hrp3 := HRP.out _ (HWX.out _ _ _ HG33.out)
            have S1 := samei_any x3 a1 Ap pv.length pv.length c1 Cp pv pv HP11.out.rd hrp3 (by omega) (by omega)
            have S2 := fun d => samei_any (x3.drewN d) a2 Ap pv.length pv.length c2 Cp pv pv (show Rd (x3.drewN d) _ _ from HP22.out.rd) (show Rd (x3.drewN d) _ _ from hrp3) (by omega) (by omega)
            have S3 := fun d => samei_any (x3.drewN d) a3 Ap pv.length pv.length c3 Cp pv pv (show Rd (x3.drewN d) _ _ from HO3.out.rd) (show Rd (x3.drewN d) _ _ from hrp3) (by omega) (by omega)
            rw [show decide (pv = pv) = true from decide_eq_true rfl] at S1 S2 S3
            have HS1 := Lib.hid S1
            have HS2 := Lib.hid S2
            have HS3 := Lib.hid S3
            clear S1 S2 S3 hrp3
            go_wp2_with fail
            with_reducible refine HS1.out.mono ?_
            rintro e x4 ⟨rfl, d4, rfl⟩
            go_wp2_with fail
            with_reducible refine (HS2.out _).mono ?_
            rintro e x5 ⟨rfl, d5, hx5⟩
            rw [World.drewN_drewN] at hx5
            subst hx5
            go_wp2_with fail
            with_reducible refine (HS3.out _).mono ?_
            rintro e x6 ⟨rfl, d6, hx6⟩
            rw [World.drewN_drewN] at hx6
            subst hx6
            clear HS1 HS2 HS3 kz0 kz1
            go_upto_region 23 with fail
            have hbd := below_drewN (Below.refl x3.heap.size x3) (d4 + d5 + d6)
            have hg6 := HG33.out.below hbd
            have hk6 := HKP3.out.below hbd (Nat.le_refl _)
            have o16 := own_base (HP11.out.below hbd (Nat.le_refl _)) (base' := base) hzc
            have o26 := own_base (HP22.out.below hbd (Nat.le_refl _)) (base' := base) (Nat.le_trans hzc HZZ1.out.1)
            have o36 := own_base (HO3.out.below hbd (Nat.le_refl _)) (base' := base) (Nat.le_trans (Nat.le_trans hzc HZZ1.out.1) HZZ2.out.1)
            have b1 : ∀ b, (Value.slice a1 pv.length c1).ownBlock = some b → wc.heap.size ≤ b ∧ b < x1.heap.size := fun b hb => ⟨(HP11.out.lt b hb).1, (HO1L.out.lt b hb).2⟩
            have b2 : ∀ b, (Value.slice a2 pv.length c2).ownBlock = some b → x1.heap.size ≤ b ∧ b < x2.heap.size := fun b hb => ⟨(HP22.out.lt b hb).1, (HO2L.out.lt b hb).2⟩
            have b3 : ∀ b, (Value.slice a3 pv.length c3).ownBlock = some b → x2.heap.size ≤ b := fun b hb => (HO3.out.lt b hb).1
            have HB1' := Lib.hid b1
            have HB2' := Lib.hid b2
            have HB3' := Lib.hid b3
            have hz6 : base ≤ (x3.drewN (d4 + d5 + d6)).heap.size := by
              have h1 := HZZ1.out.1
              have h2 := HZZ2.out.1
              have h3 := HZZ3.out.1
              show base ≤ x3.heap.size
              omega
            have HG6 := Lib.hid hg6
            have HK6 := Lib.hid hk6
            have HO16 := Lib.hid o16
            have HO26 := Lib.hid o26
            have HO36 := Lib.hid o36
            clear hbd hg6 hk6 o16 o26 o36 b1 b2 b3 HP11 HP22 HO3 HKP3 HG33 HO1L HO2L
            generalize x3.drewN (d4 + d5 + d6) = X6 at HG6 HK6 HO16 HO26 HO36 hz6 ⊢
            have hol := own_lit X6 0 23 [.slice a1 pv.length c1, .slice a2 pv.length c2] (Nat.zero_le _) (by simp [maxLen])
            have hba := (Below.refl X6.heap.size X6).alloc (Nat.le_refl _) (.cells #[.slice a1 pv.length c1, .slice a2 pv.length c2] 23)
            have hra : Rd (X6.alloc (.cells #[.slice a1 pv.length c1, .slice a2 pv.length c2] 23)) (.slice (some ⟨X6.heap.size, 0, none⟩) 2 2) [.slice a1 pv.length c1, .slice a2 pv.length c2] := hol.rd
            have hk7 := HK6.out.below hba (Nat.le_refl _)
            have hla : ((List.range N).map vs).length + [Value.slice a1 pv.length c1, Value.slice a2 pv.length c2].length < 1000000000001 := by rw [List.length_map, List.length_range]; simp; omega
            have hza : base ≤ (X6.alloc (.cells #[.slice a1 pv.length c1, .slice a2 pv.length c2] 23)).heap.size := Nat.le_trans hz6 hba.size
            have hone : ∀ u ∈ [Value.slice a1 pv.length c1, Value.slice a2 pv.length c2], u.oneCell' = true := fun u hu => by
              rcases List.mem_cons.1 hu with rfl | hu
              · rfl
              · rw [List.mem_singleton.1 hu]; rfl
            have HBA := Lib.hid hba
            have HRA := Lib.hid hra
            have HK7 := Lib.hid hk7
            have HTOP7 := Lib.hid hk7.top
            have HLA := Lib.hid hla
            have HZA := Lib.hid hza
            have HONE := Lib.hid hone
            clear hol hba hra hk7 hla hza hone
            go_wp2_with (at_builtin; with_reducible refine apN elLL HTOP7.out HRA.out HONE.out HLA.out HZA.out rfl _ _ rfl rfl rfl ?_)
            intro v7 w7 g1 g2 g3 g4
            have hl9 : ((List.range N).map vs ++ [Value.slice a1 pv.length c1, Value.slice a2 pv.length c2]).length = N + 2 := by simp
            obtain ⟨A7, C7, hv7⟩ := own_slice g1
            rw [hl9] at hv7
            subst hv7
            obtain ⟨vs7, ys7, hk7, he7, hn0, hn1, hy0, hy1⟩ := KpS.push2 HK7.out (HO16.out.below HBA.out (Nat.le_refl _)) (HO26.out.below HBA.out (Nat.le_refl _)) (fun k b hk hb h9 => by have g1 := HKO.out k b hk hb; have g2 := (HB1'.out b h9).1; omega) (fun k b hk hb h9 => by have g1 := HKO.out k b hk hb; have g2 := (HB2'.out b h9).1; have g3 := HZZ1.out.1; omega) (fun b h8 h9 => by have g1 := (HB1'.out b h8).2; have g2 := (HB2'.out b h9).1; omega) g1 g4
            have ho37 := (HO36.out.below HBA.out (Nat.le_refl _)).kept g4 (kept_types (HO36.out.below HBA.out (Nat.le_refl _)) HTOP7.out (by decide))
            have hg7 := (HG6.out.below HBA.out).grown HTOP7.out g4 (Nat.le_refl _)
            have hs3 : ∀ k b, k < N + 2 → (vs7 k).ownBlock = some b → (Value.slice a3 pv.length c3).ownBlock ≠ some b := fun k b hk hb h9 => by
              have g3 := HB3'.out b h9
              have z1 := HZZ1.out.1
              have z2 := HZZ2.out.1
              rcases Nat.lt_or_ge k N with h | h
              · rw [(he7 k h).1] at hb
                have := HKO.out k b h hb
                omega
              · rcases Nat.lt_or_ge N k with h2 | h2
                · obtain rfl : k = N + 1 := by omega
                  rw [hn1] at hb
                  have := (HB2'.out b hb).2
                  omega
                · obtain rfl : k = N := by omega
                  rw [hn0] at hb
                  have := (HB1'.out b hb).2
                  omega
            have hy7 : ∀ k, k < N + 2 → (ys7 k).length ≤ 100000000 := fun k hk => by
              rcases Nat.lt_or_ge k N with h | h
              · rw [(he7 k h).2]
                exact HYL.out k h
              · rcases Nat.lt_or_ge N k with h2 | h2
                · obtain rfl : k = N + 1 := by omega
                  rw [hy1]; omega
                · obtain rfl : k = N := by omega
                  rw [hy0]; omega
            have hm7 : K9 * i + 100000000 + 100000000 + 100000000 + 100000000 ≤ K9 * (i + 1) := by have := HK9.out; rw [Nat.mul_succ]; omega
            have hl7 : ((List.range (N + 2)).map vs7).length < 1000000000000 := by rw [List.length_map, List.length_range]; omega
            have hz7 : base ≤ w7.heap.size := Nat.le_trans hg7.bz hg7.bel.size
            obtain ⟨N2, hN2⟩ : ∃ N2, N + 2 = N2 := ⟨_, rfl⟩
            rw [hN2] at hk7 hs3 hy7 hl7
            rw [hN2]
            have hNb : N2 ≤ 3 * i + 2 := by omega
            have HG7 := Lib.hid (hg7.mono hm7)
            have HK8 := Lib.hid hk7
            have HTOP8 := Lib.hid hk7.top
            have HO37 := Lib.hid ho37
            have HS3 := Lib.hid hs3
            have HY7 := Lib.hid hy7
            have HL7 := Lib.hid hl7
            clear g1 g2 g3 g4 hl9 hk7 he7 hn0 hn1 hy0 hy1 ho37 hg7 hs3 hy7 hm7 hl7 hN2 HK7 HTOP7 HBA HRA HLA HZA HONE HO16 HO26 HO36 HG6 HK6 HKO HB1' HB2' HB3' HZZ1 HZZ2 HZZ3 HYL hN
            by_cases h12 : N2 < 12
            · have i2 : (N2 : Int) < 12 := by omega
              go_wp2_with (at_builtin; with_reducible refine ap1' elLL rfl HTOP8.out HL7.out hz7 rfl _ _ rfl rfl rfl ?_)
              intro v8 w8 k1 k2 k3 k4
              have hl9 : ((List.range N2).map vs7 ++ [Value.slice a3 pv.length c3]).length = N2 + 1 := by simp
              obtain ⟨A8, C8, hv8⟩ := own_slice k1
              rw [hl9] at hv8
              subst hv8
              have hk8 := KpS.push HK8.out HO37.out HS3.out k1 k4
              have hg8 := HG7.out.grown HTOP8.out k4 (Nat.le_refl _)
              have hy8 : ∀ k, k < N2 + 1 → (if k < N2 then ys7 k else pv).length ≤ 100000000 := fun k hk => by
                by_cases e : k < N2
                · rw [if_pos e]; exact HY7.out k e
                · rw [if_neg e]; omega
              have HG8 := Lib.hid hg8
              have HK9' := Lib.hid (show ∃ vs ys, KpS w8 base (N2 + 1) (.slice A8 (N2 + 1) C8) vs ys ∧ ∀ k, k < N2 + 1 → (ys k).length ≤ 100000000 from ⟨_, _, hk8, hy8⟩)
              clear k1 k2 k3 k4 hl9 hk8 hg8 hy8 HG7 HK8 HTOP8 HO37 HS3 HY7 HL7 hz7
              go_wp2
              go_roundw
              case rel => exact ⟨i + 1, N2 + 1, A8, C8, _, _, _, _, rfl, rfl, rfl, rfl, rfl, by go_num, by omega, by omega, HG8, HK9'⟩
              case measure => simp [intOf]; omega
            · have i2 : ¬ (N2 : Int) < 12 := by omega
              have HK9' := Lib.hid (show ∃ vs ys, KpS w7 base N2 (.slice A7 N2 C7) vs ys ∧ ∀ k, k < N2 → (ys k).length ≤ 100000000 from ⟨_, _, HK8.out, HY7.out⟩)
              clear HK8 HTOP8 HO37 HS3 HY7 HL7 hz7
              go_wp2
              go_roundw
              case rel => exact ⟨i + 1, N2, A7, C7, _, _, _, _, rfl, rfl, rfl, rfl, rfl, by go_num, by omega, by omega, HG7, HK9'⟩
              case measure => simp [intOf]; omega
          · obtain rfl : i = ps.length := by omega
            have hin : ∃ FL : List UInt8, Rd wr (.slice A3 IM.length K3) (bytesV FL) ∧ FL.length = IM.length := by
              have h9 := (own_low HFZ.out.own HG.out.bel HFZ.out.low).rd
              have h8 := HBL.out
              refine ⟨((BS.take BS.length).map flipB ++ BS.drop BS.length).take IM.length, ?_, ?_⟩
              · have h7 := rd_takeV h9 IM.length (by rw [bytesV_length, List.length_append, List.length_map, List.length_take, List.length_drop]; omega)
                have e9 : (bytesV ((BS.take BS.length).map flipB ++ BS.drop BS.length)).take IM.length = bytesV (((BS.take BS.length).map flipB ++ BS.drop BS.length).take IM.length) := by unfold bytesV; exact List.map_take.symm
                rw [e9] at h7
                exact h7
              · rw [List.length_take, List.length_append, List.length_map, List.length_take, List.length_drop]; omega
            obtain ⟨FL, hFL, hFLl⟩ := hin
            obtain ⟨vs, ys, hkp, hyl⟩ := HK.out
            have i1 : ¬ ((ps.length : Int) < (ps.length : Int)) := by omega
            have hzb : base ≤ wr.heap.size := Nat.le_trans HG.out.bz HG.out.bel.size
            have hbw := HWX.out _ _ _ HG.out
            have HIN := Lib.hid (show ∀ X, Below wr.heap.size wr X → Rd X (.slice A3 IM.length K3) (bytesV FL) from fun X h => hFL.below h (Nat.le_refl _))
            have HKP := Lib.hid (show ∀ X, Below wr.heap.size wr X → KpS X base N (.slice A9 N C9) vs ys from fun X h => hkp.below h (Nat.le_refl _))
            have HYL := Lib.hid hyl
            have HBW := Lib.hid hbw
            have HFLl := Lib.hid hFLl
            clear HG HK HFZ hFL hkp hyl hbw hFLl
            have hoE := own_empty wr wr.heap.size 5 (Nat.le_refl _)
            have hbE := (Below.refl wr.heap.size wr).alloc (Nat.le_refl _) (.cells #[] 5)
            have hlE : ([] : List Value).length + (bytesV FL).length < 1000000000001 := by rw [bytesV_length, HFLl.out, List.length_nil]; omega
            have hzE : wr.heap.size ≤ (wr.alloc (.cells #[] 5)).heap.size := hbE.size
            have HOE := Lib.hid hoE
            have HBE := Lib.hid hbE
            have HRE := Lib.hid (HIN.out _ hbE)
            have H1E := Lib.hid (bytesV_one FL)
            have HLE := Lib.hid hlE
            have HZE := Lib.hid hzE
            clear hoE hbE hlE hzE
            go_wp2_with (at_builtin; with_reducible refine apN elBytes HOE.out HRE.out H1E.out HLE.out HZE.out rfl _ _ rfl rfl rfl ?_)
            intro v1 w1 k1 k2 k3 k4
            have hb1 := HBE.out.grown k4 HZE.out (fun k hk => (HOE.out.lt k hk).1)
            obtain ⟨A4, N4, C4, rfl⟩ := own_sl k1
            have hbw1 := HBW.out.trans (hb1.mono HBW.out.size)
            have C5 := rdec_any w1 A4 N4 C4 FL k1.rd (by rw [HFLl.out]; omega) EA (HS.out.below hbw1)
            have HC5 := Lib.hid C5
            have HB1 := Lib.hid hb1
            clear k1 k2 k3 k4 hb1 hbw1 C5 HOE HBE HRE H1E HLE HZE
            go_wp2_with fail
            with_reducible refine HC5.out.mono ?_
            rintro e w2 ⟨h2, h2n, hb2⟩
            have HB2 := Lib.hid (HB1.out.trans (hb2.mono HB1.out.size))
            clear HC5 hb2 HB1
            cases hop : openV FL with
            | none =>
              obtain rfl := h2n hop
              have C6 := copen_no w2 A3 IM.length K3 FL hop (by rw [HFLl.out]; omega) (HIN.out _ HB2.out) EA (HS.out.below (HBW.out.trans (HB2.out.mono HBW.out.size))).s7.s6
              have HC6 := Lib.hid C6
              clear h2 h2n hop C6
              go_wp2_with fail
              with_reducible refine HC6.out.mono ?_
              rintro e w3 ⟨rfl, hb3⟩
              clear HC6
              have HB3 := Lib.hid (HB2.out.trans (hb3.mono HB2.out.size))
              have C7 := num_Corrupt w3 EA (HS.out.below (HBW.out.trans (HB3.out.mono HBW.out.size)))
              have HC7 := Lib.hid C7
              clear hb3 C7 HB2
              go_wp2_with fail
              with_reducible refine HC7.out.mono ?_
              rintro e w4 ⟨rfl, rfl⟩
              have hkp := HKP.out _ HB3.out
              have hz3 : base ≤ w3.heap.size := Nat.le_trans hzb HB3.out.size
              have C8 := owni_any w3 base A9 N C9 N vs _ hkp.top.rd hkp.ow.cut hz3 (by omega) (fun k => by
                  by_cases e : k < N
                  · simp only [if_pos e]; exact HYL.out k e
                  · simp only [if_neg e]; exact Nat.zero_le _) (fun b o e ⟨k, hk, hb⟩ => by
                  have e9 : (Value.slice A9 N C9).ownBlock = some b := by rw [e]; rfl
                  exact own_types (hkp.ow.own k hk) hkp.top (by decide) hb e9)
              have hge : ∀ b, FvI N vs b → base ≤ b := fun b ⟨k, hk, hb⟩ => ((hkp.ow.own k hk).lt b hb).1
              have HC8 := Lib.hid C8
              have HGE := Lib.hid hge
              clear HC7 C8 hkp hge
              go_wp2_with fail
              with_reducible refine HC8.out.mono ?_
              rintro e w5 ⟨rfl, he5⟩
              have hb5 := (HBW.out.trans (HB3.out.mono HBW.out.size)).trans (he5.below (fun q hq => Nat.le_trans HWB.out (HGE.out q hq)) (Nat.le_trans HWB.out hz3))
              have HB5 := Lib.hid hb5
              clear he5 hb5 HC8
              go_wp2_with fail
              with_reducible refine (HCK.out _ HB5.out).mono ?_
              rintro e w6 ⟨rfl, hb6⟩
              have HB6 := Lib.hid (HB5.out.trans (hb6.mono HB5.out.size))
              clear hb6
              go_wp2
              go_ret
              exact ⟨rfl, HB6.out⟩
            | some r =>
              obtain ⟨A5, N5, C5, vs5, rfl, -⟩ := h2 r hop
              have C6 := copen_some w2 A3 IM.length K3 FL r hop (by rw [HFLl.out]; omega) (HIN.out _ HB2.out) EA (HS.out.below (HBW.out.trans (HB2.out.mono HBW.out.size))).s7.s6
              have HC6 := Lib.hid C6
              clear h2 h2n hop C6
              go_wp2_with fail
              with_reducible refine HC6.out.mono ?_
              rintro e w3 ⟨⟨q9, rfl⟩, hb3⟩
              clear HC6
              have HB3 := Lib.hid (HB2.out.trans (hb3.mono HB2.out.size))
              have C7 := num_nil w3
              have HC7 := Lib.hid C7
              clear hb3 C7 HB2
              go_wp2_with fail
              with_reducible refine HC7.out.mono ?_
              rintro e w4 ⟨rfl, rfl⟩
              have hkp := HKP.out _ HB3.out
              have hz3 : base ≤ w3.heap.size := Nat.le_trans hzb HB3.out.size
              have C8 := owni_any w3 base A9 N C9 N vs _ hkp.top.rd hkp.ow.cut hz3 (by omega) (fun k => by
                  by_cases e : k < N
                  · simp only [if_pos e]; exact HYL.out k e
                  · simp only [if_neg e]; exact Nat.zero_le _) (fun b o e ⟨k, hk, hb⟩ => by
                  have e9 : (Value.slice A9 N C9).ownBlock = some b := by rw [e]; rfl
                  exact own_types (hkp.ow.own k hk) hkp.top (by decide) hb e9)
              have hge : ∀ b, FvI N vs b → base ≤ b := fun b ⟨k, hk, hb⟩ => ((hkp.ow.own k hk).lt b hb).1
              have HC8 := Lib.hid C8
              have HGE := Lib.hid hge
              clear HC7 C8 hkp hge
              go_wp2_with fail
              with_reducible refine HC8.out.mono ?_
              rintro e w5 ⟨rfl, he5⟩
              have hb5 := (HBW.out.trans (HB3.out.mono HBW.out.size)).trans (he5.below (fun q hq => Nat.le_trans HWB.out (HGE.out q hq)) (Nat.le_trans HWB.out hz3))
              have HB5 := Lib.hid hb5
              clear he5 hb5 HC8
              go_wp2_with fail
              with_reducible refine (HCK.out _ HB5.out).mono ?_
              rintro e w6 ⟨rfl, hb6⟩
              have HB6 := Lib.hid (HB5.out.trans (hb6.mono HB5.out.size))
              clear hb6
              go_wp2
              go_ret
              exact ⟨rfl, HB6.out⟩
  · obtain ⟨rfl, hb2⟩ := h2 ok
    have HB2 := Lib.hid (HB1.out.trans (hb2.mono HB1.out.size))
    have hne : checkV (-1) ps ≠ 0 := ok
    have t1 : ((checkV (-1) ps : Int) == 0) = false := beq_false_of_ne (by omega)
    clear h1 h2 hb2 HB1 ok
    go_wp2_with fail
    with_reducible refine (HCK.out _ HB2.out).mono ?_
    rintro e w3 ⟨rfl, hb3⟩
    have HB3 := Lib.hid (HB2.out.trans (hb3.mono HB2.out.size))
    clear hb3 HCK
    go_wp2
    go_ret
    exact ⟨rfl, HB3.out⟩
end Go.Proofs.YtaijepjhmjjecaaDoor
