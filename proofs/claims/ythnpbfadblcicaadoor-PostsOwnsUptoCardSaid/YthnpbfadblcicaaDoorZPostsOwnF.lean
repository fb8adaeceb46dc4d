/- PostsOwns: the walk of the law. -/
import Derived.Test.YthnpbfadblcicaaDoorZPoO
import Derived.Test.YthnpbfadblcicaaDoorZG19
import Derived.Test.YthnpbfadblcicaaDoorZG19
namespace Go.Proofs.YthnpbfadblcicaaDoor
set_option linter.unusedVariables false
open Go.ChangeShapes Go.WideShapes Go.ChangeAt Go.RowKit

set_option maxRecDepth 100000 in
set_option maxHeartbeats 16000000 in
theorem postsOwns_walk (w : World) (a : Option Addr) (n c : Nat) (ps : List PostV) (hr : RdPost w a n ps) (hnc : n ≤ c) (hf : FitP ps) (hl : ps.length ≤ 1048576) (hT : totalV ps ≤ 1048576) (EA : Nat → Addr) (hS : Sent7 w EA) :
    Calls Tryd.prog 8 #[.slice a n c] w fun e w' => e = .returned (.bool true) ∧ Below w.heap.size w w' := by
  have C1 := lives_any w EA hS
  obtain rfl := hr.1
  have hpl : ∀ k, (pp ps k).length ≤ 31000000 := fun k => by
    unfold pp
    by_cases h : k < ps.length
    · rw [getD_at ps pz h]; exact (hf _ (List.getElem_mem h)).2.2
    · rw [show ps.getD k pz = pz by simp [List.getD, List.getElem?_eq_none (Nat.le_of_not_lt h)]]; simp [pz]
  have HPL := Lib.hid hpl
  have HLW := Lib.hid (show ∀ X, Below w.heap.size w X → RdPost X a ps.length ps from fun X h => hr.below h (Nat.le_refl _))
  have HSW := Lib.hid (show ∀ X, Below w.heap.size w X → Sent7 X EA from fun X h => hS.below h)
  have HF := Lib.hid hf
  have HNC := Lib.hid hnc
  clear hr hS hf hpl hnc
  go_enter Tryd.func8, Tryd.ntmps8
  go_wp2_with fail
  with_reducible refine C1.mono ?_
  rintro e w1 ⟨rfl, hb1⟩
  clear C1
  have Q2 := renc_any w1 a ps.length c ps (HLW.out _ hb1) HNC.out HF.out (by omega) (by omega) EA (HSW.out _ hb1).s6
  have HQ2 := Lib.hid Q2
  have HB1 := Lib.hid hb1
  clear Q2 hb1
  go_wp2_with fail
  with_reducible refine HQ2.out.mono ?_
  rintro e w2 ⟨h2, h2n⟩
  clear HQ2
  by_cases ok : okV (-1) ps
  · obtain ⟨A2, N2, K2, rfl, ho2, hb2⟩ := h2 ok
    have him := image_le31 HF.out ok hl hT
    have CD := fun (X : World) (A : Option Addr) (C : Nat) (h : Rd X (.slice A (imageV ps).length C) (bytesV (imageV ps))) (hL : RdPost X a ps.length ps) (hS : Sent6 X EA) => decoded_any X A (imageV ps).length C a c ps h hL ok HF.out hl hT EA hS
    have CO := fun (X : World) (A : Option Addr) (C : Nat) (h : Rd X (.slice A (imageV ps).length C) (bytesV (imageV ps))) (hL : RdPost X a ps.length ps) (hS : Sent6 X EA) => opened_any X A (imageV ps).length C a c ps h hL ok HF.out hl hT EA hS
    have CE := fun (X : World) (A : Option Addr) (C : Nat) (h : RdPost X A ps.length ps) (hC : ps.length ≤ C) (hS : Sent7 X EA) => (encode_any X A ps.length C ps h hC HF.out hl (by omega) EA hS).mono (fun e X' hp => hp.1 ok)
    have CS := fun (X : World) (A : Option Addr) (C : Nat) (h : RdPost X A ps.length ps) (hL : RdPost X a ps.length ps) => same8_any X A a ps.length ps.length C c ps h hL (by omega) (fun p hp => by have := (HF.out p hp).2.2; omega)
    obtain ⟨IM, hIM⟩ : ∃ IM, imageV ps = IM := ⟨_, rfl⟩
    rw [hIM] at ho2 him CD CO
    have hn2 := ho2.len
    rw [bytesV_length] at hn2
    subst hn2
    have HCE := Lib.hid (show ∀ (X : World) (A : Option Addr) (C : Nat), RdPost X A ps.length ps → ps.length ≤ C → Sent7 X EA → Calls Tryd.prog 10 #[.slice A ps.length C] X fun e X' => ∃ A9 N9 C9, e = .returned (.tuple #[.slice A9 N9 C9, .nilIface]) ∧ Own X' X.heap.size 5 (.slice A9 N9 C9) (bytesV IM) ∧ Below X.heap.size X X' from fun X A C h hC hS => by rw [← hIM]; exact CE X A C h hC hS)
    have HCD := Lib.hid CD
    have HCO := Lib.hid CO
    have HCS := Lib.hid CS
    have HB2 := Lib.hid (HB1.out.trans (hb2.mono HB1.out.size))
    have HO2 := Lib.hid (show ∀ X, Below w2.heap.size w2 X → Own X w1.heap.size 5 (.slice A2 IM.length K2) (bytesV IM) from fun X h => ho2.below h (Nat.le_refl _))
    clear h2 h2n ho2 hb2 CD CO CE CS hIM ok HB1
    -- the room
    have HBW := Lib.hid (show ∀ X, Below w2.heap.size w2 X → Below w.heap.size w X from fun X h => HB2.out.trans (h.mono HB2.out.size))
    have hst : RmS w2 ((w2.alloc (.cells #[] 53)).alloc (.cells #[] 51)) w2.heap.size 0 (.slice (some ⟨w2.heap.size, 0, none⟩) 0 0) (.slice (some ⟨w2.heap.size + 1, 0, none⟩) 0 0) (fun _ => none) (fun _ => 0) ps := by
      have hb1 := (Below.refl w2.heap.size w2).alloc (Nat.le_refl _) (.cells #[] 53)
      have hb2 := hb1.alloc hb1.size (.cells #[] 51)
      have h1 := (rowP_empty w2 w2.heap.size (Nat.le_refl _)).below ((Below.refl (w2.alloc (.cells #[] 53)).heap.size (w2.alloc (.cells #[] 53))).alloc (Nat.le_refl _) (.cells #[] 51)) (Nat.le_refl _)
      have h2 := own_empty (w2.alloc (.cells #[] 53)) w2.heap.size 51 (by simp)
      rw [World.size_alloc] at h2
      refine ⟨?_, h2, ⟨fun k hk => absurd hk (Nat.not_lt_zero _), fun k l b hk => absurd hk (Nat.not_lt_zero _)⟩, hb2⟩
      rw [List.take_zero]
      exact h1.congr (fun k hk => absurd hk (Nat.not_lt_zero _))
    have HST := Lib.hid (show ∃ A C, RmS w2 ((w2.alloc (.cells #[] 53)).alloc (.cells #[] 51)) w2.heap.size 0 (.slice (some ⟨w2.heap.size, 0, none⟩) 0 0) (.slice (some ⟨w2.heap.size + 1, 0, none⟩) 0 0) A C ps from ⟨_, _, hst⟩)
    clear hst
    obtain ⟨B, hBe⟩ : ∃ B, w2.heap.size = B := ⟨_, rfl⟩
    rw [hBe] at HST HBW HO2
    have HBE := Lib.hid hBe
    go_wp2
    clear hBe
    go_loopw [5, 6, 8, 9, 10, 33] (fun s5 s6 s8 s9 s10 s33 wr => ∃ (i : Nat) (AR AF : Option Addr) (CR CF : Nat) (t8 t9 t10 : Value), s5 = .slice AR i CR ∧ s6 = .slice AF i CF ∧ s8 = t8 ∧ s9 = t9 ∧ s10 = t10 ∧ s33 = .int .i64 i ∧ i ≤ ps.length ∧ RowKit.Hid (∃ A C, RmS w2 wr B i (.slice AR i CR) (.slice AF i CF) A C ps)) (fun _ _ _ _ _ s33 _ => ps.length - (intOf s33).toNat)
    case atStart => exact ⟨0, _, _, _, _, _, _, _, rfl, rfl, rfl, rfl, rfl, rfl, Nat.zero_le _, HST⟩
    case round =>
      clear HST
      obtain ⟨i, AR, AF, CR, CF, t8, t9, t10, rfl, rfl, rfl, rfl, rfl, rfl, hi, HRM⟩ := hrel
      obtain ⟨FA, FC, hrm⟩ := HRM.out
      have hwB : B ≤ wr.heap.size := by rw [← HBE.out]; exact (show Below w2.heap.size w2 wr by rw [HBE.out]; exact hrm.bel).size
      have hbw := HBW.out _ hrm.bel
      by_cases hlt : i < ps.length
      · as_aux_lemma =>
        obtain ⟨b, o, rfl, hg⟩ := (HLW.out _ hbw).2 (by omega)
        obtain ⟨g0, Ap, Cp, g1, hrd⟩ := hg i hlt
        obtain ⟨dc, hdc⟩ : ∃ d, ps[i].doc = d := ⟨_, rfl⟩
        obtain ⟨pv, hpv⟩ : ∃ d, ps[i].pos = d := ⟨_, rfl⟩
        have hpb : pv.length ≤ 31000000 := by rw [← hpv, ← pp_at hlt]; exact HPL.out i
        rw [hdc] at g0
        rw [hpv] at g1 hrd
        have HDC := Lib.hid (And.intro hdc hpv)
        have i1 : (i : Int) < (ps.length : Int) := by omega
        clear hg hdc hpv hbw
        go_upto_region 11 with fail
        have hX := heap_alloc_new wr (.cells #[.int .i64 dc, .slice Ap pv.length Cp] 53)
        have hba := (Below.refl wr.heap.size wr).alloc (Nat.le_refl _) (.cells #[.int .i64 dc, .slice Ap pv.length Cp] 53)
        have hrm2 := hrm.below hba hwB
        have hrd2 := hrd.below hba (Nat.le_refl _)
        have hfar : ∀ k b, k < i → (Value.slice (FA k) ((pp ps k).length + 80) (FC k)).ownBlock = some b → b < (wr.alloc (.cells #[.int .i64 dc, .slice Ap pv.length Cp] 53)).heap.size := fun k b hk hb => ((hrm2.ow.own k hk).lt b hb).2
        have hBX : B ≤ (wr.alloc (.cells #[.int .i64 dc, .slice Ap pv.length Cp] 53)).heap.size := Nat.le_trans hwB hba.size
        generalize wr.alloc (.cells #[.int .i64 dc, .slice Ap pv.length Cp] 53) = wX at hX hrm2 hrd2 hfar hBX ⊢
        generalize wr.heap.size = z at hX ⊢
        have k1 : wX.cell? ⟨z, 1, none⟩ = some (.slice Ap pv.length Cp) := blk_cell hX 1
        have Q3 := sparei_any wX Ap pv.length Cp pv hrd2 (by omega)
        have HQ3 := Lib.hid Q3
        have HX := Lib.hid hX
        have HRM2 := Lib.hid hrm2
        have HFAR := Lib.hid hfar
        clear g0 g1 hrd hX hba hrm hrm2 hrd2 hfar Q3 HRM hwB
        go_wp2_with fail
        with_reducible refine HQ3.out.mono ?_
        rintro e w4 ⟨A4, C4, rfl, ho4, hb4⟩
        have hrm4 := HRM2.out.below hb4 hBX
        have hX4 := (hb4.block z (lt_of_heap HX.out)).trans HX.out
        have k0 : w4.cell? ⟨z, 0, none⟩ = some (.int .i64 dc) := blk_cell hX4 0
        have hos : Own w4 B 3 (.slice A4 pv.length C4) (intL pv) := by
          have h9 := own_takeN ho4 pv.length (by rw [intL_length, List.length_append]; omega)
          have e9 : (intL (pv ++ marksI 7 0 80)).take pv.length = intL pv := by rw [intL_append]; exact List.take_left' (by rw [intL_length])
          rw [e9] at h9
          exact own_base h9 hBX
        have hl4 : (ps.take i).length = i := by rw [List.length_take]; omega
        have hsep : ∀ k b, k < (ps.take i).length → (Value.slice (FA k) (pp ps k).length (FC k)).ownBlock = some b → (Value.slice A4 pv.length C4).ownBlock ≠ some b := fun k b hk hb h9 => by
          rw [hl4] at hk
          have h1 := HFAR.out k b hk (by rw [← hb]; cases FA k <;> rfl)
          have h2 := (ho4.lt b (by rw [← h9]; cases A4 <;> rfl)).1
          omega
        have hl9 : (ps.take i).length ≤ 1000000000 := by rw [hl4]; omega
        have hB4 : B ≤ w4.heap.size := Nat.le_trans hBX hb4.size
        have HO4 := Lib.hid ho4
        have HRM4 := Lib.hid hrm4
        have HROW4 := Lib.hid hrm4.row
        have HOS := Lib.hid hos
        have HSEP := Lib.hid hsep
        have HL9 := Lib.hid hl9
        clear k1 ho4 hb4 hrm4 hX4 hos hsep hl9 hl4 HQ3 HX HRM2
        go_wp2_with (at_builtin; with_reducible refine apP1 HROW4.out dc pv _ HOS.out HSEP.out HL9.out hB4 rfl _ _ rfl rfl rfl ?_)
        intro v5 w5 g1 g2
        obtain ⟨A5, C5, hv5, _⟩ := g1.sl
        rw [List.length_append, List.length_take, Nat.min_eq_left (show i ≤ ps.length by omega), List.length_singleton] at hv5
        subst hv5
        have e45 : Eff (fun q => (Value.slice AR i CR).ownBlock = some q) w4 w5 := (Eff.refl _ w4).grown g2 (fun q hq _ => hq)
        have hfu5 := HRM4.out.full.eff e45 (fun q hq f => row_ne_own HROW4.out.row HRM4.out.full (by decide) f hq)
        have hl6 : ((List.range i).map fun k => Value.slice (FA k) ((pp ps k).length + 80) (FC k)).length < 1000000000000 := by simp; omega
        have hB5 : B ≤ w5.heap.size := Nat.le_trans hB4 e45.size
        have HG1 := Lib.hid g1
        have HG2 := Lib.hid g2
        have HFU5 := Lib.hid hfu5
        have HL6 := Lib.hid hl6
        clear g1 g2 e45 hfu5 hl6 k0 HROW4 HOS HSEP HL9
        go_wp2_with (at_builtin; with_reducible refine ap1' elLL9 rfl HFU5.out HL6.out hB5 rfl _ _ rfl rfl rfl ?_)
        intro v6 w6 g1 g2 g3 g4
        obtain ⟨A6, C6, hv6⟩ := own_slice g1
        rw [List.length_append, List.length_map, List.length_range, List.length_singleton] at hv6
        subst hv6
        obtain ⟨hdc, hpv⟩ := HDC.out
        have hl4 : (ps.take i).length = i := by rw [List.length_take]; omega
        have hpush := RmS.push HRM4.out hlt (A' := A4) (C' := C4) (N := wX.heap.size) (by rw [hpv]; exact HO4.out) hBX HFAR.out hB4 hB5 (by rw [hdc, hpv]; simp only [hl4]; exact HG1.out) HG2.out (by rw [hpv]; exact g1) g4
        have HPU := Lib.hid (show ∃ A C, RmS w2 w6 B (i + 1) (.slice A5 (i + 1) C5) (.slice A6 (i + 1) C6) A C ps from ⟨_, _, hpush⟩)
        clear g1 g2 g3 g4 hpush hdc hpv HG1 HG2 HFU5 HL6 HRM4 HO4 HFAR
        go_wp2
        go_roundw
        case rel => exact ⟨i + 1, A5, A6, C5, C6, _, _, _, rfl, rfl, rfl, rfl, rfl, by go_num, by omega, HPU⟩
        case measure => simp [intOf]; omega
      · obtain rfl : ps.length = i := by omega
        have i1 : ¬ ((ps.length : Int) < (ps.length : Int)) := by omega
        have hrow := hrm.row
        rw [List.take_length] at hrow
        have HROW := Lib.hid hrow
        have HFU := Lib.hid hrm.full
        have HOW := Lib.hid hrm.ow
        have HBE2 := Lib.hid hrm.bel
        have hsep : ∀ k b, k < ps.length → (Value.slice (FA k) (pp ps k).length (FC k)).ownBlock = some b → (Value.slice none 0 0).ownBlock ≠ some b := fun k b _ _ h9 => by simp [Value.ownBlock] at h9
        have HSEP := Lib.hid hsep
        have HON := Lib.hid (show Own wr B 3 (.slice none 0 0) (intL []) from own_nil _ _ _)
        have hl9 : ps.length ≤ 1000000000 := by omega
        clear hrm hbw hrow hsep HRM
        go_wp2_with (at_builtin; with_reducible refine apP1 HROW.out (-77) [] _ HON.out HSEP.out hl9 hwB rfl _ _ rfl rfl rfl ?_)
        intro v5 w5 g1 g2
        have e5 : Eff (fun q => (Value.slice AR ps.length CR).ownBlock = some q) wr w5 := (Eff.refl _ wr).grown g2 (fun q hq _ => hq)
        have hfu5 := HFU.out.eff e5 (fun q hq f => row_ne_own HROW.out.row HFU.out (by decide) f hq)
        have how5 := HOW.out.eff9 e5 (fun k hk => by
          obtain ⟨cs, fr, h9⟩ := row_typed9 HROW.out.row hk
          exact ⟨cs, _, fr, h9, by decide⟩)
        have hbel5 := HBE2.out.grown g2 hwB (fun k hk => (HROW.out.lt k hk).1)
        have hln : (ps ++ [(⟨-77, []⟩ : PostV)]).length = ps.length + 1 := by simp
        obtain ⟨A5, C5, hv5, hc5, hm5⟩ := g1.sl
        rw [hln] at hv5 hc5
        subst hv5
        have hlast := g1.at_ ps.length (by rw [hln]; omega)
        obtain ⟨gR, hgR, _, _, c77, _, hfz⟩ := hlast
        subst hgR
        have e77 : ((ps ++ [(⟨-77, []⟩ : PostV)])[ps.length]'(by simp)).doc = -77 := by simp
        rw [e77] at c77
        have hmine := rowP_take g1 ps.length (by rw [hln]; omega)
        rw [List.take_left] at hmine
        have hc55 : ps.length ≤ C5 := by omega
        have a1 : (ps.length : Int) ≤ (C5 : Int) := by omega
        have HMI := Lib.hid (show ∃ vs, RowP w5 B (.slice (some ⟨gR, 0, none⟩) ps.length C5) ps vs from ⟨_, hmine⟩)
        have H77 := Lib.hid c77
        have HFU5 := Lib.hid hfu5
        have HOW5 := Lib.hid how5
        have HBL5 := Lib.hid hbel5
        have hz5 : gR < w5.heap.size := World.block_lt_of_cell? w5 _ c77
        clear g1 g2 e5 hfu5 how5 hbel5 hln hm5 e77 c77 hmine hfz hc5 HROW HFU HOW HBE2 HSEP HON hl9 hwB
        obtain ⟨vm, hvm⟩ := HMI.out
        have Q6 := HCE.out w5 _ C5 hvm.rd hc55 (HSW.out _ (HBW.out _ HBL5.out))
        have HQ6 := Lib.hid Q6
        have HVM := Lib.hid hvm
        clear Q6 hvm HMI
        go_wp2_with fail
        with_reducible refine HQ6.out.mono ?_
        rintro e w6 ⟨A6, N6, C6, rfl, ho6, hb6⟩
        have hn6 := ho6.len
        rw [bytesV_length] at hn6
        subst hn6
        have hwB5 : B ≤ w5.heap.size := by rw [← HBE.out]; exact (show Below w2.heap.size w2 w5 by rw [HBE.out]; exact HBL5.out).size
        have HBL6 := Lib.hid (HBL5.out.trans (hb6.mono hwB5))
        have HVM6 := Lib.hid (HVM.out.below hb6 (Nat.le_refl _))
        have HO6 := Lib.hid ho6
        have H776 := Lib.hid ((hb6.cell (p := ⟨gR, ps.length * 2, none⟩) hz5).trans H77.out)
        have HFU6 := Lib.hid (HFU5.out.below hb6 (Nat.le_refl _))
        have HOW6 := Lib.hid (HOW5.out.below9 hb6 (Nat.le_refl _))
        have hz6 : gR < w6.heap.size := Nat.lt_of_lt_of_le hz5 hb6.size
        have hz56 : w5.heap.size ≤ w6.heap.size := hb6.size
        clear ho6 hb6 HQ6 HBL5 HVM H77 HFU5 HOW5
        have Q7 := HCE.out w6 _ C5 HVM6.out.rd hc55 (HSW.out _ (HBW.out _ HBL6.out))
        have HQ7 := Lib.hid Q7
        clear Q7
        go_wp2_with fail
        with_reducible refine HQ7.out.mono ?_
        rintro e w7 ⟨A7, N7, C7, rfl, ho7, hb7⟩
        have hn7 := ho7.len
        rw [bytesV_length] at hn7
        subst hn7
        have hwB6 : B ≤ w6.heap.size := Nat.le_trans hwB5 hz56
        have HBL7 := Lib.hid (HBL6.out.trans (hb7.mono hwB6))
        have HVM7 := Lib.hid (HVM6.out.below hb7 (Nat.le_refl _))
        have HO67 := Lib.hid (HO6.out.below hb7 (Nat.le_refl _))
        have HO7 := Lib.hid ho7
        have c77 := ((hb7.cell (p := ⟨gR, ps.length * 2, none⟩) hz6).trans H776.out)
        have HFU7 := Lib.hid (HFU6.out.below hb7 (Nat.le_refl _))
        have HOW7 := Lib.hid (HOW6.out.below9 hb7 (Nat.le_refl _))
        have hwB7 : B ≤ w7.heap.size := Nat.le_trans hwB6 hb7.size
        have hz67 : w6.heap.size ≤ w7.heap.size := hb7.size
        have HLO6 := Lib.hid (show ∀ k, (Value.slice A6 IM.length C6).ownBlock = some k → w5.heap.size ≤ k ∧ k < w6.heap.size from HO6.out.lt)
        clear ho7 hb7 HQ7 HBL6 HVM6 H776 HFU6 HOW6 HO6
        have r1 := run_str (P := Tryd.prog) Tryd.underlying24 Tryd.underlying5 Tryd.underlying9 HO67.out.rd
        have r2 := run_str (P := Tryd.prog) Tryd.underlying24 Tryd.underlying5 Tryd.underlying9 HO7.out.rd
        have r3 := run_str (P := Tryd.prog) Tryd.underlying24 Tryd.underlying5 Tryd.underlying9 (HO2.out _ HBL7.out).rd
        have S4 := HCS.out w7 _ C5 HVM7.out.rd (HLW.out _ (HBW.out _ HBL7.out))
        have HS4 := Lib.hid S4
        have i2 : (ps.length : Int) < ((ps.length : Int) + 1) := by omega
        clear S4
        go_wp2_with fail
        with_reducible refine HS4.out.mono ?_
        rintro e w8 ⟨rfl, d8, rfl⟩
        clear r1 r2 r3 c77 i2 HS4
        go_wp2
        go_loopw [16, 110] (fun s16 s110 wr => ∃ (i d : Nat) (t16 : Value), s16 = t16 ∧ s110 = .int .i64 i ∧ i ≤ ps.length ∧ wr = w7.drewN d) (fun _ s110 _ => ps.length - (intOf s110).toNat)
        case atStart => exact ⟨0, d8, _, rfl, rfl, Nat.zero_le _, rfl⟩
        case round =>
          obtain ⟨i, d, t16, rfl, rfl, hi, rfl⟩ := hrel
          by_cases hlt : i < ps.length
          · as_aux_lemma =>
            have htop := HFU7.out
            obtain ⟨gF, hgF⟩ := htop.someAt (by omega)
            subst hgF
            have c0 := htop.get (show ((List.range ps.length).map fun k => Value.slice (FA k) ((pp ps k).length + 80) (FC k))[i]? = some (Value.slice (FA i) ((pp ps i).length + 80) (FC i)) by simp [hlt])
            obtain ⟨b, o, rfl, hg⟩ := (HLW.out _ (HBW.out _ HBL7.out)).2 (by omega)
            obtain ⟨_, Ap, Cp, c1, hrd⟩ := hg i hlt
            have how := HOW7.out.own i hlt
            have hpi := HPL.out i
            rw [← pp_at hlt] at c1 hrd
            obtain ⟨pv, hpv⟩ : ∃ pv, pp ps i = pv := ⟨_, rfl⟩
            rw [hpv] at c0 c1 hrd how hpi
            have i3 : (i : Int) < (ps.length : Int) := by omega
            have CK : ∀ q : Nat, Calls Tryd.prog 25 #[.slice (FA i) (pv.length + 80) (FC i), .slice Ap pv.length Cp] (w7.drewN (d + q)) fun e w' => e = .returned (.bool true) ∧ ∃ m, w' = w7.drewN (d + m) := fun q =>
              (kepti_any (w7.drewN (d + q)) (FA i) (pv.length + 80) (FC i) Ap pv.length Cp pv (show Rd (w7.drewN (d + q)) _ _ from how.rd) (show Rd (w7.drewN (d + q)) _ _ from hrd) (by omega)).mono fun e w' hh => by
                obtain ⟨he, m, hm⟩ := hh
                exact ⟨he, q + m, by rw [hm, World.drewN_drewN, Nat.add_assoc]⟩
            clear htop hg hrd how hpv
            go_wp2
            go_quiet ((go_at_call 25; with_reducible exact CK _))
            go_wp2
            go_roundw
            case rel => exact ⟨i + 1, d + nq, _, rfl, by go_num, by omega, by first | rfl | trivial | rw [World.drewN_drewN]⟩
            case measure => simp [intOf]; omega
          · obtain rfl : ps.length = i := by omega
            have i3 : ¬ ((ps.length : Int) < (ps.length : Int)) := by omega
            have hbd := below_drewN (Below.refl w7.heap.size w7) d
            have HBL9 := Lib.hid (HBL7.out.trans (hbd.mono hwB7))
            have HVM9 := Lib.hid (HVM7.out.below hbd (Nat.le_refl _))
            have HO69 := Lib.hid (HO67.out.below hbd (Nat.le_refl _))
            have HO79 := Lib.hid (HO7.out.below hbd (Nat.le_refl _))
            have hwB9 : B ≤ (w7.drewN d).heap.size := Nat.le_trans hwB7 hbd.size
            have hz69 : w6.heap.size ≤ (w7.drewN d).heap.size := by have h1 := hbd.size; have h2 := HO7.out; have h3 : w6.heap.size ≤ w7.heap.size := hz67; omega
            clear hbd HBL7 HVM7 HO67 HO7 HFU7 HOW7
            generalize w7.drewN d = w9 at HBL9 HVM9 HO69 HO79 hwB9 hz69 ⊢
            have hlit := own_lit w9 0 24 [.slice A6 IM.length C6, .slice A7 IM.length C7] (Nat.zero_le _) (by simp [maxLen])
            have hba := (Below.refl w9.heap.size w9).alloc (Nat.le_refl _) (.cells #[.slice A6 IM.length C6, .slice A7 IM.length C7] 24)
            have hsep : ∀ b, (Value.slice A6 IM.length C6).ownBlock = some b → (Value.slice A7 IM.length C7).ownBlock ≠ some b := fun b h1 h2 => by
              have g1 := (HLO6.out b h1).2
              have g2 := (HO79.out.lt b h2).1
              omega
            have how : OwnL (w9.alloc (.cells #[.slice A6 IM.length C6, .slice A7 IM.length C7] 24)) w5.heap.size 2 (fun k => if k = 0 then .slice A6 IM.length C6 else .slice A7 IM.length C7) (fun _ => IM) := by
              refine ⟨fun k hk => ?_, fun k l b hk hl hkl hb => ?_⟩
              · by_cases e : k = 0
                · simp only [if_pos e]; exact HO69.out.below hba (Nat.le_refl _)
                · simp only [if_neg e]; exact own_base (HO79.out.below hba (Nat.le_refl _)) hz56
              · by_cases e : k = 0
                · simp only [if_pos e] at hb
                  simp only [if_neg (show ¬ l = 0 by omega)]
                  exact hsep b hb
                · simp only [if_neg e] at hb
                  simp only [if_pos (show l = 0 by omega)]
                  exact fun h9 => hsep b h9 hb
            have hlt9 : ∀ b, Fv 2 (fun k => if k = 0 then Value.slice A6 IM.length C6 else .slice A7 IM.length C7) b → w5.heap.size ≤ b ∧ b < w9.heap.size := fun b ⟨k, hk, hb⟩ => by
              by_cases e : k = 0
              · simp only [if_pos e] at hb; exact HO69.out.lt b hb
              · simp only [if_neg e] at hb
                have := HO79.out.lt b hb
                omega
            have Q8 := own_any (w9.alloc (.cells #[.slice A6 IM.length C6, .slice A7 IM.length C7] 24)) w5.heap.size (some ⟨w9.heap.size, 0, none⟩) 2 2 2 (fun k => if k = 0 then .slice A6 IM.length C6 else .slice A7 IM.length C7) (fun _ => IM) (by exact hlit.rd) how (by have := hba.size; omega) (by omega) (fun k => by omega) (fun b o e hb => by
              injection e with e
              injection e with e1 _ _
              have := (hlt9 b hb).2
              omega)
            have HQ8 := Lib.hid Q8
            have HLT9 := Lib.hid hlt9
            have HBLA := Lib.hid (HBL9.out.trans (hba.mono hwB9))
            have HVMA := Lib.hid (HVM9.out.below hba (Nat.le_refl _))
            have HOWA := Lib.hid how
            have hzA : w9.heap.size ≤ (w9.alloc (.cells #[.slice A6 IM.length C6, .slice A7 IM.length C7] 24)).heap.size := hba.size
            clear hlit hba hsep how hlt9 Q8 HBL9 HVM9 HO69 HO79 HLO6
            go_wp2_with fail
            with_reducible refine HQ8.out.mono ?_
            rintro e w10 ⟨rfl, e10⟩
            have hbl10 := HBLA.out.trans (e10.below (fun q hq => by have := (HLT9.out q hq).1; omega) (by omega))
            have hvm10 := HVMA.out.eff e10 (fun b hb ⟨k, hk, hF⟩ => by
              have hk9 := HOWA.out.own k hk
              rcases hb with hb | ⟨q, hq, hb⟩
              · exact row_ne_own HVMA.out.row hk9 (by decide) hb hF
              · exact own_types (HVMA.out.own q hq) hk9 (by decide) hb hF)
            have HBL10 := Lib.hid hbl10
            have HM10 := Lib.hid (show ∃ vs, RowP w10 B (.slice (some ⟨gR, 0, none⟩) ps.length C5) (threeV 0 ++ ps.drop 0) vs from ⟨_, hvm10⟩)
            clear e10 hbl10 hvm10 HQ8 HLT9 HBLA HVMA HOWA hzA hz69 hwB9 hwB7 hz67
            go_wp2
            go_loopw [17, 132] (fun s17 s132 wr => ∃ (i : Nat) (t17 : Value), s17 = t17 ∧ s132 = .int .i64 i ∧ i ≤ ps.length ∧ RowKit.Hid (∃ vs, RowP wr B (.slice (some ⟨gR, 0, none⟩) ps.length C5) (threeV i ++ ps.drop i) vs) ∧ RowKit.Hid (Below B w2 wr)) (fun _ s132 _ => ps.length - (intOf s132).toNat)
            case atStart => exact ⟨0, _, rfl, rfl, Nat.zero_le _, HM10, HBL10⟩
            case round =>
              clear HM10 HBL10
              obtain ⟨i, t17, rfl, rfl, hi, HM, HBL⟩ := hrel
              have hwB : B ≤ wr.heap.size := by rw [← HBE.out]; exact (show Below w2.heap.size w2 wr by rw [HBE.out]; exact HBL.out).size
              by_cases hlt : i < ps.length
              · as_aux_lemma =>
                obtain ⟨vs, hrow⟩ := HM.out
                have hll : (threeV i ++ ps.drop i).length = ps.length := by rw [List.length_append, threeV_length, List.length_drop]; omega
                obtain ⟨g', hg', _, hgz, c0, c1, hfz⟩ := hrow.at_ i (by rw [hll]; exact hlt)
                injection hg' with hg'
                injection hg' with hg' _ _
                subst hg'
                have f0 := hfz (i * 2)
                have f1 := hfz (i * 2 + 1)
                have i4 : (i : Int) < (ps.length : Int) := by omega
                have s1 : IntKind.i64.wrap (3 * (i : Int)) = 3 * (i : Int) := by rw [IntKind.wrap_i64]; omega
                have hba := (Below.refl wr.heap.size wr).alloc (Nat.le_refl _) (.cells #[.int .i64 (i : Int)] 3)
                have hrowA := hrow.below hba (Nat.le_refl _)
                have hone := own_one wr B 3 (.int .i64 (i : Int)) hwB
                have hput := hrowA.put i (by rw [hll]; exact hlt) (3 * (i : Int)) [(i : Int)] (.slice (some ⟨wr.heap.size, 0, none⟩) 1 1) hone (fun k b hk hki hb h9 => by
                  have e9 : wr.heap.size = b := by simpa [Value.ownBlock] using h9
                  have := ((hrow.own k hk).lt b hb).2
                  omega)
                have hset : (threeV i ++ ps.drop i).set i ⟨3 * (i : Int), [(i : Int)]⟩ = threeV (i + 1) ++ ps.drop (i + 1) := by
                  rw [List.set_append_right _ _ (by rw [threeV_length]; omega), threeV_length, Nat.sub_self, List.drop_eq_getElem_cons hlt, List.set_cons_zero, threeV_succ, List.append_assoc]
                  rfl
                rw [hset] at hput
                have hbl := (HBL.out.trans (hba.mono hwB)).trans (((Eff.setCell (F := fun k => k = gR) (Eff.refl _ _) (p := ⟨gR, i * 2, none⟩) (fun _ => rfl) (.int .i64 (3 * (i : Int)))).setCell (p := ⟨gR, i * 2 + 1, none⟩) (fun _ => rfl) (.slice (some ⟨wr.heap.size, 0, none⟩) 1 1)).below (fun q hq => by have hq : q = gR := hq; have := (hrow.lt gR rfl).1; omega) (Nat.le_trans hwB hba.size))
                have hwe : ((wr.alloc (.cells #[.int .i64 (i : Int)] 3)).setCell ⟨gR, i * 2, none⟩ (.int .i64 (3 * (i : Int)))).setCell ⟨gR, i * 2 + 1, none⟩ (.slice (some ⟨wr.heap.size, 0, none⟩) 1 1) = ((wr.setCell ⟨gR, i * 2, none⟩ (.int .i64 (3 * (i : Int)))).setCell ⟨gR, i * 2 + 1, none⟩ (.slice (some ⟨wr.heap.size, 0, none⟩) 1 1)).alloc (.cells #[.int .i64 (i : Int)] 3) := by
                  rw [World.setCell_alloc_past _ _ _ _ hgz, World.setCell_alloc_past _ _ _ _ (by simpa using hgz)]
                rw [hwe] at hput hbl
                have HPUT := Lib.hid (show ∃ vs, RowP (((wr.setCell ⟨gR, i * 2, none⟩ (.int .i64 (3 * (i : Int)))).setCell ⟨gR, i * 2 + 1, none⟩ (.slice (some ⟨wr.heap.size, 0, none⟩) 1 1)).alloc (.cells #[.int .i64 (i : Int)] 3)) B (.slice (some ⟨gR, 0, none⟩) ps.length C5) (threeV (i + 1) ++ ps.drop (i + 1)) vs from ⟨_, hput⟩)
                have HBL2 := Lib.hid hbl
                have hzz : gR ≠ wr.heap.size := by omega
                obtain ⟨x0, hx0⟩ : ∃ x, (Value.int IntKind.i64 ((threeV i ++ ps.drop i)[i]'(by rw [hll]; exact hlt)).doc) = x := ⟨_, rfl⟩
                rw [hx0] at c0
                obtain ⟨x1, hx1⟩ : ∃ x, vs i = x := ⟨_, rfl⟩
                rw [hx1] at c1
                clear hll hfz hba hrowA hone hput hset hbl hrow hx0 hx1 HM HBL hwe
                go_wp2
                go_roundw
                case rel => exact ⟨i + 1, _, rfl, by go_num, by omega, HPUT, HBL2⟩
                case measure => simp [intOf]; omega
              · obtain rfl : ps.length = i := by omega
                have i4 : ¬ ((ps.length : Int) < (ps.length : Int)) := by omega
                obtain ⟨vs, hrow⟩ := HM.out
                rw [List.drop_length, List.append_nil] at hrow
                have hbw := HBW.out _ HBL.out
                have hrw : RdPost wr (some ⟨gR, 0, none⟩) ps.length (threeV ps.length) := hrow.rd
                have hft := three_fit ps.length hl
                have okt := three_ok ps.length hl
                have htt := three_total ps.length
                have him3 := image_le31 hft okt (by rw [threeV_length]; exact hl) (by rw [htt]; exact hl)
                have htl : (threeV ps.length).length = ps.length := threeV_length _
                have Q9 := (encode_any wr (some ⟨gR, 0, none⟩) ps.length C5 (threeV ps.length) hrw hc55 hft (by rw [htl]; exact hl) (by rw [htt]; omega) EA (HSW.out _ hbw)).mono (fun e X' hp => hp.1 okt)
                have CC := fun (X : World) (h : Below wr.heap.size wr X) => copied_any X (some ⟨gR, 0, none⟩) ps.length C5 (threeV ps.length) (hrw.below h (Nat.le_refl _)) (by rw [htl]; omega) (fun p hp => by have := (hft p hp).2.2; omega)
                have CR := fun (X : World) (A : Option Addr) (C : Nat) (h : RdPost X A ps.length (threeV ps.length)) (hC : ps.length ≤ C) (hS : Sent6 X EA) => (renc_any X A ps.length C (threeV ps.length) h hC hft (by rw [htl]; omega) (by rw [htt]; omega) EA hS).mono (fun e X' hp => hp.1 okt)
                rw [htl] at CC
                obtain ⟨I3, hI3⟩ : ∃ I3, imageV (threeV ps.length) = I3 := ⟨_, rfl⟩
                rw [hI3] at Q9 CR him3
                have HQ9 := Lib.hid Q9
                have HCC := Lib.hid CC
                have HCR := Lib.hid CR
                have HBWR := Lib.hid hbw
                have HO2R := Lib.hid (HO2.out _ HBL.out)
                clear hrow hrw hft okt htt htl Q9 CC CR hI3 hbw HM HBL
                go_wp2_with fail
                with_reducible refine HQ9.out.mono ?_
                rintro e x1 ⟨B1, M1, D1, rfl, hoc, hbx1⟩
                have HX1 := Lib.hid hbx1
                have HOC := Lib.hid hoc
                have HCC2 := Lib.hid (HCC.out x1 hbx1)
                clear hbx1 hoc HQ9 HCC
                go_wp2_with fail
                with_reducible refine HCC2.out.mono ?_
                rintro e x2 ⟨B2, D2, rfl, ⟨vs2, hr2⟩, hbx2⟩
                have hc2 : ps.length ≤ D2 := by
                  obtain ⟨_, _, e9, h9, _⟩ := hr2.sl
                  rw [threeV_length] at h9
                  injection e9 with _ _ e9
                  omega
                have hX2 := HX1.out.trans (hbx2.mono HX1.out.size)
                have hbwx2 := HBWR.out.trans (hX2.mono HBWR.out.size)
                have Q10 := HCR.out x2 B2 D2 hr2.rd hc2 (HSW.out _ hbwx2).s6
                have HQ10 := Lib.hid Q10
                have HX2 := Lib.hid hX2
                have HOC2 := Lib.hid (HOC.out.below hbx2 (Nat.le_refl _))
                clear hr2 hbx2 hX2 hbwx2 Q10 HX1 HOC HCC2 HCR hc2
                go_wp2_with fail
                with_reducible refine HQ10.out.mono ?_
                rintro e x3 ⟨B3, M3, D3, rfl, hod, hbx3⟩
                have hX3 := HX2.out.trans (hbx3.mono HX2.out.size)
                have hbwx3 := HBWR.out.trans (hX3.mono HBWR.out.size)
                have hoc3 := HOC2.out.below hbx3 (Nat.le_refl _)
                have r1 := run_str (P := Tryd.prog) Tryd.underlying24 Tryd.underlying5 Tryd.underlying9 hoc3.rd
                have r2 := run_str (P := Tryd.prog) Tryd.underlying24 Tryd.underlying5 Tryd.underlying9 hod.rd
                have ho23 := HO2R.out.below hX3 (Nat.le_refl _)
                have D4 := HCD.out x3 A2 K2 ho23.rd (HLW.out _ hbwx3) (HSW.out _ hbwx3).s6
                have HD4 := Lib.hid D4
                have HX3 := Lib.hid hbwx3
                have HO23 := Lib.hid ho23
                clear hX3 hbwx3 hoc3 hod hbx3 ho23 D4 HQ10 HX2 HOC2 HBWR HO2R
                go_wp2_with fail
                with_reducible refine HD4.out.mono ?_
                rintro e x4 ⟨rfl, hbx4⟩
                have hbwx4 := HX3.out.trans (hbx4.mono HX3.out.size)
                have D5 := HCO.out x4 A2 K2 (HO23.out.below hbx4 (Nat.le_refl _)).rd (HLW.out _ hbwx4) (HSW.out _ hbwx4).s6
                have HD5 := Lib.hid D5
                have HX4 := Lib.hid hbwx4
                clear hbx4 hbwx4 D5 HD4 HO23 HX3 r1 r2
                go_wp2_with fail
                with_reducible refine HD5.out.mono ?_
                rintro e x5 ⟨rfl, hbx5⟩
                have HX5 := Lib.hid (HX4.out.trans (hbx5.mono HX4.out.size))
                clear hbx5 HD5 HX4
                go_wp2
                go_ret
                exact ⟨rfl, HX5.out⟩
  · obtain ⟨rfl, hb2⟩ := h2n ok
    have hne : checkV (-1) ps ≠ 0 := ok
    obtain ⟨G, hG⟩ : ∃ G, checkV (-1) ps = G := ⟨_, rfl⟩
    rw [hG] at hne
    rw [hG]
    have t1 : ((G : Int) != 0) = true := by simp; omega
    have HB2 := Lib.hid (HB1.out.trans (hb2.mono HB1.out.size))
    clear h2 h2n hb2 hG ok HB1
    go_wp2
    go_ret
    exact ⟨rfl, HB2.out⟩
end Go.Proofs.YthnpbfadblcicaaDoor
