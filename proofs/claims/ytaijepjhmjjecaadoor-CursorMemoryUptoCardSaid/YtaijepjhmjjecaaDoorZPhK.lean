/- CursorMemory: phraseKeeps. -/
import Derived.Test.YtaijepjhmjjecaaDoorZG29
import Derived.BigQuiet
import Derived.Deep.CutBlock
namespace Go.Proofs.YtaijepjhmjjecaaDoor
set_option linter.unusedVariables false
open Go.ChangeShapes Go.WideShapes Go.ChangeAt Go.RowKit

/-- The two rows of the first loop. -/
structure WhS (w wr : World) (B N : Nat) (v1 v2 : Value) (len : Nat → Nat) (ys : Nat → List Int) (A : Nat → Option Addr) (C : Nat → Nat) : Prop where
  sp : SpL wr B N A C len ys
  o1 : Own wr B 23 v1 (inV A C len N)
  o2 : Own wr B 23 v2 (whV A C len N)
  sep : ∀ b, v1.ownBlock = some b → v2.ownBlock ≠ some b
  bel : Below B w wr
set_option maxRecDepth 100000 in
set_option maxHeartbeats 16000000 in
theorem phk_any (w : World) (a : Option Addr) (n0 c : Nat) (ls : List (List Int)) (hL : RdLL w a n0 ls) (a2 : Option Addr) (n2 c2 : Nat) (os : List Int) (hO : Rd w (.slice a2 n2 c2) (intL os)) (hsum : sumL ls ≤ 2000000) (hln : ls.length ≤ 2000000) (hol : os.length ≤ 2000000) :
    Calls Tryd.prog 25 #[.slice a n0 c, .slice a2 n2 c2] w fun e w' => e = .returned (.bool true) ∧ Below w.heap.size w w' := by
  obtain rfl := hL.1
  obtain ⟨rfl, -⟩ := rd_il hO
  have HL := Lib.hid hL
  have HO := Lib.hid hO
  obtain ⟨n, hn⟩ : ∃ n, ls.length = n := ⟨_, rfl⟩
  obtain ⟨m, hm⟩ : ∃ m, os.length = m := ⟨_, rfl⟩
  obtain ⟨B, hB⟩ : ∃ B, w.heap.size = B := ⟨_, rfl⟩
  obtain ⟨y, hy⟩ : ∃ y, lsY ls = y := ⟨_, rfl⟩
  have hyl : ∀ k, (y k).length ≤ 2000000 := fun k => by rw [← hy]; exact Nat.le_trans (lsY_len ls k) hsum
  have hat : ∀ (k : Nat) (h : k < ls.length), ls[k] = y k := fun k h => by rw [← hy]; exact lsY_at ls h
  have HN := Lib.hid hn
  have HY := Lib.hid hy
  have HYL := Lib.hid hyl
  have HAT := Lib.hid hat
  have HBE := Lib.hid hB
  rw [hn, hm, hB]
  rw [hn] at hln
  rw [hm] at hol
  have HM := Lib.hid hm
  clear hL hO hn hm hB hy hyl hat
  go_enter Tryd.func25, Tryd.ntmps25
  go_wp2
  go_loopw [5, 6, 8, 9, 10, 21] (fun s5 s6 s8 s9 s10 s21 wr => ∃ (i : Nat) (A1 A2 : Option Addr) (C1 C2 : Nat) (t8 t9 t10 : Value), s5 = .slice A1 i C1 ∧ s6 = .slice A2 i C2 ∧ s8 = t8 ∧ s9 = t9 ∧ s10 = t10 ∧ s21 = .int .i64 i ∧ i ≤ n ∧ RowKit.Hid (∃ A C, WhS w wr B i (.slice A1 i C1) (.slice A2 i C2) (fun k => (y k).length) (fun k => y k ++ marksI 7 0 80) A C)) (fun _ _ _ _ _ s21 _ => n - (intOf s21).toNat)
  case atStart => exact ⟨0, none, none, 0, 0, _, _, _, rfl, rfl, rfl, rfl, rfl, rfl, Nat.zero_le _, Lib.hid ⟨fun _ => none, fun _ => 0, SpL.nil _ _ _ _ _ _, own_nil _ _ _, own_nil _ _ _, fun b hb => by simp [Value.ownBlock] at hb, Below.refl _ _⟩⟩
  case round =>
    obtain ⟨i, A1, A2, C1, C2, t8, t9, t10, rfl, rfl, rfl, rfl, rfl, rfl, hi, HW⟩ := hrel
    by_cases hlt : i < n
    · as_aux_lemma =>
      obtain ⟨A, C, hw⟩ := HW.out
      have hil : i < ls.length := by rw [HN.out]; exact hlt
      obtain ⟨b, o, hae, hcl⟩ := HL.out.2 (by omega)
      obtain ⟨A9, C9, k1, k2⟩ := hcl i hil
      have hwbel := hw.bel
      have hbw : Below w.heap.size w wr := by rw [HBE.out]; exact hwbel
      replace k1 := (hbw.cell (World.block_lt_of_cell? w _ k1)).trans k1
      replace k2 := k2.below hbw (Nat.le_refl _)
      rw [HAT.out i hil] at k1 k2
      have hyi := HYL.out i
      have C3 := sparei_any wr A9 (y i).length C9 (y i) k2 (by omega)
      subst hae
      have hz : B ≤ wr.heap.size := by rw [← HBE.out]; exact hbw.size
      have i1 : (i : Int) < (n : Int) := by omega
      have HC3 := Lib.hid C3
      have HW2 := Lib.hid hw
      clear hcl hil k2 hwbel hbw C3 hw HW
      go_wp2_with fail
      with_reducible refine HC3.out.mono ?_
      rintro e w3 ⟨A', C', rfl, ho3, hb3⟩
      have hsp := HW2.out.sp.push hb3 ho3 hz
      have o13 := HW2.out.o1.below hb3 (Nat.le_refl _)
      have o23 := HW2.out.o2.below hb3 (Nat.le_refl _)
      have hl1 : (inV A C (fun k => (y k).length) i).length < 1000000000000 := by rw [inV_length]; omega
      have hl2 : (whV A C (fun k => (y k).length) i).length < 1000000000000 := by rw [whV_length]; omega
      have hz3 : B ≤ w3.heap.size := Nat.le_trans hz hb3.size
      have HSP := Lib.hid hsp
      have HO1 := Lib.hid o13
      have HO2 := Lib.hid o23
      have HL1 := Lib.hid hl1
      have HL2 := Lib.hid hl2
      have HB3 := Lib.hid (HW2.out.bel.trans (hb3.mono hz))
      have HSEP := Lib.hid HW2.out.sep
      clear hsp o13 o23 hl1 hl2 hb3 ho3 HW2 HC3 k1
      go_wp2_with (at_builtin; with_reducible refine ap1' elLL rfl HO1.out HL1.out hz3 rfl _ _ rfl rfl rfl ?_)
      intro v4 w4 k1 k2 k3 k4
      have hb4 := HB3.out.grown k4 hz3 (fun q hq => (HO1.out.lt q hq).1)
      have hsp4 := HSP.out.kept HO1.out k4
      have o24 := HO2.out.kept k4 (kept_sep (fun b hb h9 => HSEP.out b h9 hb))
      rw [inV_push] at k1
      obtain ⟨A4, C4, hv4⟩ := own_slice k1
      rw [inV_length] at hv4
      have hsep4 : ∀ b, v4.ownBlock = some b → (Value.slice A2 i C2).ownBlock ≠ some b := fun b hb h9 => by
        rcases k3 with k3 | ⟨k3, -⟩
        · exact HSEP.out b (k3 ▸ hb) h9
        · have h8 := (HO2.out.lt b h9).2
          rw [k3] at hb
          injection hb with hb
          omega
      subst hv4
      have hz4 : B ≤ w4.heap.size := Nat.le_trans hz3 k4.size
      have HSP4 := Lib.hid hsp4
      have HO14 := Lib.hid k1
      have HO24 := Lib.hid o24
      have HSEP4 := Lib.hid hsep4
      have HB4 := Lib.hid hb4
      clear k1 k2 k3 k4 hb4 hsp4 o24 hsep4 HSP HO1 HO2 HL1 HB3 HSEP
      go_wp2_with (at_builtin; with_reducible refine ap1' elLL rfl HO24.out HL2.out hz4 rfl _ _ rfl rfl rfl ?_)
      intro v5 w5 k1 k2 k3 k4
      have hb5 := HB4.out.grown k4 hz4 (fun q hq => (HO24.out.lt q hq).1)
      have hsp5 := HSP4.out.kept HO24.out k4
      have o15 := HO14.out.kept k4 (kept_sep HSEP4.out)
      rw [whV_push] at k1
      obtain ⟨A5, C5, hv5⟩ := own_slice k1
      rw [whV_length] at hv5
      have hsep5 : ∀ b, (Value.slice A4 (i + 1) C4).ownBlock = some b → v5.ownBlock ≠ some b := fun b hb h9 => by
        rcases k3 with k3 | ⟨k3, -⟩
        · exact HSEP4.out b hb (k3 ▸ h9)
        · have h8 := (HO14.out.lt b hb).2
          rw [k3] at h9
          injection h9 with h9
          omega
      subst hv5
      have HWN := Lib.hid (show ∃ A C, WhS w w5 B (i + 1) (.slice A4 (i + 1) C4) (.slice A5 (i + 1) C5) (fun k => (y k).length) (fun k => y k ++ marksI 7 0 80) A C from ⟨_, _, hsp5, o15, k1, hsep5, hb5⟩)
      clear k1 k2 k3 k4 hb5 hsp5 o15 hsep5 HSP4 HO14 HO24 HSEP4 HB4 HL2
      go_wp2
      go_roundw
      case rel => exact ⟨i + 1, A4, A5, C4, C5, _, _, _, rfl, rfl, rfl, rfl, rfl, by go_num, by omega, HWN⟩
      case measure => simp [intOf]; omega
    · obtain rfl : i = n := by omega
      have i1 : ¬ ((i : Int) < (i : Int)) := by omega
      obtain ⟨A, C, hw⟩ := HW.out
      have HW2 := Lib.hid hw
      have hbw : Below w.heap.size w wr := by rw [HBE.out]; exact hw.bel
      have hos := HO.out.below hbw (Nat.le_refl _)
      rw [HM.out] at hos
      have C3 := sparei_any wr a2 m c2 os hos (by rw [HM.out]; omega)
      have HC3 := Lib.hid C3
      clear hw HW hbw hos C3 hlt
      go_wp2_with fail
      with_reducible refine HC3.out.mono ?_
      rintro e w3 ⟨Ao, Co, he, ho3, hb3⟩
      have homl : os.length = m := HM.out
      rw [homl] at he ho3
      subst he
      have hz : B ≤ wr.heap.size := by have h9 := HW2.out.bel.size; have h8 := HBE.out; omega
      have hsp := HW2.out.sp.below hb3 (Nat.le_refl _)
      have o1 := HW2.out.o1.below hb3 (Nat.le_refl _)
      have o2 := HW2.out.o2.below hb3 (Nat.le_refl _)
      have hbe := HW2.out.bel.trans (hb3.mono hz)
      have hls : ((List.range i).map fun k => (y k ++ marksI 7 0 80).take (y k).length) = ls := by
        have h9 := lsY_all ls
        rw [HN.out, HY.out] at h9
        exact h9
      have hor : ∀ X, Below w3.heap.size w3 X → Rd X (.slice Ao m Co) (intL os) := fun X hX => by
        have h9 := rd_takeI (ho3.below hX (Nat.le_refl _)).rd m (by rw [List.length_append, marksI_length, homl]; omega)
        rw [List.take_append_of_le_length (by omega), List.take_of_length_le (by omega)] at h9
        exact h9
      have hir : ∀ X, Below w3.heap.size w3 X → RdLL X A1 i ls := fun X hX => by
        have h9 := (hsp.below hX (Nat.le_refl _)).rdll (o1.below hX (Nat.le_refl _))
        rw [hls] at h9
        exact h9
      have CP := fun (X : World) (hX : Below w3.heap.size w3 X) => ph_any X A1 i C1 ls (hir X hX) Ao m Co os (hor X hX) 1 (by omega) (by rw [HN.out]; omega) (by rw [homl]; omega)
      have hwX : ∀ X, Below w3.heap.size w3 X → Below w.heap.size w X := fun X hX => by
        rw [HBE.out]
        exact hbe.trans (hX.mono (Nat.le_trans hz hb3.size))
      have CR := fun (X : World) (hX : Below w3.heap.size w3 X) => rph_any X a ls.length c ls (HL.out.below (hwX X hX) (Nat.le_refl _)) a2 os.length c2 os (HO.out.below (hwX X hX) (Nat.le_refl _)) 1 (by omega) (by rw [HN.out]; omega) (by rw [homl]; omega)
      have CK := fun (X : World) (hX : Below w3.heap.size w3 X) => kepti_any X Ao (m + 80) Co a2 os.length c2 os (ho3.below hX (Nat.le_refl _)).rd (HO.out.below (hwX X hX) (Nat.le_refl _)) (by rw [homl]; omega)
      rw [homl] at CK
      rw [homl, HN.out] at CR
      obtain ⟨F, hF⟩ : ∃ F, phV ls os 1 = F := ⟨_, rfl⟩
      rw [hF] at CP CR
      have HCP := Lib.hid CP
      have HCR := Lib.hid CR
      have HCK := Lib.hid CK
      have HSP := Lib.hid hsp
      have HO1 := Lib.hid o1
      have HO2 := Lib.hid o2
      have HO3 := Lib.hid ho3
      have HWX := Lib.hid hwX
      have hsepo : ∀ q b, q < i → A q = some ⟨b, 0, none⟩ → (Value.slice Ao (m + 80) Co).ownBlock ≠ some b := fun q b hq hb h9 => by
        have h1 := ((HW2.out.sp.ow.own q hq).lt b (by rw [hb]; rfl)).2
        have h2 := (ho3.lt b h9).1
        omega
      have HSEPO := Lib.hid hsepo
      have HSEP := Lib.hid HW2.out.sep
      have HHB := Lib.hid (And.intro hz hb3.size)
      clear homl hsepo hsp o1 o2 ho3 hbe hls hor hir CP CR CK hwX hF hb3 HW2 HC3 hz
      go_wp2_with fail
      with_reducible refine (HCP.out w3 (Below.refl _ _)).mono ?_
      rintro e w4 ⟨rfl, hb4⟩
      have HB4 := Lib.hid hb4
      clear hb4
      go_wp2_with fail
      with_reducible refine (HCP.out w4 HB4.out).mono ?_
      rintro e w5 ⟨rfl, hb5⟩
      have HB5 := Lib.hid (HB4.out.trans (hb5.mono HB4.out.size))
      clear hb5 HB4
      go_wp2_with fail
      with_reducible refine (HCR.out w5 HB5.out).mono ?_
      rintro e w6 ⟨rfl, hb6⟩
      have HB6 := Lib.hid (HB5.out.trans (hb6.mono HB5.out.size))
      clear hb6 HB5 HCR
      go_wp2_with fail
      with_reducible refine (HCK.out w6 HB6.out).mono ?_
      rintro e w7 ⟨rfl, d7, rfl⟩
      have HB7 := Lib.hid (below_drewN HB6.out d7)
      clear HB6 HCK
      generalize w6.drewN d7 = w7 at HB7 ⊢
      have HSP7 := Lib.hid (HSP.out.below HB7.out (Nat.le_refl _))
      have HO17 := Lib.hid (HO1.out.below HB7.out (Nat.le_refl _))
      have HO27 := Lib.hid (HO2.out.below HB7.out (Nat.le_refl _))
      have HO37 := Lib.hid (HO3.out.below HB7.out (Nat.le_refl _))
      clear HSP HO1 HO2 HO3
      go_wp2
      go_loopw [15, 68] (fun s15 s68 wx => ∃ (k d : Nat) (t15 : Value), s15 = t15 ∧ s68 = .int .i64 k ∧ k ≤ i ∧ wx = w7.drewN d) (fun _ s68 _ => i - (intOf s68).toNat)
      case atStart => exact ⟨0, 0, _, rfl, rfl, Nat.zero_le _, rfl⟩
      case round =>
        obtain ⟨k, d, t15, rfl, rfl, hk, rfl⟩ := hrel
        by_cases hlt : k < i
        · as_aux_lemma =>
          have hkl : k < ls.length := by rw [HN.out]; exact hlt
          obtain ⟨b, o, hae, hcl⟩ := HL.out.2 (by omega)
          obtain ⟨A9, C9, k1, k2⟩ := hcl k hkl
          have hbw := HWX.out w7 HB7.out
          replace k1 := (hbw.cell (World.block_lt_of_cell? w _ k1)).trans k1
          replace k2 := k2.below hbw (Nat.le_refl _)
          rw [HAT.out k hkl] at k1 k2
          obtain ⟨g2, hg2⟩ := HO27.out.someAt (by omega)
          subst hg2
          have k3 := HO27.out.get (whV_at A C (fun k => (y k).length) hlt)
          have k4 := (HSP7.out.ow.own k hlt).rd
          have hyk := HYL.out k
          have D1 := fun q : Nat => (show Calls Tryd.prog 55 #[.slice (A k) ((y k).length + 80) (C k), .slice A9 (y k).length C9] (w7.drewN (d + q)) (fun e w' => e = .returned (.bool true) ∧ ∃ m, w' = w7.drewN (d + m)) from
            (kepti_any (w7.drewN (d + q)) (A k) ((y k).length + 80) (C k) A9 (y k).length C9 (y k) (show Rd (w7.drewN (d + q)) _ _ from k4) (show Rd (w7.drewN (d + q)) _ _ from k2) (by omega)).mono fun e w' h => by
              obtain ⟨h1, dd, h2⟩ := h
              exact ⟨h1, q + dd, by rw [h2, World.drewN_drewN, Nat.add_assoc]⟩)
          have i2 : (k : Int) < (i : Int) := by omega
          subst hae
          obtain ⟨yl, hyl⟩ : ∃ l, (y k).length = l := ⟨_, rfl⟩
          simp only [hyl] at k1 k3 D1
          have HLT := Lib.hid hlt
          clear hcl hkl hbw k2 k4 hyk hyl
          go_upto_region 17 with fail
          go_quiet ((go_at_call 55; with_reducible exact D1 _))
          clear D1 k1 k3
          go_wp2
          go_roundw
          case rel => exact ⟨k + 1, _, _, rfl, by go_num, HLT.out, by first | rfl | exact World.drewN_drewN ..⟩
          case measure => have := HLT.out; simp [intOf]; omega
        · obtain rfl : k = i := by omega
          as_aux_lemma =>
          have i2 : ¬ ((k : Int) < (k : Int)) := by omega
          have hB7 : Below w3.heap.size w3 (w7.drewN d) := below_drewN HB7.out d
          have hin : In3 w (w7.drewN d) B k (.slice A1 k C1) A C (fun q => (y q).length) (.slice Ao (m + 80) Co) (os ++ marksI 7 0 80) 0 0 :=
            ⟨_, HSP7.out.below (below_drewN (Below.refl w7.heap.size w7) d) (Nat.le_refl _), HO17.out.drewN d, own_base (HO37.out.drewN d) HHB.out.1, by rw [← HBE.out]; exact HWX.out _ hB7, HSEPO.out, fun q hq => absurd hq (Nat.not_lt_zero _), fun q hq => absurd hq (Nat.not_lt_zero _)⟩
          have hz7 := hin.bel.size
          have HIN := Lib.hid hin
          have HO28 := Lib.hid (HO27.out.drewN d)
          clear hB7 hin HSP7 HO17 HO27 HO37 HB7 HWX hlt HSEPO HHB HCP
          go_upto_region 20 with fail
          generalize w7.drewN d = w8 at HIN HO28 hz7 ⊢
          obtain ⟨B3, hB3⟩ : ∃ B3, w8.heap.size = B3 := ⟨_, rfl⟩
          have hz8 : B ≤ B3 := by rw [← hB3]; have := HBE.out; omega
          have hv1 : ∀ b, (Value.slice A1 k C1).ownBlock = some b → b < B3 := fun b hb => by
            obtain ⟨_, _, h2, _⟩ := HIN.out
            rw [← hB3]
            exact (h2.lt b hb).2
          have HV1 := Lib.hid hv1
          have HAB := Lib.hid (show ∀ q g, q < k → A q = some ⟨g, 0, none⟩ → g < B3 from fun q g hq hg => by rw [← hB3]; exact HIN.out.low q g hq hg)
          have HB3 := Lib.hid hB3
          clear hv1 hB3 hz7 HO28
          go_wp2
          go_loopw [16, 17, 18, 84] (fun s16 s17 s18 s84 wr => ∃ (p : Nat) (A6 : Option Addr) (C6 : Nat) (t17 t18 : Value), s16 = .slice A6 p C6 ∧ s17 = t17 ∧ s18 = t18 ∧ s84 = .int .i64 p ∧ p ≤ k ∧ B3 ≤ wr.heap.size ∧ RowKit.Hid (In3 w wr B k (.slice A1 k C1) A C (fun q => (y q).length) (.slice Ao (m + 80) Co) (os ++ marksI 7 0 80) p 0) ∧ RowKit.Hid (∃ vs, MvS wr B3 (.slice A6 p C6) vs ((List.range p).map (z3L (fun q => (y q).length))))) (fun _ _ _ s84 _ => k - (intOf s84).toNat)
          case atStart => exact ⟨0, none, 0, _, _, rfl, rfl, rfl, rfl, Nat.zero_le _, Nat.le_of_eq HB3.out.symm, HIN, Lib.hid ⟨[], own_nil _ _ _, rfl, fun q h => by simp at h⟩⟩
          case round =>
            clear HIN
            obtain ⟨p, A6, C6, t17, t18, rfl, rfl, rfl, rfl, hp, hwz, HIN, HMV⟩ := hrel
            by_cases hlt : p < k
            · as_aux_lemma =>
              obtain ⟨⟨g1, hg1, k1⟩, hcp, hcells⟩ := HIN.out.at_ rfl hlt
              subst hg1
              have hyk := HYL.out p
              obtain ⟨yl, hyl⟩ : ∃ l, (y p).length = l := ⟨_, rfl⟩
              simp only [hyl] at k1 hcp hcells
              rw [hyl] at hyk
              have i3 : (p : Int) < (k : Int) := by omega
              have HCE := Lib.hid hcells
              have HYK := Lib.hid hyl
              obtain ⟨Ap, hAp⟩ : ∃ Z, A p = Z := ⟨_, rfl⟩
              obtain ⟨Cp, hCp⟩ : ∃ Z, C p = Z := ⟨_, rfl⟩
              rw [hAp, hCp] at k1
              have HAP := Lib.hid hAp
              have HCP := Lib.hid hCp
              clear hcells hyl hcp hAp hCp
              go_wp2
              go_loopw [18, 92] (fun s18 s92 wx => ∃ (j : Nat) (t18 : Value), s18 = t18 ∧ s92 = .int .i64 j ∧ j ≤ yl ∧ B3 ≤ wx.heap.size ∧ RowKit.Hid (In3 w wx B k (.slice (some ⟨g1, 0, none⟩) k C1) A C (fun q => (y q).length) (.slice Ao (m + 80) Co) (os ++ marksI 7 0 80) p j) ∧ RowKit.Hid (∃ vs, MvS wx B3 (.slice A6 p C6) vs ((List.range p).map (z3L (fun q => (y q).length))))) (fun _ s92 _ => yl - (intOf s92).toNat)
              case atStart => exact ⟨0, _, rfl, rfl, Nat.zero_le _, hwz, HIN, HMV⟩
              case round =>
                clear HIN HMV HCE k1 hwz
                obtain ⟨j, t18, rfl, rfl, hj, hwz, HIN, HMV⟩ := hrel
                obtain ⟨⟨g1', he1, k1⟩, hcp, hcells⟩ := HIN.out.at_ rfl hlt
                injection he1 with he1
                injection he1 with he1 _ _
                subst he1
                simp only [HYK.out, HAP.out, HCP.out] at k1 hcp hcells
                by_cases hlt4 : j < yl
                · as_aux_lemma =>
                  obtain ⟨g, hg, hct⟩ := hcells (by omega)
                  obtain ⟨⟨u, ku⟩, kf⟩ := hct j hlt4
                  subst hg
                  obtain ⟨J, hJ⟩ : ∃ J, j + p = J := ⟨_, rfl⟩
                  have s1 : IntKind.i64.wrap ((j : Int) + (p : Int)) = (J : Int) := by rw [IntKind.wrap_i64]; omega
                  have hz3 : z3 p j = (J : Int) % 3 := by unfold z3; rw [hJ]; omega
                  have hjl : j < (y p).length := by rw [HYK.out]; exact hlt4
                  have hset := HIN.out.set hlt hjl HAP.out (by have := HIN.out.bel.size; have := HBE.out; omega)
                  rw [hz3] at hset
                  obtain ⟨vs, hmv⟩ := HMV.out
                  have hmv2 := hmv.setLow (HAB.out p g hlt HAP.out) j (.int .i64 ((J : Int) % 3))
                  have j1 : (j : Int) < (yl : Int) := by omega
                  have HSET := Lib.hid hset
                  have HMV2 := Lib.hid hmv2
                  clear hct hJ hz3 hjl hset hmv hmv2 HIN HMV hcells
                  go_wp2
                  go_roundw
                  case rel => exact ⟨j + 1, _, rfl, by go_num, by omega, by simpa using hwz, HSET, Lib.hid ⟨vs, HMV2.out⟩⟩
                  case measure => simp [intOf]; omega
                · obtain rfl : j = yl := by omega
                  as_aux_lemma =>
                  have j1 : ¬ ((j : Int) < (j : Int)) := by omega
                  have hin2 : In3 w wr B k (.slice (some ⟨g1, 0, none⟩) k C1) A C (fun q => (y q).length) (.slice Ao (m + 80) Co) (os ++ marksI 7 0 80) (p + 1) 0 := In3.next (by
                    have h9 := HIN.out
                    rw [← HYK.out] at h9
                    exact h9) hlt
                  obtain ⟨ys, hs1, hs2, hs3, hs4, hs5, hs6, hs7⟩ := id hin2
                  have hrd := hs1.rd hlt
                  rw [hs6 p (Nat.lt_succ_self p)] at hrd
                  simp only [HYK.out, HAP.out, HCP.out] at hrd
                  have hzl : (z3L (fun q => (y q).length) p).length = j := by simp [z3L]; exact HYK.out
                  obtain ⟨Z, hZ⟩ : ∃ Z, z3L (fun q => (y q).length) p = Z := ⟨_, rfl⟩
                  rw [hZ] at hrd hzl
                  have hE := own_empty wr B3 3 hwz
                  have hbE := (Below.refl wr.heap.size wr).alloc (Nat.le_refl _) (.cells #[] 3)
                  have hrE := hrd.below hbE (Nat.le_refl _)
                  have k1E := (hbE.cell (World.block_lt_of_cell? wr _ k1)).trans k1
                  have hlE : ([] : List Value).length + (intL Z).length < 1000000000001 := by rw [intL_length, hzl]; simp; omega
                  have hzE : B3 ≤ (wr.alloc (.cells #[] 3)).heap.size := Nat.le_trans hwz hbE.size
                  have HE := Lib.hid hE
                  have HRE := Lib.hid hrE
                  have HBE2 := Lib.hid hbE
                  have HLE := Lib.hid hlE
                  have HZE := Lib.hid hzE
                  have HIN2 := Lib.hid hin2
                  have HZ := Lib.hid hZ
                  have HZL := Lib.hid hzl
                  clear hs1 hs2 hs3 hs4 hs5 hs6 hs7 hrd hZ hzl hE hbE hrE hlE hzE hin2 HIN hcells
                  go_wp2_with (at_builtin; with_reducible refine apN elI9 HE.out HRE.out (intL_one Z) HLE.out HZE.out rfl _ _ rfl rfl rfl ?_)
                  intro v4 w4 k5 k6 k7 k8
                  have hb4 := HBE2.out.grown k8 (by have := HBE2.out.size; exact this) (fun q hq => Nat.le_trans (Nat.le_refl _) (by
                    have h9 : q = wr.heap.size := by simpa [Value.ownBlock] using hq.symm
                    omega))
                  obtain ⟨a4, c4, hv4⟩ := own_slice k5
                  try rw [List.nil_append] at hv4
                  rw [intL_length, HZL.out] at hv4
                  subst hv4
                  replace k5 : Own w4 B3 3 (.slice a4 j c4) (intL Z) := own_to k5 (by simp)
                  have hin4 := HIN2.out.below hb4 (by omega)
                  obtain ⟨vs, hmv⟩ := HMV.out
                  have hmv4 := hmv.below hb4 (Nat.le_refl _)
                  have hz4 : B3 ≤ w4.heap.size := Nat.le_trans hwz hb4.size
                  have hl4 : vs.length < 1000000000000 := by have h9 := hmv.len; rw [List.length_map, List.length_range] at h9; omega
                  have HIN4 := Lib.hid hin4
                  have HMV4 := Lib.hid hmv4
                  have HTOP := Lib.hid hmv4.top
                  have HL4 := Lib.hid hl4
                  have HOV := Lib.hid k5
                  clear k5 k6 k7 k8 hb4 hin4 hmv hmv4 hl4 HE HRE HBE2 HLE HZE HIN2 HMV k1E k1 hwz
                  go_wp2_with (at_builtin; with_reducible refine ap1' elLL rfl HTOP.out HL4.out hz4 rfl _ _ rfl rfl rfl ?_)
                  intro v5 w5 k5 k6 k7 k8
                  have hz5 := Nat.le_trans hz4 k8.size
                  have hin5 := HIN4.out.grown HTOP.out k8 hz8 HV1.out (Nat.le_trans hz8 hz4)
                  have hmv5 := HMV4.out.snoc HOV.out k5 k8
                  obtain ⟨A5, C5, hv5⟩ := own_slice k5
                  have hln : (vs ++ [Value.slice a4 j c4]).length = p + 1 := by
                    have h9 := HMV4.out.len
                    rw [List.length_map, List.length_range] at h9
                    rw [List.length_append, h9]; rfl
                  rw [hln] at hv5
                  subst hv5
                  have hms : (List.range (p + 1)).map (z3L (fun q => (y q).length)) = (List.range p).map (z3L (fun q => (y q).length)) ++ [Z] := by
                    rw [List.range_succ, List.map_append, ← HZ.out]; rfl
                  rw [← hms] at hmv5
                  have HIN5 := Lib.hid hin5
                  have HMV5 := Lib.hid hmv5
                  clear k5 k6 k7 k8 hin5 hmv5 hln hms HIN4 HMV4 HTOP HL4 HOV
                  go_wp2
                  go_roundw
                  case rel => exact ⟨p + 1, A5, C5, _, _, rfl, rfl, rfl, by go_num, by omega, hz5, HIN5, Lib.hid ⟨_, HMV5.out⟩⟩
                  case measure => simp [intOf]; omega
            · obtain rfl : p = k := by omega
              as_aux_lemma =>
              have i3 : ¬ ((p : Int) < (p : Int)) := by omega
              obtain ⟨vs, hmv⟩ := HMV.out
              obtain ⟨ys, hs1, hs2, hs3, hs4, hs5, hs6, hs7⟩ := id HIN.out
              have hrl := hs1.rdll hs2
              have hle : ((List.range p).map fun q => (ys q).take ((fun q => (y q).length) q)) = (List.range p).map (z3L (fun q => (y q).length)) := List.map_congr_left fun q hq => hs6 q (List.mem_range.1 hq)
              rw [hle] at hrl
              have homl : os.length = m := HM.out
              have hor := rd_takeI hs3.rd m (by rw [List.length_append, marksI_length, homl]; omega)
              rw [List.take_append_of_le_length (by omega), List.take_of_length_le (by omega)] at hor
              have hbw : Below w.heap.size w wr := by rw [HBE.out]; exact hs4
              have hsz : sumL ((List.range p).map (z3L (fun q => (y q).length))) = sumL ls := by
                have h9 : ∀ N, N ≤ ls.length → sumL ((List.range N).map (z3L (fun q => (y q).length))) = sumL (ls.take N) := fun N => by
                  induction N with
                  | zero => intro _; simp [sumL]
                  | succ N ih =>
                    intro hN
                    have h8 := sumL_succ (ls := ls) (i := N) (by omega)
                    rw [h8, ← ih (by omega), List.range_succ, List.map_append]
                    have h7 : (ls[N]'(by omega)).length = (y N).length := by rw [HAT.out N (by omega)]
                    rw [h7]
                    simp [sumL, z3L]
                have h8 := h9 ls.length (Nat.le_refl _)
                rw [List.take_length, HN.out] at h8
                exact h8
              obtain ⟨ms, hms⟩ : ∃ ms, (List.range p).map (z3L (fun q => (y q).length)) = ms := ⟨_, rfl⟩
              have hml : ms.length = p := by rw [← hms]; simp
              rw [hms] at hrl hsz hmv
              have CP := ph_any wr A1 p C1 ms hrl Ao m Co os hor 1 (by omega) (by omega) (by omega)
              have CR := fun (X : World) (hX : Below wr.heap.size wr X) => rph_any X A6 p C6 ms (hmv.below hX (Nat.le_refl _)).rdll a2 os.length c2 os (HO.out.below (hbw.trans (hX.mono hbw.size)) (Nat.le_refl _)) 1 (by omega) (by omega) (by omega)
              obtain ⟨F9, hF9⟩ : ∃ F, phV ms os 1 = F := ⟨_, rfl⟩
              rw [hF9] at CP CR
              rw [homl] at CR
              have HCP9 := Lib.hid CP
              have HCR9 := Lib.hid CR
              have HBW := Lib.hid hbw
              clear hmv hs1 hs2 hs3 hs4 hs5 hs6 hs7 hrl hle homl hor hbw hsz hms hml CP CR hF9 HIN HMV
              go_wp2_with fail
              with_reducible refine HCP9.out.mono ?_
              rintro e w9 ⟨rfl, hb9⟩
              have HB9 := Lib.hid hb9
              clear hb9
              go_wp2_with fail
              with_reducible refine (HCR9.out _ HB9.out).mono ?_
              rintro e w10 ⟨rfl, hb10⟩
              have hfin : Below B w w10 := by
                have h9 := HBW.out.trans ((HB9.out.trans (hb10.mono HB9.out.size)).mono HBW.out.size)
                rw [HBE.out] at h9
                exact h9
              have HFIN := Lib.hid hfin
              clear hb10 hfin HCP9 HCR9
              go_wp2
              go_ret
              exact ⟨by simp, HFIN.out⟩
end Go.Proofs.YtaijepjhmjjecaaDoor
