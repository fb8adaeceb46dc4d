/- posts: heads. -/
import Derived.Test.YthnpbfadblcicaaDoorZG15
import Derived.BigRegion
import Derived.Deep.CutBlock
namespace Go.Proofs.YthnpbfadblcicaaDoor
set_option linter.unusedVariables false
open Go.ChangeShapes Go.WideShapes Go.ChangeAt Go.RowKit

set_option maxRecDepth 100000 in
set_option maxHeartbeats 8000000 in
theorem heads_any (w : World) (B p : Nat) (im : Value) (b : List UInt8) (h : ListAt w B p im (.slice none 0 0) b 0 0 []) (hB : B ≤ w.heap.size) (hb : b.length ≤ 1000000000) (EA : Nat → Addr) (hE : RErr w EA) (hG : GLow B) :
    Calls Tryd.prog 41 #[.pointer (some ⟨p, 0, none⟩)] w (HdPost w B p im b) := by
  obtain ⟨ai, ni, ci, rfl⟩ := own_sl h.img
  have hni := h.img.len
  rw [bytesV_length] at hni
  subst hni
  have C1 := nr_any w ai b.length ci b h.img.rd hb
  have p0 : w.cell? ⟨p, 0, none⟩ = some (.slice ai b.length ci) := blk_cell h.blk 0
  have hGw : GLow w.heap.size := by obtain ⟨h1, h2, h3, h4⟩ := hG; exact ⟨by omega, by omega, by omega, by omega⟩
  have HG := Lib.hid hG
  have HGW := Lib.hid hGw
  have HE := Lib.hid hE
  have HL := Lib.hid h
  clear h hG hGw hE
  go_enter Tryd.func41, Tryd.ntmps41
  go_wp2_with fail
  with_reducible refine C1.mono ?_
  rintro e w1 ⟨rp, rv, rfl, hr1, hb1⟩
  clear C1 p0
  have hst : HdS w w1 B p rp (.slice ai b.length ci) rv (.slice none 0 0) b 0 0 0 [] :=
    ⟨(hb1.block p (lt_of_heap HL.out.blk)).trans HL.out.blk, ⟨HL.out.hp, lt_of_heap HL.out.blk⟩, HL.out.img.below hb1 (Nat.le_refl _), fun k hk => (HL.out.img.lt k hk).2, RowS.nil _ _, hr1, Eff.of_below hb1 _⟩
  have hpB := HL.out.hp
  clear hr1 hb1 HL
  have C2 := ruv_out w1 w.heap.size rp rv b 0 hst.rdr EA (HE.out.eff hst.eff HG.out (fun k hk => by subst hk; exact hpB))
  rw [List.drop_zero] at C2
  have HST := Lib.hid hst
  clear hst
  cases hg1 : getU b with
  | error e0 =>
    have hU : headsV b = none := by unfold headsV; rw [hg1]
    rw [hg1] at C2
    have HU := Lib.hid hU
    clear hg1 hU
    go_wp2_with fail
    with_reducible refine C2.mono ?_
    rintro e w2 ⟨h1, -⟩
    clear C2
    obtain ⟨rfl, hr2, he2⟩ := h1 e0 rfl
    have HST2 := Lib.hid (HST.out.read hr2 he2)
    clear h1 hr2 he2
    unfold errV
    go_wp2
    go_ret
    exact HdPost.no HU.out HST2.out.eff
  | ok y =>
    obtain ⟨n, j⟩ := y
    rw [hg1] at C2
    have hn64 := (getU_ok hg1).1
    have HG1 := Lib.hid hg1
    clear hg1
    go_wp2_with fail
    with_reducible refine C2.mono ?_
    rintro e w2 ⟨-, h1⟩
    clear C2
    obtain ⟨rfl, hr2, he2⟩ := h1 n j rfl
    rw [Nat.zero_add] at hr2
    have hst2 := HST.out.read hr2 he2
    have p0 : w2.cell? ⟨p, 0, none⟩ = some (.slice ai b.length ci) := blk_cell hst2.blk 0
    have s0 : IntKind.u64.wrap (b.length : Int) = (b.length : Int) := by rw [IntKind.wrap_u64]; omega
    have HST2 := Lib.hid hst2
    clear h1 hr2 he2 hst2 HST
    by_cases hbig : b.length < n / 16
    · have t1 : decide ((b.length : Int) < (n : Int) / 16) = true := decide_eq_true (by omega)
      have hU : headsV b = none := by unfold headsV; rw [HG1.out]; simp only; rw [if_pos hbig]
      have HU := Lib.hid hU
      clear hbig hU
      go_wp2
      go_ret
      exact HdPost.no HU.out HST2.out.eff
    · have t1 : decide ((b.length : Int) < (n : Int) / 16) = false := decide_eq_false (by omega)
      have C3 := ruv_out w2 w.heap.size rp rv b j HST2.out.rdr EA (HE.out.eff HST2.out.eff HG.out (fun k hk => by subst hk; exact hpB))
      cases hg2 : getU (b.drop j) with
      | error e0 =>
        have hU : headsV b = none := by unfold headsV; rw [HG1.out]; simp only; rw [if_neg hbig, hg2]
        rw [hg2] at C3
        have HU := Lib.hid hU
        clear hg2 hU hbig
        go_wp2_with fail
        with_reducible refine C3.mono ?_
        rintro e w3 ⟨h1, -⟩
        clear C3
        obtain ⟨rfl, hr3, he3⟩ := h1 e0 rfl
        have HST3 := Lib.hid (HST2.out.read hr3 he3)
        clear h1 hr3 he3
        unfold errV
        go_wp2
        go_ret
        exact HdPost.no HU.out HST3.out.eff
      | ok y =>
        obtain ⟨t, j2⟩ := y
        rw [hg2] at C3
        have ht64 := (getU_ok hg2).1
        have HG2 := Lib.hid hg2
        clear hg2
        go_wp2_with fail
        with_reducible refine C3.mono ?_
        rintro e w3 ⟨-, h1⟩
        clear C3 p0 t1
        obtain ⟨rfl, hr3, he3⟩ := h1 t j2 rfl
        have hst3 := HST2.out.read hr3 he3
        have p0 : w3.cell? ⟨p, 0, none⟩ = some (.slice ai b.length ci) := blk_cell hst3.blk 0
        have HST3 := Lib.hid hst3
        clear h1 hr3 he3 hst3 HST2
        by_cases hbt : b.length < t
        · have t1 : decide (b.length < t) = true := decide_eq_true hbt
          have hU : headsV b = none := by unfold headsV; rw [HG1.out]; simp only; rw [if_neg hbig, HG2.out]; simp only; rw [if_pos hbt]
          have HU := Lib.hid hU
          clear hbig hU hbt
          go_wp2
          go_ret
          exact HdPost.no HU.out HST3.out.eff
        · have t1 : decide (b.length < t) = false := decide_eq_false hbt
          obtain ⟨ENT, hENT⟩ : ∃ ENT, entV b.length ((n + 15) / 16) (-1) n (b.drop (j + j2)) = ENT := ⟨_, rfl⟩
          have HU := Lib.hid (show headsV b = finH b n t ENT by
            unfold headsV; rw [HG1.out]; simp only; rw [if_neg hbig, HG2.out]; simp only; rw [if_neg hbt, List.drop_drop, hENT]
            cases ENT with
            | none => rfl
            | some y => obtain ⟨S, l'⟩ := y; simp only [finH]; cases fillV b.length (b.length - l'.length) S <;> rfl)
          have s1 : wrap64 (n : Int) = (n : Int) := by simp only [wrap64]; omega
          have s2 : wrap64 (t : Int) = (t : Int) := by simp only [wrap64]; omega
          have c1 : w3.cell? ⟨p, 1, none⟩ = some (.int .i64 (0 : Nat)) := blk_cell HST3.out.blk 1
          have c2 : w3.cell? ⟨p, 2, none⟩ = some (.int .i64 (0 : Nat)) := blk_cell HST3.out.blk 2
          have f1 := blk_frozen HST3.out.blk 1
          have f2 := blk_frozen HST3.out.blk 2
          have HST4 := Lib.hid (HST3.out.counts n t)
          have hnb : n < 16 * (b.length + 1) := by omega
          have HENT := Lib.hid (show contE [] (entV b.length ((n + 15) / 16) (lastS []) (n - 16 * ([] : List SkV).length) (b.drop (j + j2))) = ENT by
            show contE [] (entV b.length ((n + 15) / 16) (-1) n (b.drop (j + j2))) = ENT
            rw [hENT]; unfold contE; cases ENT <;> rfl)
          clear hbig hbt hENT HG1 HG2
          go_wp2
          generalize (w3.setCell ⟨p, 1, none⟩ (.int .i64 (n : Nat))).setCell ⟨p, 2, none⟩ (.int .i64 (t : Nat)) = w4 at HST4 ⊢
          clear c1 c2 f1 f2 p0 t1 s1 s2 HST3
          go_loopw [7] (fun s7 wr => ∃ (m k : Nat) (sv : Value) (SS : List SkV), s7 = .int .i64 (16 * SS.length : Nat) ∧ HdS w wr B p rp (.slice ai b.length ci) rv sv b k n t SS ∧ m + SS.length = (n + 15) / 16 ∧ -1 ≤ lastS SS ∧ lastS SS < 2147483647 ∧
              contE SS (entV b.length m (lastS SS) (n - 16 * SS.length) (b.drop k)) = ENT) (fun s7 _ => n + 16 - (intOf s7).toNat)
          case atStart => exact ⟨(n + 15) / 16, j + j2, _, [], rfl, HST4.out, rfl, by decide, by decide, HENT.out⟩
          case round =>
            clear HST4 HENT
            obtain ⟨m, k, sv, SS, rfl, hst, hm, hla0, hla1, hent⟩ := hrel
            obtain ⟨sa, sc, rfl⟩ := hst.sk.sl
            have p1 : wr.cell? ⟨p, 1, none⟩ = some (.int .i64 (n : Nat)) := blk_cell hst.blk 1
            have p3 : wr.cell? ⟨p, 3, none⟩ = some (.slice sa SS.length sc) := blk_cell hst.blk 3
            obtain ⟨Q, hQ⟩ : ∃ Q, 16 * SS.length = Q := ⟨_, rfl⟩
            rw [hQ] at hent ⊢
            by_cases hlt : Q < n
            · have i1 : (Q : Int) < (n : Int) := by omega
              obtain ⟨m', rfl⟩ : ∃ m', m = m' + 1 := ⟨m - 1, by omega⟩
              have C4 := base_any wr B p _ _ b n t SS (hst.list hB) SS.length (Nat.le_refl _) (by omega)
              rw [List.take_length] at C4
              have C5 := rupto_out wr w.heap.size rp rv b k hst.rdr EA (HE.out.eff hst.eff HG.out (fun k hk => by subst hk; exact hpB)) HGW.out 2147483647 (by omega) (by omega)
              obtain ⟨la, hla⟩ : ∃ la, lastS SS = la := ⟨_, rfl⟩
              rw [hla] at hent C4 hla0 hla1
              rw [entV] at hent
              have HST := Lib.hid hst
              have HQ := Lib.hid hQ
              have HLA := Lib.hid hla
              have HM := Lib.hid hm
              clear hst hQ hla hm
              go_upto_block 1 with fail
              go_cut [8, 9, 10, 11] (fun s8 s9 s10 s11 wx => ∃ (k2 : Nat) (L2 : Int) (D size : Nat) (sa2 : Option Addr) (sc2 : Nat), HdS w wx B p rp (.slice ai b.length ci) rv (.slice sa2 (SS.length + 1) sc2) b k2 n t (SS ++ [(⟨L2, D, 0, size⟩ : SkV)]) ∧ -1 ≤ L2 ∧ L2 < 2147483647 ∧
                contE SS (match entV b.length m' L2 (n - Q - 16) (b.drop k2) with | none => none | some (r, l') => some (⟨L2, D, 0, size⟩ :: r, l')) = ENT)
              case rest =>
                clear p1 p3 C4 C5
                obtain ⟨k2, L2, D, size, sa2, sc2, hst9, hl0, hl1, hent9⟩ := hcut
                have h16 : Q + 16 = 16 * (SS.length + 1) := by have := HQ.out; omega
                have HST9 := Lib.hid hst9
                have HEN := Lib.hid hent9
                have H16 := Lib.hid h16
                have HL01 := Lib.hid (And.intro hl0 hl1)
                clear hst9 hent9 h16 hl0 hl1 hent HST
                go_wp2
                go_roundw
                case rel =>
                  have hln : (SS ++ [(⟨L2, D, 0, size⟩ : SkV)]).length = SS.length + 1 := by rw [List.length_append]; rfl
                  have hls : lastS (SS ++ [(⟨L2, D, 0, size⟩ : SkV)]) = L2 := by unfold lastS; rw [List.map_append, List.map_singleton, List.getLastD_concat]
                  refine ⟨m', k2, .slice sa2 (SS.length + 1) sc2, SS ++ [⟨L2, D, 0, size⟩], ?_, HST9.out, by have := HM.out; rw [hln]; omega, by rw [hls]; exact HL01.out.1, by rw [hls]; exact HL01.out.2, ?_⟩
                  · rw [hln, ← H16.out]; rfl
                  · rw [hls, hln, ← H16.out, show n - (Q + 16) = n - Q - 16 by omega, ← HEN.out]
                    cases entV b.length m' L2 (n - Q - 16) (b.drop k2) with
                    | none => rfl
                    | some y => simp [contE]
                case measure => simp only [intOf]; omega
              case first =>
              go_wp2_with fail
              with_reducible refine C4.mono ?_
              rintro e w5 ⟨rfl, rfl⟩
              clear C4 p1 p3
              cases hg3 : getUpto 2147483647 (b.drop k) with
              | error e0 =>
                rw [hg3] at hent C5
                have hno : finH b n t ENT = none := by rw [← hent]; rfl
                have HNO := Lib.hid (HU.out.trans hno)
                clear hno hent hg3 i1
                go_wp2_with fail
                with_reducible refine C5.mono ?_
                rintro e w6 ⟨h1, -⟩
                clear C5
                obtain ⟨rfl, hr6, he6⟩ := h1 e0 rfl
                have HST6 := Lib.hid (HST.out.read hr6 he6)
                clear h1 hr6 he6 HST
                unfold errV
                go_wp2
                go_ret
                exact HdPost.no HNO.out HST6.out.eff
              | ok y =>
                obtain ⟨gap, j3⟩ := y
                rw [hg3] at hent C5
                simp only at hent
                have hgl := (getUpto_len hg3).2
                clear hg3
                obtain ⟨X1, hX1⟩ : ∃ X1, 2147483647 - la = X1 := ⟨_, rfl⟩
                obtain ⟨X2, hX2⟩ : ∃ X2, X1 - 1 = X2 := ⟨_, rfl⟩
                have s1 : IntKind.i64.wrap (2147483647 - la) = X1 := by rw [IntKind.wrap_i64]; omega
                have s2 : IntKind.i64.wrap (X1 - 1) = X2 := by rw [IntKind.wrap_i64]; omega
                go_wp2_with fail
                with_reducible refine C5.mono ?_
                rintro e w6 ⟨-, h1⟩
                clear C5
                obtain ⟨rfl, hr6, he6⟩ := h1 gap j3 rfl
                have hst6 := HST.out.read hr6 he6
                clear h1 hr6 he6 HST
                by_cases hX : X2 ≤ (gap : Int)
                · have t1 : decide (X2 ≤ (gap : Int)) = true := decide_eq_true hX
                  rw [if_pos (by omega)] at hent
                  have hno : finH b n t ENT = none := by rw [← hent]; rfl
                  have HNO := Lib.hid (HU.out.trans hno)
                  have HST6 := Lib.hid hst6
                  clear hno hent i1 hX hX1 hX2 hst6
                  go_wp2
                  go_ret
                  exact HdPost.no HNO.out HST6.out.eff
                · have t1 : decide (X2 ≤ (gap : Int)) = false := decide_eq_false hX
                  rw [if_neg (by omega)] at hent
                  have p0 : w6.cell? ⟨p, 0, none⟩ = some (.slice ai b.length ci) := blk_cell hst6.blk 0
                  have C6 := rupto_out w6 w.heap.size rp rv b (k + j3) hst6.rdr EA (HE.out.eff hst6.eff HG.out (fun k hk => by subst hk; exact hpB)) HGW.out b.length (by omega) (by omega)
                  rw [List.drop_drop] at hent
                  have HST6 := Lib.hid hst6
                  clear hst6
                  cases hg4 : getUpto b.length (b.drop (k + j3)) with
                  | error e0 =>
                    rw [hg4] at hent C6
                    have hno : finH b n t ENT = none := by rw [← hent]; rfl
                    have HNO := Lib.hid (HU.out.trans hno)
                    clear hno hent hg4 i1 hX hX1 hX2
                    go_wp2_with fail
                    with_reducible refine C6.mono ?_
                    rintro e w7 ⟨h1, -⟩
                    clear C6
                    obtain ⟨rfl, hr7, he7⟩ := h1 e0 rfl
                    have HST7 := Lib.hid (HST6.out.read hr7 he7)
                    clear h1 hr7 he7 HST6
                    unfold errV
                    go_wp2
                    go_ret
                    exact HdPost.no HNO.out HST7.out.eff
                  | ok y =>
                    obtain ⟨size, j4⟩ := y
                    rw [hg4] at hent C6
                    simp only at hent
                    have hsl := (getUpto_len hg4).2
                    obtain ⟨L2, hL2⟩ : ∃ L2, la + (gap : Int) + 1 = L2 := ⟨_, rfl⟩
                    rw [hL2, List.drop_drop] at hent
                    have hL2r : -1 ≤ L2 ∧ L2 < 2147483647 := by omega
                    obtain ⟨R, hR⟩ : ∃ R, n - Q = R := ⟨_, rfl⟩
                    rw [hR] at hent
                    obtain ⟨D, hD⟩ : ∃ D, min 16 R = D := ⟨_, rfl⟩
                    rw [hD] at hent
                    have s3 : IntKind.i64.wrap (la + (gap : Int)) = la + (gap : Int) := by rw [IntKind.wrap_i64]; omega
                    have s4 : IntKind.i64.wrap (la + (gap : Int) + 1) = L2 := by rw [IntKind.wrap_i64]; omega
                    have s5 : IntKind.i64.wrap ((n : Int) - (Q : Int)) = (R : Int) := by rw [IntKind.wrap_i64]; omega
                    have hmn : min (16 : Int) (R : Int) = (D : Int) := by omega
                    have HENT := Lib.hid hent
                    have HRR := Lib.hid hR
                    have HLT := Lib.hid hlt
                    have HL2R := Lib.hid hL2r
                    clear hg4 i1 hX hX1 hX2 hent hL2 hR hD hL2r hlt
                    go_wp2_with fail
                    with_reducible refine C6.mono ?_
                    rintro e w7 ⟨-, h1⟩
                    clear C6 p0 t1 s1 s2
                    obtain ⟨rfl, hr7, he7⟩ := h1 size j4 rfl
                    have hst7 := HST6.out.read hr7 he7
                    have p1 : w7.cell? ⟨p, 1, none⟩ = some (.int .i64 (n : Nat)) := blk_cell hst7.blk 1
                    have p3 : w7.cell? ⟨p, 3, none⟩ = some (.slice sa SS.length sc) := blk_cell hst7.blk 3
                    have hss : SS.length ≤ 1000000000 := by have := HM.out; omega
                    have hz7 := hst7.eff.size
                    have hpl := lt_of_heap hst7.blk
                    have HST7 := Lib.hid hst7
                    clear h1 hr7 he7 hst7 HST6
                    go_upto_region 19 with fail
                    have hst8 := HST7.out.drewN 1
                    have hrow8 := hst8.sk
                    have hz8 : w.heap.size ≤ w7.drew.heap.size := hz7
                    go_region_law (refine step_apSk0 (l := L2) (d := D) (s := size) hrow8 hss hz8 rfl (.tmp 109) (.tmp 123) rfl rfl rfl ?_; intro v1 w1 g1 g2; obtain ⟨sa', sc', hv1, hst9, hc3, hf3⟩ := hst8.app' g1 g2; subst hv1)
                    all_goals
                      rw [List.length_append, List.length_singleton] at hst9
                      have HST9 := Lib.hid hst9
                      clear hst9 hc3 hf3 g1 g2 hst8 hrow8 hz8 hss hz7 hpl p1 p3 s3 s4 s5 hmn
                      go_wp2
                      go_meet
                      exact ⟨k + j3 + j4, L2, D, size, sa', sc', HST9.out, HL2R.out.1, HL2R.out.2, by rw [HRR.out]; exact HENT.out⟩
            · have i1 : ¬ ((Q : Int) < (n : Int)) := by omega
              obtain rfl : m = 0 := by omega
              rw [entV] at hent
              have hent : some (SS ++ [], b.drop k) = ENT := hent
              rw [List.append_nil] at hent
              have hkl := hst.rdr.le
              obtain ⟨FIL, hFIL⟩ : ∃ FIL, fillV b.length k SS = FIL := ⟨_, rfl⟩
              have hU2 : headsV b = FIL.map fun S2 => (n, t, S2) := by
                rw [HU.out, ← hent, ← hFIL]
                show (fillV b.length (b.length - (b.drop k).length) SS).map _ = _
                rw [List.length_drop, show b.length - (b.length - k) = k by omega]
              have hss : SS.length ≤ 1000000001 := by omega
              have C4 := rat_any wr w.heap.size rp rv b k hst.rdr
              have HST := Lib.hid hst
              have HU2 := Lib.hid hU2
              have HFIL := Lib.hid hFIL
              clear hst hU2 hFIL hent hm hla0 hla1 hQ hlt
              go_wp2_with fail
              with_reducible refine C4.mono ?_
              rintro e w5 ⟨rfl, rfl⟩
              clear C4 i1 p1
              go_wp2
              obtain ⟨wo, rfl⟩ : ∃ wo : World, wo = wr := ⟨_, rfl⟩
              clear p3
              go_loopw [12, 136] (fun s12 s136 wr => ∃ (at_ i : Nat) (FF : List SkV), s12 = .int .i64 (at_ : Nat) ∧ s136 = .int .i64 (i : Nat) ∧ i ≤ SS.length ∧ FF.length = i ∧ at_ ≤ b.length ∧
                  HdS w wr B p rp (.slice ai b.length ci) rv (.slice sa SS.length sc) b k n t (FF ++ SS.drop i) ∧ contF FF (fillV b.length at_ (SS.drop i)) = FIL) (fun _ s136 _ => SS.length - (intOf s136).toNat)
              case atStart => exact ⟨k, 0, [], rfl, rfl, Nat.zero_le _, rfl, hkl, HST.out, by rw [List.drop_zero, HFIL.out]; unfold contF; cases FIL <;> simp⟩
              case round =>
                clear HST HFIL
                obtain ⟨at_, i, FF, rfl, rfl, hi, hff, hal, hst, hfil⟩ := hrel
                by_cases hlt : i < SS.length
                · have i1 : (i : Int) < (SS.length : Int) := by omega
                  rw [List.drop_eq_getElem_cons hlt] at hst hfil
                  obtain ⟨x, hx⟩ : ∃ x, SS[i] = x := ⟨_, rfl⟩
                  rw [hx] at hst hfil
                  obtain ⟨la, dc, at0, sz⟩ := x
                  rw [fillV] at hfil
                  simp only at hfil
                  obtain ⟨g, rfl, _, _, hc⟩ := hst.sk.at_ i (by rw [List.length_append, hff, List.length_cons]; omega)
                  have hfz := hst.sk.frozen (i * 4 + 2)
                  have c2 : wr.cell? ⟨g, i * 4 + 2, none⟩ = some (.int .i64 (at0 : Nat)) := hc 2 _ (by subst hff; rw [get_midS]; rfl)
                  have p3 : wr.cell? ⟨p, 3, none⟩ = some (.slice (some ⟨g, 0, none⟩) SS.length sc) := blk_cell hst.blk 3
                  have hst1 := hst.fill at_
                  rw [hff] at hst1
                  have HST1 := Lib.hid hst1
                  have HFF := Lib.hid hff
                  have HFL := Lib.hid hfil
                  clear hst hst1 hc hff hfil hx
                  go_upto_region 25 with fail
                  generalize wr.setCell ⟨g, i * 4 + 2, none⟩ (.int .i64 (at_ : Nat)) = W1 at HST1 ⊢
                  clear c2 p3 hfz
                  have p3 : W1.cell? ⟨p, 3, none⟩ = some (.slice (some ⟨g, 0, none⟩) SS.length sc) := blk_cell HST1.out.blk 3
                  have p0 : W1.cell? ⟨p, 0, none⟩ = some (.slice ai b.length ci) := blk_cell HST1.out.blk 0
                  have hlen : i < (FF ++ (⟨la, dc, at_, sz⟩ : SkV) :: SS.drop (i + 1)).length := by rw [List.length_append, HFF.out, List.length_cons]; omega
                  obtain ⟨g', e1, _, _, hc⟩ := HST1.out.sk.at_ i hlen
                  injection e1 with e1
                  injection e1 with e1
                  subst e1
                  have c3 : W1.cell? ⟨g, i * 4 + 3, none⟩ = some (.int .i64 (sz : Nat)) := hc 3 _ (by have h9 := HFF.out; subst h9; rw [get_midS]; rfl)
                  clear hc hlen
                  obtain ⟨Rm, hRm⟩ : ∃ Rm, b.length - at_ = Rm := ⟨_, rfl⟩
                  have s1 : IntKind.i64.wrap ((b.length : Int) - (at_ : Int)) = (Rm : Int) := by rw [IntKind.wrap_i64]; omega
                  by_cases hsz : Rm < sz
                  · have t1 : decide (Rm < sz) = true := decide_eq_true hsz
                    have hno : FIL = none := by rw [← HFL.out, if_pos (by omega)]; rfl
                    have HNO := Lib.hid (show headsV b = none by rw [HU2.out, hno]; rfl)
                    clear hno hsz hRm
                    go_quiet (fail)
                    go_wp2
                    go_ret
                    exact HdPost.no HNO.out (HST1.out.eff.drewN _)
                  · have t1 : decide (Rm < sz) = false := decide_eq_false hsz
                    have hfl := HFL.out
                    rw [if_neg (by omega)] at hfl
                    have s2 : IntKind.i64.wrap ((at_ : Int) + (sz : Int)) = ((at_ + sz : Nat) : Int) := by rw [IntKind.wrap_i64]; omega
                    have hal2 : at_ + sz ≤ b.length := by omega
                    have HF2 := Lib.hid hfl
                    have HST2 := Lib.hid (HST1.out.drewN)
                    clear hfl hsz hRm HFL
                    go_quiet (fail)
                    go_wp2
                    go_roundw
                    case rel =>
                      refine ⟨at_ + sz, i + 1, FF ++ [⟨la, dc, at_, sz⟩], rfl, by go_num, by omega, by rw [List.length_append, HFF.out]; rfl, hal2, by rw [List.append_assoc]; exact HST2.out _, ?_⟩
                      rw [← HF2.out]
                      cases fillV b.length (at_ + sz) (SS.drop (i + 1)) with
                      | none => rfl
                      | some y => simp [contF]
                    case measure => simp [intOf]; omega
                · obtain rfl : i = SS.length := by omega
                  rw [List.drop_length, fillV] at hfil
                  rw [List.drop_length, List.append_nil] at hst
                  have i1 : ¬ ((SS.length : Int) < (SS.length : Int)) := by omega
                  have p0 : wr.cell? ⟨p, 0, none⟩ = some (.slice ai b.length ci) := blk_cell hst.blk 0
                  have HST := Lib.hid hst
                  by_cases hae : at_ = b.length
                  · rw [if_pos hae] at hfil
                    have hyes : headsV b = some (n, t, FF) := by rw [HU2.out, ← hfil]; simp [contF]
                    have HYES := Lib.hid hyes
                    have t1 : ((at_ : Int) == (b.length : Int)) = true := by simp; omega
                    clear hst hfil hyes hae hff
                    go_wp2
                    go_ret
                    refine ⟨fun h => (by rw [HYES.out] at h; cases h), fun n' t' S' hs => ?_, HST.out.eff⟩
                    rw [HYES.out] at hs
                    injection hs with hs
                    injection hs with e1 hs
                    injection hs with e2 e3
                    subst e1 e2 e3
                    exact ⟨rfl, _, HST.out.list hB⟩
                  · rw [if_neg hae] at hfil
                    have hno : headsV b = none := by rw [HU2.out, ← hfil]; rfl
                    have HNO := Lib.hid hno
                    have t1 : ((at_ : Int) == (b.length : Int)) = false := by simp; omega
                    clear hst hfil hno hae hff
                    go_wp2
                    go_ret
                    exact HdPost.no HNO.out HST.out.eff
end Go.Proofs.YthnpbfadblcicaaDoor
