/- Merged: DBlkW, DDecA. -/
import Derived.Test.YtaijepjhmjjecaaDoorZG23
import Derived.Test.YtaijepjhmjjecaaDoorZG21
/- posts: the document's reader: block, walked. -/
namespace Go.Proofs.YtaijepjhmjjecaaDoor
set_option linter.unusedVariables false
open Go.ChangeShapes Go.WideShapes Go.ChangeAt Go.RowKit

set_option maxRecDepth 100000 in
set_option maxHeartbeats 8000000 in
theorem blk8_any (w : World) (rp : Nat) (a : Option Addr) (nn cc : Nat) (b : List UInt8) (k : Nat) (h : Dr w rp (.slice a nn cc) k false) (hrd : ∀ W, Eff (· = rp) w W → Rd W (.slice a nn cc) (bytesV b)) (hb : b.length ≤ 31000000) (hk : k ≤ b.length) (base : Int) (hb0 : -1 ≤ base) (hb1 : base < 2147483647) (n : Nat) (hn : n ≤ 16) :
    Calls Tryd.prog 43 #[.pointer (some ⟨rp, 0, none⟩), .int .i64 (n : Nat), .int .i64 base] w (BlkQPost w rp (.slice a nn cc) b base n k) := by
  have hp := lt_of_heap h.blk
  have hrow := rowP_empty w w.heap.size (Nat.le_refl _)
  have hbA : Below w.heap.size w (w.alloc (.cells #[] 41)) := (Below.refl _ w).alloc (Nat.le_refl _) _
  have hst1 : DbS w (w.alloc (.cells #[] 41)) rp (.slice a nn cc) (.slice (some ⟨w.heap.size, 0, none⟩) 0 0) b k false [] (fun _ => .slice none 0 0) :=
    ⟨h.eff (Eff.of_below hbA (fun _ => False)) (fun f => f), hk, hrow, Eff.of_below hbA _, hp⟩
  obtain ⟨p1, p2⟩ := pk_two b k n base
  obtain ⟨RES, hRES⟩ : ∃ RES, blkQ base n (b.drop k) = RES := ⟨_, rfl⟩
  rw [hRES] at p1 p2
  have hk1 := pkQ_le hk false n
  have hk2 := pkQ_le hk1 (pkQ b k false n).2.2 n
  obtain ⟨Q1, hQ1⟩ : ∃ Q1, pkQ b k false n = Q1 := ⟨_, rfl⟩
  rw [hQ1] at p1 p2 hk1 hk2
  obtain ⟨Q2, hQ2⟩ : ∃ Q2, pkQ b Q1.2.1 Q1.2.2 n = Q2 := ⟨_, rfl⟩
  rw [hQ2] at p1 p2 hk2
  have HRES := Lib.hid hRES
  have HP1 := Lib.hid p1
  have HP2 := Lib.hid p2
  have HST1 := Lib.hid hst1
  have HQ2 := Lib.hid hQ2
  have HRD := Lib.hid hrd
  clear hRES p1 p2 hst1 hQ2 hrow hrd h
  go_enter Tryd.func43, Tryd.ntmps43
  go_upto_region 2 with fail
  generalize w.alloc (.cells #[] 41) = w1 at HST1 hbA ⊢
  have C2 := pck8_any w1 rp a nn cc b k false n hn HST1.out.dr (HRD.out _ HST1.out.eff) (by omega) hk
  rw [hQ1] at C2
  have hz1 := hbA.size
  clear hbA hQ1
  go_wp2_with fail
  with_reducible refine C2.mono ?_
  rintro e w2 ⟨AD, ND, CD, rfl, hoD, hd2, he2⟩
  clear C2
  have hst2 := HST1.out.read hd2 hk1 he2
  have C3 := pck8_any w2 rp a nn cc b Q1.2.1 Q1.2.2 n hn hd2 (HRD.out _ hst2.eff) (by omega) hk1
  rw [HQ2.out] at C3
  have HOD := Lib.hid (own_base hoD hz1)
  have HST2 := Lib.hid hst2
  clear hoD hd2 he2 hst2 HST1
  go_wp2_with fail
  with_reducible refine C3.mono ?_
  rintro e w3 ⟨AF, NF, CF, rfl, hoF, hd3, he3⟩
  clear C3
  have hst3 := HST2.out.read hd3 hk2 he3
  have hoD3 := HOD.out.eff he3 (fun q hq e => by have := (HOD.out.lt q hq).1; have := HST2.out.hp; omega)
  have hoF3 := own_base hoF (base' := w.heap.size) (Nat.le_trans HST2.out.eff.size (Nat.le_refl _))
  obtain ⟨DS, hDS⟩ : ∃ DS, Q1.1.getD [] = DS := ⟨_, rfl⟩
  obtain ⟨FS, hFS⟩ : ∃ FS, Q2.1.getD [] = FS := ⟨_, rfl⟩
  rw [hDS] at hoD3
  rw [hFS] at hoF3
  have hND := hoD3.len
  have hNF := hoF3.len
  rw [intL_length, natI_length] at hND hNF
  subst hND hNF
  have HBAD := Lib.hid (show (Q2.2.2 = true → RES = none) ∧ (Q2.2.2 = false → DS.length = n ∧ FS.length = n ∧ contU [] (unpQ base (DS.drop 0) (FS.drop 0) (b.drop Q2.2.1)) = RES) by
    refine ⟨HP1.out, fun hh => ?_⟩
    obtain ⟨ds, fs, e1, e2, e3, e4, e5⟩ := HP2.out hh
    rw [e1] at hDS
    rw [e2] at hFS
    simp only [Option.getD_some] at hDS hFS
    subst hDS hFS
    refine ⟨e3, e4, ?_⟩
    rw [List.drop_zero, List.drop_zero, e5]
    unfold contU
    cases unpQ base ds fs (b.drop Q2.2.1) <;> simp)
  have HST3 := Lib.hid hst3
  have HOD3 := Lib.hid hoD3
  have HOF3 := Lib.hid hoF3
  clear hoF hd3 he3 hst3 hoD3 hoF3 hDS hFS HP1 HP2 HST2 HOD HQ2
  go_wp2
  go_loopw [2, 7, 10] (fun s2 s7 s10 wr => ∃ (i k2 : Nat) (bad : Bool) (b2 : Int) (done : List PostV) (vs : Nat → Value) (A : Option Addr) (N C : Nat), s2 = .int .i64 b2 ∧ s7 = .slice A N C ∧ s10 = .int .i64 (i : Nat) ∧ i ≤ n ∧ done.length = i ∧ -1 ≤ b2 ∧ b2 < 2147483647 ∧
      DbS w wr rp (.slice a nn cc) (.slice A N C) b k2 bad done vs ∧ Own wr w.heap.size 3 (.slice AD DS.length CD) (intL (natI DS)) ∧ Own wr w.heap.size 3 (.slice AF FS.length CF) (intL (natI FS)) ∧ (bad = true → RES = none) ∧
      (bad = false → DS.length = n ∧ FS.length = n ∧ contU done (unpQ b2 (DS.drop i) (FS.drop i) (b.drop k2)) = RES)) (fun _ _ s10 _ => n - (intOf s10).toNat)
  case atStart => exact ⟨0, Q2.2.1, Q2.2.2, base, [], _, _, _, _, rfl, rfl, rfl, Nat.zero_le _, rfl, hb0, hb1, HST3.out, HOD3.out, HOF3.out, HBAD.out.1, HBAD.out.2⟩
  case round =>
    clear HST3 HOD3 HOF3 HBAD
    obtain ⟨i, k2, bad, b2, done, vs, A, N, C, rfl, rfl, rfl, hi, hdl, hb20, hb21, hst, hoD, hoF, hbd, hgd⟩ := hrel
    have q2 : wr.cell? ⟨rp, 2, none⟩ = some (.bool bad) := blk_cell hst.dr.blk 2
    by_cases hgo : i < n ∧ bad = false
    · obtain ⟨hlt, rfl⟩ := hgo
      obtain ⟨g1, g2, g3⟩ := hgd rfl
      have hlD : i < DS.length := by omega
      have hlF : i < FS.length := by omega
      obtain ⟨gd, rfl⟩ := hoD.someAt (show 0 < DS.length by omega)
      obtain ⟨gf, rfl⟩ := hoF.someAt (show 0 < FS.length by omega)
      have cd := hoD.get (intL_get (natI DS) i (by rw [natI_length]; exact hlD))
      have cf := hoF.get (intL_get (natI FS) i (by rw [natI_length]; exact hlF))
      rw [natI_get DS i hlD] at cd
      rw [natI_get FS i hlF] at cf
      rw [List.drop_eq_getElem_cons hlD, List.drop_eq_getElem_cons hlF, unpQ] at g3
      obtain ⟨d, hd⟩ : ∃ d, DS[i] = d := ⟨_, rfl⟩
      obtain ⟨f, hf⟩ : ∃ f, FS[i] = f := ⟨_, rfl⟩
      rw [hd] at cd g3
      rw [hf] at cf g3
      have i1 : (i : Int) < (n : Int) := by omega
      have i2 : (i : Int) < (DS.length : Int) := by omega
      have i3 : (i : Int) < (FS.length : Int) := by omega
      have f2 := blk_frozen hst.dr.blk 2
      by_cases hX : 2147483647 ≤ b2 + (d : Int) + 1
      · rw [if_pos hX] at g3
        have hno : blkQ base n (b.drop k) = none := by rw [HRES.out, ← g3]; rfl
        have HFIN := Lib.hid (BlkQPost.bad hst (show done.length ≤ n by omega) hno)
        clear hst hoD hoF hbd hgd g3 hno hd hf g1 g2 hlD hlF hdl hi hlt cf
        by_cases hX1 : 2147483647 ≤ (d : Int)
        · have t1 : decide ((2147483647 : Int) ≤ (d : Int)) = true := decide_eq_true hX1
          clear hX hX1 hb20 hb21
          go_wp2
          go_ret
          exact HFIN.out
        · have t1 : decide ((2147483647 : Int) ≤ (d : Int)) = false := decide_eq_false hX1
          have s1 : IntKind.i64.wrap (b2 + (d : Int)) = b2 + (d : Int) := by rw [IntKind.wrap_i64]; omega
          have s2 : IntKind.i64.wrap (b2 + (d : Int) + 1) = b2 + (d : Int) + 1 := by rw [IntKind.wrap_i64]; omega
          have t2 : decide ((2147483647 : Int) ≤ b2 + (d : Int) + 1) = true := decide_eq_true hX
          clear hX hX1 hb20 hb21
          go_wp2
          go_ret
          exact HFIN.out
      · rw [if_neg hX] at g3
        have t1 : decide ((2147483647 : Int) ≤ (d : Int)) = false := decide_eq_false (by omega)
        have s1 : IntKind.i64.wrap (b2 + (d : Int)) = b2 + (d : Int) := by rw [IntKind.wrap_i64]; omega
        have s2 : IntKind.i64.wrap (b2 + (d : Int) + 1) = b2 + (d : Int) + 1 := by rw [IntKind.wrap_i64]; omega
        have t2 : decide ((2147483647 : Int) ≤ b2 + (d : Int) + 1) = false := decide_eq_false hX
        obtain ⟨b3, hb3⟩ : ∃ b3, b2 + (d : Int) + 1 = b3 := ⟨_, rfl⟩
        have s3 : IntKind.i64.wrap ((d : Int) + 1) = (d : Int) + 1 := by rw [IntKind.wrap_i64]; omega
        have s4 : IntKind.i64.wrap (b2 + ((d : Int) + 1)) = b3 := by rw [IntKind.wrap_i64]; omega
        have hb3r : -1 ≤ b3 ∧ b3 < 2147483647 := by omega
        rw [hb3] at g3
        obtain ⟨R0, hR0⟩ : ∃ R0, getR (f + 1) (-1) (b.drop k2) = R0 := ⟨_, rfl⟩
        rw [hR0] at g3
        have HG3 := Lib.hid g3
        have HR0 := Lib.hid hR0
        have HST := Lib.hid hst
        have HOD := Lib.hid hoD
        have HOF := Lib.hid hoF
        have HB3 := Lib.hid (And.intro hb3 hb3r)
        have HIX := Lib.hid (And.intro hlD (And.intro hlF (And.intro hd hf)))
        have HGG := Lib.hid (And.intro hdl (And.intro g1 g2))
        clear g3 hR0 hst hoD hoF hbd hgd hb3r hd hf g1 g2 hdl
        have hbAl := (Below.refl wr.heap.size wr).alloc (Nat.le_refl _) (.cells #[.int .i64 b3, .slice none 0 0] 41)
        have hI : DbI w (wr.alloc (.cells #[.int .i64 b3, .slice none 0 0] 41)) rp (.slice a nn cc) (.slice A N C) b k2 false done vs wr.heap.size b3 (.slice none 0 0) [] (.slice (some ⟨gd, 0, none⟩) DS.length CD) (.slice (some ⟨gf, 0, none⟩) FS.length CF) (intL (natI DS)) (intL (natI FS)) :=
          ⟨HST.out.step hbAl, heap_alloc_new wr _, own_nil _ _ _, fun q hq => (HST.out.row.ge q hq).2, HST.out.eff.size, HOD.out.alloc _, HOF.out.alloc _, fun q hq => (HOD.out.lt q hq).2, fun q hq => (HOF.out.lt q hq).2⟩
        have HI := Lib.hid hI
        clear hI hbAl HST HOD HOF
        go_upto_region 12 with fail
        generalize wr.alloc (.cells #[.int .i64 b3, .slice none 0 0] 41) = W1 at HI ⊢
        generalize wr.heap.size = GP at HI ⊢
        clear cd cf q2 f2 t1 s1 s2 t2 s3 s4 i2
        have HHX := Lib.hid hX
        have HB2 := Lib.hid (And.intro hb20 hb21)
        clear hX hb20 hb21
        go_wp2
        obtain ⟨wo, rfl⟩ : ∃ wo : World, wo = wr := ⟨_, rfl⟩
        go_loopw [12, 13] (fun s12 s13 wi => ∃ (q k3 used : Nat) (bd : Bool) (bf : Int) (acc : List Int) (A5 : Option Addr) (N5 C5 : Nat), s12 = .int .i64 bf ∧ s13 = .int .i64 (q : Nat) ∧ acc.length = q ∧ q ≤ b.length + 1 ∧ -1 ≤ bf ∧ bf ≤ 9223372036854775807 ∧
            DbI w wi rp (.slice a nn cc) (.slice A N C) b k3 bd done vs GP b3 (.slice A5 N5 C5) acc (.slice (some ⟨gd, 0, none⟩) DS.length CD) (.slice (some ⟨gf, 0, none⟩) FS.length CF) (intL (natI DS)) (intL (natI FS)) ∧
            (bd = true → ∃ e, R0 = .error e) ∧ (bd = false → q ≤ f + 1 ∧ contR acc used (getR (f + 1 - q) bf (b.drop k3)) = R0 ∧ k2 + used = k3 ∧ k2 + q ≤ k3)) (fun _ s13 _ => f + 1 - (intOf s13).toNat)
        case atStart => exact ⟨0, k2, 0, false, -1, [], _, _, _, rfl, rfl, rfl, by omega, by omega, by omega, HI.out, (fun h => by cases h), fun _ => ⟨by omega, by rw [Nat.sub_zero, HR0.out]; cases R0 <;> simp [contR], by omega, by omega⟩⟩
        case round =>
          clear HI
          obtain ⟨q, k3, used, bd, bf, acc, A5, N5, C5, rfl, rfl, hql, hqb, hbf0, hbf1, hI, hbt, hbg⟩ := hrel
          have q2 : wr.cell? ⟨rp, 2, none⟩ = some (.bool bd) := blk_cell hI.st.dr.blk 2
          have cf : wr.cell? ⟨gf, i, none⟩ = some (.int .i64 (f : Nat)) := by
            obtain ⟨_, hlF, _, hf⟩ := HIX.out
            have h9 := hI.oF.get (intL_get (natI FS) i (by rw [natI_length]; exact hlF))
            rw [natI_get FS i hlF, hf] at h9
            exact h9
          by_cases hgo2 : q ≤ f ∧ bd = false
          · obtain ⟨hqf, rfl⟩ := hgo2
            obtain ⟨v1, v2, v3, v4⟩ := hbg rfl
            have tq : decide (q ≤ f) = true := decide_eq_true hqf
            have hk3 := hI.st.le
            have C5 := num8_any wr rp a nn cc b k3 false hI.st.dr (HRD.out _ hI.st.eff) (by omega) hI.st.le
            obtain ⟨X, k4, bd2, hnum, hk4, hTe, hbt2, hbg2⟩ := num_step hqf hI.st.le hbf0 v2
            rw [hnum] at C5
            have HI := Lib.hid hI
            have HBT2 := Lib.hid hbt2
            have HBG2 := Lib.hid hbg2
            have HTE := Lib.hid hTe
            have HQQ := Lib.hid (And.intro v1 (And.intro v3 (And.intro v4 (And.intro hql hqf))))
            clear hI hbt hbg v1 v2 v3 v4 hnum hbt2 hbg2 hTe hql hqf
            by_cases hT : 9223372036854775806 - bf < (X : Int)
            · obtain ⟨e1, he1⟩ := HTE.out hT
              have hno : blkQ base n (b.drop k) = none := by
                rw [HRES.out, ← HG3.out, he1]; rfl
              have HNO := Lib.hid hno
              clear hno he1
              by_cases hM : bf = 9223372036854775807
              · subst hM
                clear hT
                go_wp2_with fail
                with_reducible refine C5.mono ?_
                rintro e w6 ⟨rfl, hd6, he6⟩
                clear C5
                have hI6 := HI.out.read hd6 hk4 he6
                have q6 : w6.cell? ⟨rp, 2, none⟩ = some (.bool bd2) := blk_cell hd6.blk 2
                have f6 := blk_frozen hd6.blk 2
                have HFIN := Lib.hid (BlkQPost.bad hI6.st (show done.length ≤ n by have := HGG.out.1; omega) HNO.out)
                clear hI6 hd6 he6 HI q2 cf
                go_wp2
                go_ret
                exact HFIN.out
              · have t1 : ((bf : Int) == 9223372036854775807) = false := by apply beq_false_of_ne; exact hM
                obtain ⟨Y, hY⟩ : ∃ Y, 9223372036854775806 - bf = Y := ⟨_, rfl⟩
                have s1 : IntKind.i64.wrap (9223372036854775806 - bf) = Y := by rw [IntKind.wrap_i64]; omega
                have t2 : decide (Y < (X : Int)) = true := decide_eq_true (by omega)
                clear hT hM hY
                go_wp2_with fail
                with_reducible refine C5.mono ?_
                rintro e w6 ⟨rfl, hd6, he6⟩
                clear C5
                have hI6 := HI.out.read hd6 hk4 he6
                have q6 : w6.cell? ⟨rp, 2, none⟩ = some (.bool bd2) := blk_cell hd6.blk 2
                have f6 := blk_frozen hd6.blk 2
                have HFIN := Lib.hid (BlkQPost.bad hI6.st (show done.length ≤ n by have := HGG.out.1; omega) HNO.out)
                clear hI6 hd6 he6 HI q2 cf
                go_wp2
                go_ret
                exact HFIN.out
            · have hXle : (X : Int) ≤ 9223372036854775806 - bf := Int.not_lt.1 hT
              have hM : ¬ bf = 9223372036854775807 := by omega
              have t1 : ((bf : Int) == 9223372036854775807) = false := by apply beq_false_of_ne; exact hM
              obtain ⟨Y, hY⟩ : ∃ Y, 9223372036854775806 - bf = Y := ⟨_, rfl⟩
              have s1 : IntKind.i64.wrap (9223372036854775806 - bf) = Y := by rw [IntKind.wrap_i64]; omega
              have t2 : decide (Y < (X : Int)) = false := decide_eq_false (by omega)
              have hb4r : -1 ≤ bf + (X : Int) + 1 ∧ bf + (X : Int) + 1 ≤ 9223372036854775807 := ⟨by omega, by omega⟩
              have hs5 := sum_i64 bf X hbf0 hXle
              obtain ⟨Z1, hZ1⟩ : ∃ Z1, IntKind.i64.wrap ((X : Int) + 1) = Z1 := ⟨_, rfl⟩
              rw [hZ1] at hs5
              have hbg3 : bd2 = false → ∃ c, 1 ≤ c ∧ k4 = k3 + c ∧ contR (acc ++ [bf + X + 1]) (used + c) (getR (f + 1 - (q + 1)) (bf + X + 1) (b.drop k4)) = R0 := fun h => by
                rcases HBG2.out h with h9 | h9
                · exact absurd h9 hT
                · exact h9
              obtain ⟨b4, hb4⟩ : ∃ b4, bf + (X : Int) + 1 = b4 := ⟨_, rfl⟩
              rw [hb4] at hs5 hb4r hbg3
              have HB4 := Lib.hid hb4r
              have HBG3 := Lib.hid hbg3
              clear hT hM hY hXle hb4r hbg3 hb4 HBG2
              go_wp2_with fail
              with_reducible refine C5.mono ?_
              rintro e w6 ⟨rfl, hd6, he6⟩
              clear C5
              have hI6 := HI.out.read hd6 hk4 he6
              have c61 := blk_cell hI6.blk 1
              have hlen6 : (intL acc).length < 1000000000000 := by rw [intL_length]; have := HQQ.out.2.2.2.1; omega
              have hz6 : GP ≤ w6.heap.size := Nat.le_of_lt (lt_of_heap hI6.blk)
              have HI6 := Lib.hid hI6
              have HL6 := Lib.hid hlen6
              clear hI6 hd6 he6 HI q2 cf hlen6
              go_wp2_with (at_builtin; with_reducible refine ap1' elInts rfl HI6.out.own HL6.out hz6 rfl _ _ rfl rfl rfl ?_)
              intro v7 w7 m1 m2 m3 m4
              obtain ⟨h7, c71, f71⟩ := HI6.out.app (acc2 := acc ++ [b4]) (own_to m1 (by rw [intL_append]; rfl)) m4
              obtain ⟨A7, N7, C7, rfl⟩ := own_sl m1
              have HI7 := Lib.hid h7
              clear h7 m1 m2 m3 m4 HI6 c61
              go_wp2
              go_roundw
              case rel =>
                obtain ⟨x1, x2, x3, x4, x5⟩ := HQQ.out
                refine ⟨q + 1, k4, used + (k4 - k3), bd2, b4, acc ++ [b4], A7, N7, C7, by first | rfl | rw [hs5], by go_num, by rw [List.length_append, x4]; rfl, by omega, HB4.out.1, HB4.out.2, HI7.out, HBT2.out, fun h => ?_⟩
                obtain ⟨c, y1, y2, y3⟩ := HBG3.out h
                rw [show used + (k4 - k3) = used + c by omega]
                exact ⟨by omega, y3, by omega, by omega⟩
              case measure => simp [intOf]; have := HQQ.out.2.2.2.2; omega
          · by_cases hqf : q ≤ f
            · have tq : decide (q ≤ f) = true := decide_eq_true hqf
              have hbdt : bd = true := by
                cases bd with
                | true => rfl
                | false => exact absurd ⟨hqf, rfl⟩ hgo2
              subst hbdt
              have hRn : true = true → RES = none := fun h => by
                obtain ⟨e1, he1⟩ := hbt h
                rw [← HG3.out, he1]; rfl
              have hRg : true = false → DS.length = n ∧ FS.length = n ∧ contU (done ++ [⟨b3, acc⟩]) (unpQ b3 (DS.drop (i + 1)) (FS.drop (i + 1)) (b.drop k3)) = RES := fun h => by
                obtain ⟨x1, x2, x3, x4⟩ := hbg h
                have hqe : f + 1 - q = 0 := by
                  rcases Nat.lt_or_ge f q with h9 | h9
                  · omega
                  · exact absurd ⟨h9, h⟩ hgo2
                rw [hqe, getR] at x2
                refine ⟨HGG.out.2.1, HGG.out.2.2, ?_⟩
                rw [← HG3.out, ← x2]
                simp only [contR, List.append_nil, Nat.add_zero, List.drop_drop, x3]
                cases unpQ b3 (DS.drop (i + 1)) (FS.drop (i + 1)) (b.drop k3) with
                | none => rfl
                | some y => simp [contU]
              have c0 := blk_cell hI.blk 0
              have c1 := blk_cell hI.blk 1
              have hos := own_base hI.own hI.hp
              have hsp : ∀ kk q', kk < done.length → (vs kk).ownBlock = some q' → (Value.slice A5 N5 C5).ownBlock ≠ some q' := fun kk q' hk' h1 h2 => by
                have z1 := hI.vlt q' (.inr ⟨kk, hk', h1⟩)
                have z2 := (hI.own.lt q' h2).1
                omega
              have hdl9 : done.length ≤ 1000000000 := by have := HGG.out.1; omega
              have hz9 := hI.st.eff.size
              have HI := Lib.hid hI
              have HOS := Lib.hid hos
              have HSP := Lib.hid hsp
              have HDL9 := Lib.hid hdl9
              have HRN := Lib.hid hRn
              have HRG := Lib.hid hRg
              clear hI hos hsp hdl9 hbt hbg hRn hRg hgo2 hqb hbf0 hbf1 hql
              go_wp2_with (at_builtin; with_reducible refine apP1 HI.out.st.row b3 acc _ HOS.out HSP.out HDL9.out hz9 rfl _ _ rfl rfl rfl ?_)
              intro v8 w8 hrow8 hg8
              have he8 : Eff (fun q' => (Value.slice A N C).ownBlock = some q') wr w8 := (Eff.refl _ wr).grown hg8 (fun q' hq _ => hq)
              have hst8 : DbS w w8 rp (.slice a nn cc) v8 b k3 true (done ++ [⟨b3, acc⟩]) (fun kk => if kk < done.length then vs kk else .slice A5 N5 C5) :=
                ⟨HI.out.st.dr.eff he8 (fun e => by have := (HI.out.st.row.lt rp e).1; have := HI.out.st.hp; omega), HI.out.st.le, hrow8, HI.out.st.eff.trans he8 (fun q' hq hlt => by have := (HI.out.st.row.lt q' hq).1; omega), HI.out.st.hp⟩
              have hoD8 := HI.out.oD.eff he8 (fun q' hq e => row_ne_own HI.out.st.row.row HI.out.oD (by decide) e hq)
              have hoF8 := HI.out.oF.eff he8 (fun q' hq e => row_ne_own HI.out.st.row.row HI.out.oF (by decide) e hq)
              obtain ⟨A8, C8, rfl, _⟩ := hrow8.sl
              have HST8 := Lib.hid hst8
              have HOD8 := Lib.hid hoD8
              have HOF8 := Lib.hid hoF8
              clear hrow8 hg8 he8 hst8 hoD8 hoF8 c0 c1 HI HOS HSP cf q2
              go_wp2
              go_roundw
              case rel => exact ⟨i + 1, k3, true, b3, done ++ [⟨b3, acc⟩], _, A8, _, C8, rfl, rfl, by go_num, by omega, by rw [List.length_append, HGG.out.1]; rfl, HB3.out.2.1, HB3.out.2.2, HST8.out, HOD8.out, HOF8.out, fun _ => HRN.out (by trivial), (fun h => by cases h)⟩
              case measure => simp [intOf]; omega
            · have tq : decide (q ≤ f) = false := decide_eq_false hqf
              have hRn : bd = true → RES = none := fun h => by
                obtain ⟨e1, he1⟩ := hbt h
                rw [← HG3.out, he1]; rfl
              have hRg : bd = false → DS.length = n ∧ FS.length = n ∧ contU (done ++ [⟨b3, acc⟩]) (unpQ b3 (DS.drop (i + 1)) (FS.drop (i + 1)) (b.drop k3)) = RES := fun h => by
                obtain ⟨x1, x2, x3, x4⟩ := hbg h
                have hqe : f + 1 - q = 0 := by
                  rcases Nat.lt_or_ge f q with h9 | h9
                  · omega
                  · exact absurd ⟨h9, h⟩ hgo2
                rw [hqe, getR] at x2
                refine ⟨HGG.out.2.1, HGG.out.2.2, ?_⟩
                rw [← HG3.out, ← x2]
                simp only [contR, List.append_nil, Nat.add_zero, List.drop_drop, x3]
                cases unpQ b3 (DS.drop (i + 1)) (FS.drop (i + 1)) (b.drop k3) with
                | none => rfl
                | some y => simp [contU]
              have c0 := blk_cell hI.blk 0
              have c1 := blk_cell hI.blk 1
              have hos := own_base hI.own hI.hp
              have hsp : ∀ kk q', kk < done.length → (vs kk).ownBlock = some q' → (Value.slice A5 N5 C5).ownBlock ≠ some q' := fun kk q' hk' h1 h2 => by
                have z1 := hI.vlt q' (.inr ⟨kk, hk', h1⟩)
                have z2 := (hI.own.lt q' h2).1
                omega
              have hdl9 : done.length ≤ 1000000000 := by have := HGG.out.1; omega
              have hz9 := hI.st.eff.size
              have HI := Lib.hid hI
              have HOS := Lib.hid hos
              have HSP := Lib.hid hsp
              have HDL9 := Lib.hid hdl9
              have HRN := Lib.hid hRn
              have HRG := Lib.hid hRg
              clear hI hos hsp hdl9 hbt hbg hRn hRg hgo2 hqb hbf0 hbf1 hql
              go_wp2_with (at_builtin; with_reducible refine apP1 HI.out.st.row b3 acc _ HOS.out HSP.out HDL9.out hz9 rfl _ _ rfl rfl rfl ?_)
              intro v8 w8 hrow8 hg8
              have he8 : Eff (fun q' => (Value.slice A N C).ownBlock = some q') wr w8 := (Eff.refl _ wr).grown hg8 (fun q' hq _ => hq)
              have hst8 : DbS w w8 rp (.slice a nn cc) v8 b k3 bd (done ++ [⟨b3, acc⟩]) (fun kk => if kk < done.length then vs kk else .slice A5 N5 C5) :=
                ⟨HI.out.st.dr.eff he8 (fun e => by have := (HI.out.st.row.lt rp e).1; have := HI.out.st.hp; omega), HI.out.st.le, hrow8, HI.out.st.eff.trans he8 (fun q' hq hlt => by have := (HI.out.st.row.lt q' hq).1; omega), HI.out.st.hp⟩
              have hoD8 := HI.out.oD.eff he8 (fun q' hq e => row_ne_own HI.out.st.row.row HI.out.oD (by decide) e hq)
              have hoF8 := HI.out.oF.eff he8 (fun q' hq e => row_ne_own HI.out.st.row.row HI.out.oF (by decide) e hq)
              obtain ⟨A8, C8, rfl, _⟩ := hrow8.sl
              have HST8 := Lib.hid hst8
              have HOD8 := Lib.hid hoD8
              have HOF8 := Lib.hid hoF8
              clear hrow8 hg8 he8 hst8 hoD8 hoF8 c0 c1 HI HOS HSP cf q2
              go_wp2
              go_roundw
              case rel => exact ⟨i + 1, k3, bd, b3, done ++ [⟨b3, acc⟩], _, A8, _, C8, rfl, rfl, by go_num, by omega, by rw [List.length_append, HGG.out.1]; rfl, HB3.out.2.1, HB3.out.2.2, HST8.out, HOD8.out, HOF8.out, HRN.out, HRG.out⟩
              case measure => simp [intOf]; omega
    · have hfin : BlkQPost w rp (.slice a nn cc) b base n k (.returned (.slice A N C)) wr := by
        refine ⟨A, N, C, done, vs, k2, bad, rfl, hst.row, by omega, hst.dr, hst.le, hst.eff, fun h => ?_, fun ps0 l0 h => ?_⟩
        · rw [HRES.out] at h
          cases bad with
          | true => rfl
          | false =>
            obtain ⟨g1, g2, g3⟩ := hgd rfl
            have hin : i = n := by
              rcases Nat.lt_or_ge i n with h9 | h9
              · exact absurd ⟨h9, rfl⟩ hgo
              · omega
            rw [List.drop_of_length_le (show DS.length ≤ i by omega), unpQ, h] at g3
            cases g3
        · rw [HRES.out] at h
          cases bad with
          | true => rw [hbd rfl] at h; cases h
          | false =>
            obtain ⟨g1, g2, g3⟩ := hgd rfl
            have hin : i = n := by
              rcases Nat.lt_or_ge i n with h9 | h9
              · exact absurd ⟨h9, rfl⟩ hgo
              · omega
            rw [List.drop_of_length_le (show DS.length ≤ i by omega), unpQ, h] at g3
            have g3 : some (done ++ [], b.drop k2) = some (ps0, l0) := g3
            injection g3 with g3
            injection g3 with g4 g5
            exact ⟨rfl, by rw [← g4, List.append_nil], g5.symm⟩
      have HFIN := Lib.hid hfin
      clear hst hoD hoF hbd hgd hfin hdl hb20 hb21
      cases bad with
      | true =>
        by_cases hlt : i < n
        · have i1 : (i : Int) < (n : Int) := by omega
          clear hgo hlt
          go_wp2
          go_ret
          exact HFIN.out
        · have i1 : ¬ ((i : Int) < (n : Int)) := by omega
          clear hgo hlt
          go_wp2
          go_ret
          exact HFIN.out
      | false =>
        have i1 : ¬ ((i : Int) < (n : Int)) := fun h9 => hgo ⟨by omega, rfl⟩
        clear hgo
        go_wp2
        go_ret
        exact HFIN.out
end Go.Proofs.YtaijepjhmjjecaaDoor

/- posts: what the walk of the document's Decode stands on. -/
namespace Go.Proofs.YtaijepjhmjjecaaDoor
set_option linter.unusedVariables false
open Go.ChangeShapes Go.WideShapes Go.ChangeAt Go.RowKit

theorem numQ_ok {b : List UInt8} {k u c : Nat} (h : getUpto 9223372036854775807 (b.drop k) = .ok (u, c)) : numQ b k false = (u, k + c, false) := by unfold numQ; rw [h]; rfl
theorem numQ_err {b : List UInt8} {k e : Nat} (h : getUpto 9223372036854775807 (b.drop k) = .error e) : numQ b k false = (0, k, true) := by unfold numQ; rw [h]; rfl
theorem numQ_bad (b : List UInt8) (k : Nat) : numQ b k true = (0, k, true) := rfl
theorem upto_cons {b : List UInt8} {k u c : Nat} (h : getUpto 9223372036854775807 (b.drop k) = .ok (u, c)) (hk : k ≤ b.length) : k + c ≤ b.length ∧ 1 ≤ c ∧ u ≤ 9223372036854775807 := by
  obtain ⟨h1, h2⟩ := getUpto_len h
  have := getU_len h1
  rw [List.length_drop] at this
  exact ⟨by omega, by omega, by omega⟩
/-- The document's two numbers ahead. -/
theorem doc_two (b : List UInt8) : ∃ n k1 b1 t k2 b2, numQ b 0 false = (n, k1, b1) ∧ numQ b k1 b1 = (t, k2, b2) ∧ n ≤ 9223372036854775807 ∧ t ≤ 9223372036854775807 ∧ k1 ≤ b.length ∧ k2 ≤ b.length ∧ (b2 = true → docV b = none) ∧
    (b2 = false → docV b = match skQ ((n + 15) / 16) (b.drop k2) with | none => none | some l => lsQ ((n + 15) / 16) (-1) n l) := by
  cases h1 : getUpto 9223372036854775807 (b.drop 0) with
  | error e =>
    refine ⟨0, 0, true, 0, 0, true, numQ_err h1, rfl, by omega, by omega, by omega, by omega, fun _ => ?_, fun h => by cases h⟩
    unfold docV
    rw [List.drop_zero] at h1
    rw [h1]
  | ok y =>
    obtain ⟨n, c1⟩ := y
    obtain ⟨l1, l2, l3⟩ := upto_cons h1 (by omega)
    cases h2 : getUpto 9223372036854775807 (b.drop (0 + c1)) with
    | error e =>
      refine ⟨n, 0 + c1, false, 0, 0 + c1, true, numQ_ok h1, numQ_err h2, l3, by omega, l1, l1, fun _ => ?_, fun h => by cases h⟩
      rw [List.drop_zero] at h1
      rw [Nat.zero_add] at h2
      unfold docV
      rw [h1]; simp only; rw [h2]
    | ok y =>
      obtain ⟨t, c2⟩ := y
      obtain ⟨m1, m2, m3⟩ := upto_cons h2 l1
      refine ⟨n, 0 + c1, false, t, 0 + c1 + c2, false, numQ_ok h1, numQ_ok h2, l3, m3, l1, m1, (fun h => by cases h), fun _ => ?_⟩
      rw [List.drop_zero] at h1
      rw [Nat.zero_add] at h2 ⊢
      unfold docV
      rw [h1]; simp only; rw [h2]; simp only
      rw [List.drop_drop]
      cases skQ ((n + 15) / 16) (b.drop (c1 + c2)) <;> rfl
/-- One pair of numbers. -/
theorem sk_two (b : List UInt8) (k m : Nat) (hk : k ≤ b.length) : ∃ x k1 b1 y k2 b2, numQ b k false = (x, k1, b1) ∧ numQ b k1 b1 = (y, k2, b2) ∧ k1 ≤ b.length ∧ k2 ≤ b.length ∧ (b2 = true → skQ (m + 1) (b.drop k) = none) ∧
    (b2 = false → skQ (m + 1) (b.drop k) = skQ m (b.drop k2) ∧ k + 2 ≤ k2) := by
  cases h1 : getUpto 9223372036854775807 (b.drop k) with
  | error e =>
    refine ⟨0, k, true, 0, k, true, numQ_err h1, rfl, hk, hk, fun _ => ?_, fun h => by cases h⟩
    rw [skQ, h1]
  | ok y =>
    obtain ⟨n, c1⟩ := y
    obtain ⟨l1, l2, l3⟩ := upto_cons h1 hk
    cases h2 : getUpto 9223372036854775807 (b.drop (k + c1)) with
    | error e =>
      refine ⟨n, k + c1, false, 0, k + c1, true, numQ_ok h1, numQ_err h2, l1, l1, fun _ => ?_, fun h => by cases h⟩
      rw [skQ, h1]; simp only; rw [List.drop_drop, h2]
    | ok y =>
      obtain ⟨t, c2⟩ := y
      obtain ⟨m1, m2, m3⟩ := upto_cons h2 l1
      refine ⟨n, k + c1, false, t, k + c1 + c2, false, numQ_ok h1, numQ_ok h2, l1, m1, (fun h => by cases h), fun _ => ⟨?_, by omega⟩⟩
      rw [skQ, h1]; simp only; rw [List.drop_drop, h2]; simp only; rw [List.drop_drop]
def contL (done : List PostV) (o : Option (List PostV)) : Option (List PostV) := o.map fun x => done ++ x
/-- Is the reader bad (0) or not (1)? -/
def badN (w : World) (rp : Nat) : Nat := match w.cell? ⟨rp, 2, none⟩ with
  | some (.bool true) => 0
  | _ => 1
theorem Dr.badN {w : World} {rp : Nat} {sl : Value} {k : Nat} {bad : Bool} (h : Dr w rp sl k bad) : badN w rp = if bad then 0 else 1 := by
  unfold Go.Proofs.YtaijepjhmjjecaaDoor.badN
  rw [show w.cell? ⟨rp, 2, none⟩ = some (.bool bad) from blk_cell h.blk 2]
  cases bad <;> rfl
def slN : Value → Nat
  | .slice _ n _ => n
  | _ => 0
/-- What the document's Decode answers and leaves. -/
def RDecPost (w : World) (b : List UInt8) (e : Ending) (w' : World) : Prop :=
  (∀ r, openV b = some r → ∃ A N C vs, e = .returned (.tuple #[.slice A N C, .int .i64 0]) ∧ RowP w' w.heap.size (.slice A N C) r.bl.flatten vs) ∧ (openV b = none → e = .returned (.tuple #[.slice none 0 0, .int .i64 10])) ∧ Below w.heap.size w w'
theorem open_of_doc {b : List UInt8} {ps : List PostV} (hb : b.length ≤ 31000000) (hd : docV b = some ps) (ok : okV (-1) ps) (he : imageV ps = b) : ∃ r, openV b = some r ∧ r.bl.flatten = ps := by
  have hl := docV_len hd
  have h1 := openV_of ok (hl.fit hb) (by have := hl.t; have := hl.n; omega) (by have := hl.t; omega)
  rw [he] at h1
  exact ⟨_, h1, (chp_flat _ ps (Nat.le_refl _)).1⟩
theorem open_none_doc {b : List UInt8} (hb : b.length ≤ 31000000) (h : ∀ ps, docV b = some ps → okV (-1) ps → imageV ps = b → False) : openV b = none := by
  cases ho : openV b with
  | none => rfl
  | some r =>
    obtain ⟨h1, h2, h3, _⟩ := doc_some31 ho hb
    exact (h _ h1 h2 h3).elim
end Go.Proofs.YtaijepjhmjjecaaDoor
