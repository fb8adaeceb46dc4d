/- posts: pack: the bytes of a block. -/
import Derived.Test.YthnpbfadblcicaaDoorZG3
import Derived.Test.YthnpbfadblcicaaDoorZG9
import Derived.Test.YthnpbfadblcicaaDoorZPacked
import Derived.Test.YthnpbfadblcicaaDoorZG10
namespace Go.Proofs.YthnpbfadblcicaaDoor
set_option linter.unusedVariables false
open Go.ChangeShapes Go.WideShapes Go.ChangeAt Go.RowKit

def zer8 (n : Nat) : List Value := List.replicate n (.int .i64 0)
theorem zer8_length (n : Nat) : (zer8 n).length = n := by simp [zer8]
theorem madeZer8 (n : Nat) : madeCells #[.int .i64 0] n = (zer8 n).toArray := by
  refine Array.ext (by rw [size_madeCells]; simp [zer8]) fun i h1 h2 => ?_
  simp [madeCells, zer8, Nat.mod_one]
theorem natI_snoc (l : List Nat) (x : Nat) : natI (l ++ [x]) = natI l ++ [(x : Int)] := by simp [natI]
theorem zer8_set (l : List Nat) (n i x : Nat) (hl : l.length = i) (h : i < n) : (intL (natI l) ++ zer8 (n - i)).set i (.int .i64 (x : Nat)) = intL (natI (l ++ [x])) ++ zer8 (n - (i + 1)) := by
  have h1 : (intL (natI l)).length = i := by rw [intL_length, natI_length, hl]
  rw [List.set_append_right _ _ (by omega), h1, Nat.sub_self, natI_snoc, intL_append, List.append_assoc]
  congr 1
  rw [show n - i = (n - (i + 1)) + 1 by omega]
  simp [zer8, List.replicate_succ, intL]
theorem pck_case (l : List Nat) (h : l.length ≤ 16) : l = [] ∨ (0 < l.length ∧ widL l = 0 ∧ l.length ≤ 65536) ∨ (0 < l.length ∧ 0 < widL l) := by
  rcases Nat.eq_zero_or_pos l.length with e | e
  · exact .inl (List.eq_nil_of_length_eq_zero e)
  · rcases Nat.eq_zero_or_pos (widL l) with e2 | e2
    · exact .inr (.inl ⟨e, e2, by omega⟩)
    · exact .inr (.inr ⟨e, e2⟩)
set_option maxRecDepth 100000 in
set_option maxHeartbeats 4000000 in
theorem pack_any (w : World) (a : Option Addr) (n c : Nat) (ps : List PostV) (hr : RdPost w a n ps) (hf : FitP ps) (base : Int) (hb0 : -1 ≤ base) (hb1 : base < 2147483647) (ok : okV base ps) (hl : ps.length ≤ 16) (hT : totalV ps ≤ 20000000) :
    Calls Tryd.prog 33 #[.slice a n c, .int .i64 base] w fun e w' => ∃ v, e = .returned v ∧ Own w' w.heap.size 5 v (bytesV (blockB base ps)) ∧ Below w.heap.size w w' := by
  obtain rfl := hr.1
  have C1 := nw_any w
  have hmk := fun W => make_row (P := Tryd.prog) elInts rfl ps.length (by omega) (ps.length : Int) rfl W
  have HR := Lib.hid hr
  have HF := Lib.hid hf
  have HOK := Lib.hid ok
  clear hr hf ok
  go_enter Tryd.func33, Tryd.ntmps33
  go_wp2_with fail
  refine C1.mono ?_
  rintro e w1 ⟨rfl, rfl⟩
  clear C1
  have hwr := wr_new w
  have hbw : Below w.heap.size w (w.alloc (.cells #[.slice none 0 0] 100)) := (Below.refl _ w).alloc (Nat.le_refl _) _
  generalize w.alloc (.cells #[.slice none 0 0] 100) = w1 at hwr hbw ⊢
  have HWR := Lib.hid hwr
  have HBW := Lib.hid hbw
  clear hwr hbw
  go_upto_region 2 with fail
  go_cut [6, 7] (fun s6 s7 wx => ∃ (d f : Nat), s6 = .slice (some ⟨d, 0, none⟩) ps.length ps.length ∧ s7 = .slice (some ⟨f, 0, none⟩) ps.length ps.length ∧ d ≠ f ∧ Own wx w.heap.size 3 (.slice (some ⟨d, 0, none⟩) ps.length ps.length) (zer8 ps.length) ∧ Own wx w.heap.size 3 (.slice (some ⟨f, 0, none⟩) ps.length ps.length) (zer8 ps.length) ∧ Wr wx w.heap.size w.heap.size (.slice none 0 0) [] ∧ Below w.heap.size w wx)
  case first =>
    have ho1 : ∀ W : World, w.heap.size ≤ W.heap.size → Own (W.alloc (.cells (madeCells #[.int .i64 0] ps.length) 3)) w.heap.size 3 (.slice (some ⟨W.heap.size, 0, none⟩) ps.length ps.length) (zer8 ps.length) := fun W h => by
      have h1 := own_lit W w.heap.size 3 (zer8 ps.length) h (by rw [zer8_length]; unfold maxLen; omega)
      rw [zer8_length] at h1
      rw [madeZer8]; exact h1
    have hz1 := HBW.out.size
    have hA := ((ho1 w1 hz1).alloc (.cells (madeCells #[.int .i64 0] ps.length) 3)).drew
    have hB := (ho1 (w1.alloc (.cells (madeCells #[.int .i64 0] ps.length) 3)) (by simp; omega)).drew
    rw [World.size_alloc] at hB
    have hW := (HWR.out.eff (F := fun _ => False) (((Eff.refl _ w1).alloc (.cells (madeCells #[.int .i64 0] ps.length) 3)).alloc (.cells (madeCells #[.int .i64 0] ps.length) 3)) (fun _ _ f => f)).drewN 1
    have hBB := ((HBW.out.alloc hz1 (.cells (madeCells #[.int .i64 0] ps.length) 3)).alloc (by simp; omega) (.cells (madeCells #[.int .i64 0] ps.length) 3)).drew
    have HA := Lib.hid hA
    have HB := Lib.hid hB
    have HW := Lib.hid hW
    have HBB := Lib.hid hBB
    clear ho1 hA hB hW hBB
    go_region
    all_goals go_wp2
    all_goals go_meet
    · exact ⟨w1.heap.size, w1.heap.size + 1, rfl, rfl, by omega, HA.out, HB.out, HW.out, HBB.out⟩
    · exact ⟨w1.heap.size + 1, w1.heap.size, rfl, rfl, by omega, HB.out, HA.out, HW.out, HBB.out⟩
  case rest =>
  obtain ⟨d, f, rfl, rfl, hdf, hod, hof, hwr, hb⟩ := hcut
  have HOD := Lib.hid hod
  have HOF := Lib.hid hof
  have HWR2 := Lib.hid hwr
  have HB := Lib.hid hb
  clear hod hof hwr hb hmk HWR HBW
  go_wp2
  go_loopw [1, 23] (fun s1 s23 wr => ∃ (i : Nat), s1 = .int .i64 (lastV base (ps.take i)) ∧ s23 = .int .i64 i ∧ i ≤ ps.length ∧
      Own wr w.heap.size 3 (.slice (some ⟨d, 0, none⟩) ps.length ps.length) (intL (natI (gapsD base (ps.take i))) ++ zer8 (ps.length - i)) ∧ Own wr w.heap.size 3 (.slice (some ⟨f, 0, none⟩) ps.length ps.length) (intL (natI (freqV (ps.take i))) ++ zer8 (ps.length - i)) ∧
      Wr wr w.heap.size w.heap.size (.slice none 0 0) [] ∧ Below w.heap.size w wr) (fun _ s23 _ => ps.length - (intOf s23).toNat)
  case atStart => exact ⟨0, rfl, rfl, Nat.zero_le _, HOD.out, HOF.out, HWR2.out, HB.out⟩
  case round =>
    clear HOD HOF HWR2 HB
    obtain ⟨i, rfl, rfl, hi, hod, hof, hwr, hb⟩ := hrel
    by_cases hlt : i < ps.length
    · obtain ⟨b, o, rfl, hg⟩ := (HR.out.below hb (Nat.le_refl _)).2 (by omega)
      obtain ⟨g0, A, C, g1, _⟩ := hg i hlt
      have hgood := goodV_ok (okV_get HOK.out i hlt)
      have hla := okV_ge (okV_split HOK.out i).1 hb0
      have htk : ps.take (i + 1) = ps.take i ++ [ps[i]] := List.take_succ_eq_append_getElem hlt
      have hgs := gapsD_snoc base (ps.take i) ps[i]
      have hfs := freqV_snoc (ps.take i) ps[i]
      have hls := lastV_snoc base (ps.take i) ps[i]
      have hgl : (gapsD base (ps.take i)).length = i := by rw [gapsD_length, List.length_take]; omega
      have hfl : (freqV (ps.take i)).length = i := by rw [freqV_length, List.length_take]; omega
      have hpf := (HF.out ps[i] (List.getElem_mem hlt)).2.2
      rw [← htk] at hgs hfs hls
      have hpl : 0 < ps[i].pos.length := List.length_pos_iff.2 hgood.2.2.2.1
      obtain ⟨x, hx⟩ : ∃ x, ps[i] = x := ⟨_, rfl⟩
      rw [hx] at g0 g1 hgood hgs hfs hls hpf hpl
      obtain ⟨doc, pos⟩ := x
      simp only at g0 g1 hgood hgs hfs hls hpf hpl
      obtain ⟨L, hL⟩ : ∃ L, lastV base (ps.take i) = L := ⟨_, rfl⟩
      rw [hL] at hgood hla hgs
      rw [hL]
      obtain ⟨gp, hgp⟩ : ∃ gp, (doc - L - 1).toNat = gp := ⟨_, rfl⟩
      obtain ⟨fq, hfq⟩ : ∃ fq, pos.length - 1 = fq := ⟨_, rfl⟩
      rw [hgp] at hgs
      rw [hfq] at hfs
      obtain ⟨D1, hD1⟩ : ∃ D1, doc - L = D1 := ⟨_, rfl⟩
      have s1 : IntKind.i64.wrap (doc - L) = D1 := by rw [IntKind.wrap_i64]; omega
      have s2 : IntKind.i64.wrap (D1 - 1) = (gp : Int) := by rw [IntKind.wrap_i64]; omega
      have s3 : IntKind.i64.wrap ((pos.length : Int) - 1) = (fq : Int) := by rw [IntKind.wrap_i64]; omega
      have hzi : ∀ (l : List Nat), l.length = i → (intL (natI l) ++ zer8 (ps.length - i))[i]? = some (.int .i64 0) := fun l h => by
        have h1 : (intL (natI l)).length = i := by rw [intL_length, natI_length, h]
        rw [List.getElem?_append_right (by omega), h1, Nat.sub_self]
        unfold zer8
        rw [List.getElem?_replicate, if_pos (by omega)]
      have cd := hod.get (hzi _ hgl)
      have cf := hof.get (hzi _ hfl)
      have zd := hod.frozen i
      have zf := hof.frozen i
      have hdl : d < wr.heap.size := (hod.lt d rfl).2
      have hfl2 : f < wr.heap.size := (hof.lt f rfl).2
      have hdw : d ≠ w.heap.size := fun e => hod.ne_type hwr.blk (by decide) (by rw [e]; rfl)
      have hfw : f ≠ w.heap.size := fun e => hof.ne_type hwr.blk (by decide) (by rw [e]; rfl)
      have hd1 := own_to (hod.set i (.int .i64 (gp : Nat))) (ys := intL (natI (gapsD base (ps.take (i + 1)))) ++ zer8 (ps.length - (i + 1))) (by rw [hgs]; exact zer8_set _ _ _ _ hgl hlt)
      have hf1 := hof.setOther (p := ⟨d, i, none⟩) (fun e => hdf (by simpa [Value.ownBlock] using e.symm)) (.int .i64 (gp : Nat))
      have hf2 := own_to (hf1.set i (.int .i64 (fq : Nat))) (ys := intL (natI (freqV (ps.take (i + 1)))) ++ zer8 (ps.length - (i + 1))) (by rw [hfs]; exact zer8_set _ _ _ _ hfl hlt)
      have hd2 := hd1.setOther (p := ⟨f, i, none⟩) (fun e => hdf (by simpa [Value.ownBlock] using e)) (.int .i64 (fq : Nat))
      have hw2 := hwr.eff (F := fun k => k = d ∨ k = f) (((Eff.refl (fun k => k = d ∨ k = f) wr).setCell (p := ⟨d, i, none⟩) (fun _ => .inl rfl) (.int .i64 (gp : Nat))).setCell (p := ⟨f, i, none⟩) (fun _ => .inr rfl) (.int .i64 (fq : Nat))) (fun k hk hF => by
        rcases hk with rfl | hk
        · rcases hF with e | e
          · exact hdw e.symm
          · exact hfw e.symm
        · simp [Value.ownBlock] at hk)
      have hb2 := (hb.setCell (p := ⟨d, i, none⟩) (hod.lt d rfl).1 (.int .i64 (gp : Nat))).setCell (p := ⟨f, i, none⟩) (hof.lt f rfl).1 (.int .i64 (fq : Nat))
      have i1 : (i : Int) < (ps.length : Int) := by omega
      obtain ⟨o1, ho1⟩ : ∃ o1, o1 = Obj.cells #[.int .i64 doc, .slice A pos.length C] 53 := ⟨_, rfl⟩
      have HD2 := Lib.hid (hd2.alloc o1)
      have HF2 := Lib.hid (hf2.alloc o1)
      have HW2 := Lib.hid (hw2.eff (F := fun _ => False) ((Eff.refl _ _).alloc o1) (fun _ _ f => f))
      have HB2 := Lib.hid (hb2.alloc hb2.size o1)
      subst ho1
      have HLS := Lib.hid hls
      clear hd1 hf1 hf2 hd2 hw2 hb2 hzi hgl hfl hgs hfs hls hg hx hL hgp hfq hD1 hod hof hwr hb htk hgood hla
      go_wp2
      go_roundw
      case rel => exact ⟨i + 1, by rw [HLS.out], by go_num, by omega, HD2.out, HF2.out, HW2.out, HB2.out⟩
      case measure => simp [intOf]; omega
    · obtain rfl : i = ps.length := by omega
      have i1 : ¬ ((ps.length : Int) < (ps.length : Int)) := by omega
      rw [List.take_length, Nat.sub_self, show zer8 0 = [] from rfl, List.append_nil] at hod hof
      have hgl := gapsD_length base ps
      have hfl := freqV_length ps
      have hdw : d ≠ w.heap.size := fun e => hod.ne_type hwr.blk (by decide) (by rw [e]; rfl)
      have hfw : f ≠ w.heap.size := fun e => hof.ne_type hwr.blk (by decide) (by rw [e]; rfl)
      have C2 := wpck_ok wr w.heap.size w.heap.size (.slice none 0 0) [] hwr hb.size (by simp) (some ⟨d, 0, none⟩) ps.length ps.length (gapsD base ps) hod.rd (by omega) (gapsD_fits HOK.out hb0) (pck_case _ (by omega)) (fun _ b o e => by
        injection e with e; injection e with e _ _; subst e
        rintro (h9 | h9)
        · exact hdw h9
        · simp [Value.ownBlock] at h9)
      have HOF := Lib.hid hof
      have HWR := Lib.hid hwr
      have HB := Lib.hid hb
      obtain ⟨LL, hLL⟩ : ∃ LL, lastV base (ps.take ps.length) = LL := ⟨_, rfl⟩
      rw [hLL]
      clear hod hof hwr hb hlt hi hLL
      go_wp2_with fail
      refine C2.mono ?_
      rintro e w2 ⟨rfl, v2, hw2, hwt2⟩
      clear C2
      rw [List.nil_append] at hw2
      have hb2 := HB.out.trans (hwt2.below HWR.out HB.out.size)
      have hf2 := HOF.out.eff hwt2.eff (fun k hk hF => by
        have hk : f = k := by simpa [Value.ownBlock] using hk
        subst hk
        rcases hF with h9 | h9
        · exact hfw h9
        · simp [Value.ownBlock] at h9)
      have hp1 := pckB_le (l := gapsD base ps) (by omega) (gapsD_fits HOK.out hb0)
      have C3 := wpck_ok w2 w.heap.size w.heap.size v2 (pckB (gapsD base ps)) hw2 hb2.size (by omega) (some ⟨f, 0, none⟩) ps.length ps.length (freqV ps) hf2.rd (by omega) (freqV_fits HF.out) (pck_case _ (by omega)) (fun _ b o e => by
        injection e with e; injection e with e _ _; subst e
        rintro (h9 | h9)
        · exact hfw h9
        · exact own_types hf2 hw2.own (by decide) (k := f) rfl h9)
      have HW2 := Lib.hid hw2
      have HB2 := Lib.hid hb2
      clear hw2 hwt2 hb2 hf2 HOF HWR HB
      go_wp2_with fail
      refine C3.mono ?_
      rintro e w3 ⟨rfl, v3, hw3, hwt3⟩
      clear C3
      have hb3 := HB2.out.trans (hwt3.below HW2.out HB2.out.size)
      have hp2 := pckB_le (l := freqV ps) (by omega) (freqV_fits HF.out)
      obtain ⟨PRE, hPRE⟩ : ∃ PRE, pckB (gapsD base ps) ++ pckB (freqV ps) = PRE := ⟨_, rfl⟩
      rw [hPRE] at hw3
      have hprel : PRE.length ≤ 280 := by rw [← hPRE, List.length_append]; omega
      have HW3 := Lib.hid hw3
      have HB3 := Lib.hid hb3
      have HPRE := Lib.hid hPRE
      clear hw3 hwt3 hb3 hPRE HW2 HB2 hgl hfl
      go_wp2
      obtain ⟨wo, rfl⟩ : ∃ wo : World, wo = wr := ⟨_, rfl⟩
      go_loopw [54] (fun s54 wr => ∃ (i : Nat) (v : Value), s54 = .int .i64 i ∧ i ≤ ps.length ∧ Wr wr w.heap.size w.heap.size v (PRE ++ tailV (ps.take i)) ∧ Below w.heap.size w wr) (fun s54 _ => ps.length - (intOf s54).toNat)
      case atStart => exact ⟨0, v3, rfl, Nat.zero_le _, by simpa [tailV] using HW3.out, HB3.out⟩
      case round =>
        clear i1 HW3 HB3 v3
        obtain ⟨i, v, rfl, hi, hw, hb⟩ := hrel
        by_cases hlt : i < ps.length
        · obtain ⟨b, o, rfl, hg⟩ := HR.out.2 (by omega)
          obtain ⟨g0w, A, C, g1w, hrdw⟩ := hg i hlt
          have hgood := goodV_ok (okV_get HOK.out i hlt)
          have hpf := HF.out ps[i] (List.getElem_mem hlt)
          have htk : ps.take (i + 1) = ps.take i ++ [ps[i]] := List.take_succ_eq_append_getElem hlt
          have hts := tailV_snoc (ps.take i) ps[i]
          rw [← htk] at hts
          have htl := tailV_le (HF.out.take i) (okV_split HOK.out i).1
          have hto := totalV_split ps i
          have hbl0 : b < w.heap.size := World.block_lt_of_cell? w _ g0w
          have g0 := g0w
          have g1 := g1w
          rw [← hb.cell (p := ⟨b, o + i * 2, none⟩) hbl0] at g0
          rw [← hb.cell (p := ⟨b, o + i * 2 + 1, none⟩) hbl0] at g1
          obtain ⟨x, hx⟩ : ∃ x, ps[i] = x := ⟨_, rfl⟩
          rw [hx] at g0 g1 hrdw hgood hpf hts
          obtain ⟨doc, pos⟩ := x
          simp only at g0 g1 hrdw hgood hpf hts
          obtain ⟨Q, hQ⟩ : ∃ Q, PRE ++ tailV (ps.take i) = Q := ⟨_, rfl⟩
          have hQl : Q.length ≤ 1000000000 := by rw [← hQ, List.length_append]; omega
          have hQn : Q ++ gapsB (-1) pos = PRE ++ tailV (ps.take (i + 1)) := by rw [hts, ← hQ, List.append_assoc]
          rw [hQ] at hw
          have i1 : (i : Int) < (ps.length : Int) := by omega
          have hwA := hw.eff (F := fun _ => False) ((Eff.refl _ wr).alloc (.cells #[.int .i64 doc, .slice A pos.length C] 53)) (fun _ _ f => f)
          have hbA := hb.alloc hb.size (.cells #[.int .i64 doc, .slice A pos.length C] 53)
          have e1 := heap_alloc_new wr (.cells #[.int .i64 doc, .slice A pos.length C] 53)
          have hsz := hb.size
          have HWA := Lib.hid hwA
          have HBA := Lib.hid hbA
          have HE1 := Lib.hid e1
          have HRD := Lib.hid hrdw
          have HQN := Lib.hid hQn
          have HGOOD := Lib.hid hgood
          have HPF := Lib.hid hpf
          have hpl : pos.length ≤ 31000000 := hpf.2.2
          clear hg hx hw hb hwA hbA e1 hrdw hQn hgood hpf htk hts htl hto g0w g1w hQ
          go_wp2
          obtain ⟨wp, rfl⟩ : ∃ wp : World, wp = wr := ⟨_, rfl⟩
          clear g0 g1
          go_loopw [61] (fun s61 wr => ∃ (j : Nat) (v : Value), s61 = .int .i64 j ∧ j ≤ pos.length ∧ Wr wr w.heap.size w.heap.size v (Q ++ gapsB (-1) (pos.take j)) ∧ Below w.heap.size w wr ∧ wr.heap[wp.heap.size]? = some (.cells #[.int .i64 doc, .slice A pos.length C] 53 (0, 0))) (fun s61 _ => pos.length - (intOf s61).toNat)
          case atStart => exact ⟨0, _, rfl, Nat.zero_le _, by simpa [gapsB] using HWA.out, HBA.out, HE1.out⟩
          case round =>
            clear HWA HBA HE1
            obtain ⟨j, v, rfl, hj, hw, hb, he⟩ := hrel
            by_cases hlt2 : j < pos.length
            · obtain ⟨_, hgp⟩ := rd_get (HRD.out.below hb (Nat.le_refl _))
              obtain ⟨b2, o2, rfl, hc⟩ := hgp (by omega)
              have hx := hc j hlt2
              have c1 := blk_cell he 1
              have j1 : (j : Int) < (pos.length : Int) := by omega
              have hnn : ∀ (k : Nat) (h : k < pos.length), 0 ≤ pos[k] := fun k h => by
                have := List.any_eq_false.1 HGOOD.out.2.2.2.2.1 pos[k] (List.getElem_mem h)
                simpa using this
              have hfx := HPF.out.2.1 pos[j] (List.getElem_mem hlt2)
              have hsn := gapsB_snoc (-1) (pos.take j) pos[j]
              rw [← take_one hlt2] at hsn
              have hn0 := hnn j hlt2
              have hlast := last_lt HGOOD.out.2.2.2.2.1 HGOOD.out.2.2.2.2.2 j hlt2
              have hgle := gapsB_le (l := pos.take j) (fun z hz => HPF.out.2.1 z (List.mem_of_mem_take hz)) (-1) (by omega) (fun z hz => by
                obtain ⟨k, hk, rfl⟩ := List.mem_iff_getElem.1 hz
                rw [List.getElem_take]; exact hnn k _)
              rw [List.length_take] at hgle
              obtain ⟨x, hxx⟩ : ∃ x, pos[j] = x := ⟨_, rfl⟩
              rw [hxx] at hx hfx hsn hn0 hlast
              by_cases hj0 : 0 < j
              · have t0 : decide (0 < j) = true := decide_eq_true hj0
                obtain ⟨k, hk⟩ : ∃ k, k + 1 = j := ⟨j - 1, by omega⟩
                have hy := hc k (by omega)
                have hla := last_at hlt2 hj0
                have hfy := HPF.out.2.1 (pos[k]'(by omega)) (List.getElem_mem _)
                have hkk : pos[j - 1]'(by omega) = pos[k]'(by omega) := by congr 1; omega
                rw [hla, hkk] at hsn hlast
                obtain ⟨y, hyy⟩ : ∃ y, pos[k]'(by omega) = y := ⟨_, rfl⟩
                rw [hyy] at hy hsn hlast hfy
                have hy0 : 0 ≤ y := by rw [← hyy]; exact hnn k _
                obtain ⟨m, hm⟩ : ∃ m, (x - y - 1).toNat = m := ⟨_, rfl⟩
                rw [hm] at hsn
                have i2 : (k : Int) < (pos.length : Int) := by omega
                have s0 : IntKind.i64.wrap ((j : Int) - 1) = (k : Int) := by rw [IntKind.wrap_i64]; omega
                obtain ⟨y1, hy1⟩ : ∃ y1, y + 1 = y1 := ⟨_, rfl⟩
                have s1 : IntKind.i64.wrap (y + 1) = y1 := by rw [IntKind.wrap_i64]; omega
                have s2 : IntKind.i64.wrap (x - y1) = (m : Int) := by rw [IntKind.wrap_i64]; omega
                have s3 : IntKind.u64.wrap (m : Int) = (m : Int) := by rw [IntKind.wrap_u64]; omega
                have C5 := wuv_any wr w.heap.size w.heap.size v (Q ++ gapsB (-1) (pos.take j)) hw hb.size (by rw [List.length_append]; omega) m (by omega)
                have HW := Lib.hid hw
                have HB := Lib.hid hb
                have HE := Lib.hid he
                have HSN := Lib.hid hsn
                clear hw hb he hsn hla hfy hkk hyy hlast hxx hfx hgle hnn hm hy1 hk hc hgp
                go_wp2_with fail
                refine C5.mono ?_
                rintro e w5 ⟨rfl, v5, hw5, hwt5⟩
                clear C5 s0 s1 s2 s3 hx hy c1
                rw [List.append_assoc, ← HSN.out] at hw5
                have hb5 := HB.out.trans (hwt5.below HW.out HB.out.size)
                have he5 := (hwt5.eff.block wp.heap.size (lt_of_heap HE.out) (fun hF => by
                  rcases hF with h9 | h9
                  · have h8 := HW.out.blk; rw [← h9, HE.out] at h8; cases h8
                  · exact HW.out.own.ne_type HE.out (by decide) h9)).trans HE.out
                have HW5 := Lib.hid hw5
                have HB5 := Lib.hid hb5
                have HE5 := Lib.hid he5
                clear hw5 hwt5 hb5 he5
                go_wp2
                go_roundw
                case rel => exact ⟨j + 1, v5, by go_num, by omega, HW5.out, HB5.out, HE5.out⟩
                case measure => simp [intOf]; omega
              · obtain rfl : j = 0 := by omega
                have t0 : decide ((0 : Int) < ((0 : Nat) : Int)) = false := rfl
                have t00 : decide (0 < 0) = false := rfl
                rw [Nat.add_zero] at hx
                rw [show (pos.take 0).getLastD (-1) = -1 from rfl] at hsn
                obtain ⟨m, hm⟩ : ∃ m, (x - -1 - 1).toNat = m := ⟨_, rfl⟩
                rw [hm] at hsn
                obtain rfl : x = (m : Int) := by omega
                have s3 : IntKind.u64.wrap (m : Int) = (m : Int) := by rw [IntKind.wrap_u64]; omega
                have C5 := wuv_any wr w.heap.size w.heap.size v (Q ++ gapsB (-1) (pos.take 0)) hw hb.size (by rw [List.length_append]; omega) m (by omega)
                have HW := Lib.hid hw
                have HB := Lib.hid hb
                have HE := Lib.hid he
                have HSN := Lib.hid hsn
                clear hw hb he hsn hlast hxx hfx hgle hnn hm hc hgp
                go_wp2_with fail
                refine C5.mono ?_
                rintro e w5 ⟨rfl, v5, hw5, hwt5⟩
                clear C5 s3 hx c1
                rw [List.append_assoc, ← HSN.out] at hw5
                have hb5 := HB.out.trans (hwt5.below HW.out HB.out.size)
                have he5 := (hwt5.eff.block wp.heap.size (lt_of_heap HE.out) (fun hF => by
                  rcases hF with h9 | h9
                  · have h8 := HW.out.blk; rw [← h9, HE.out] at h8; cases h8
                  · exact HW.out.own.ne_type HE.out (by decide) h9)).trans HE.out
                have HW5 := Lib.hid hw5
                have HB5 := Lib.hid hb5
                have HE5 := Lib.hid he5
                clear hw5 hwt5 hb5 he5
                go_wp2
                go_roundw
                case rel => exact ⟨0 + 1, v5, by go_num, by omega, HW5.out, HB5.out, HE5.out⟩
                case measure => simp [intOf]; omega
            · obtain rfl : j = pos.length := by omega
              have j1 : ¬ ((pos.length : Int) < (pos.length : Int)) := by omega
              rw [List.take_length, HQN.out] at hw
              have HW := Lib.hid hw
              have HB := Lib.hid hb
              clear hw hb he hlt2 hj
              go_wp2
              go_roundw
              case rel => exact ⟨i + 1, v, by go_num, by omega, HW.out, HB.out⟩
              case measure => simp [intOf]; omega
        · obtain rfl : i = ps.length := by omega
          have i1 : ¬ ((ps.length : Int) < (ps.length : Int)) := by omega
          rw [List.take_length] at hw
          have hbl := blockB_le HF.out HOK.out hb0 hl
          have heq : PRE ++ tailV ps = blockB base ps := by rw [← HPRE.out]; unfold blockB; rw [List.append_assoc]
          rw [heq] at hw
          have C4 := wbytes_any wr w.heap.size w.heap.size v (blockB base ps) hw (by omega)
          have HB := Lib.hid hb
          clear hw hb hlt hi heq hbl
          go_wp2_with fail
          refine C4.mono ?_
          rintro e w4 ⟨v4, rfl, ho4, hb4⟩
          clear C4
          have HO4 := Lib.hid (own_base ho4 HB.out.size)
          have HB4 := Lib.hid (HB.out.trans (hb4.mono HB.out.size))
          clear ho4 hb4
          go_wp2
          go_ret
          exact ⟨_, rfl, HO4.out, HB4.out⟩
end Go.Proofs.YthnpbfadblcicaaDoor
