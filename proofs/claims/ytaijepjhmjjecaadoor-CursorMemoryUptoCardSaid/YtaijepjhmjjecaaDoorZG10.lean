/- Merged: RBlk8, WRaw, Enc8A, Encode. -/
import Derived.Test.YtaijepjhmjjecaaDoorZG8
import Derived.Test.YtaijepjhmjjecaaDoorZG9
import Derived.Test.YtaijepjhmjjecaaDoorZG9
import Derived.Test.YtaijepjhmjjecaaDoorZG1
import Derived.Test.YtaijepjhmjjecaaDoorZG5
/- posts: the document's block. -/
namespace Go.Proofs.YtaijepjhmjjecaaDoor
set_option linter.unusedVariables false
open Go.ChangeShapes Go.WideShapes Go.ChangeAt Go.RowKit

/-- The three lists of the document's block. -/
structure Tri (w W : World) (G F T : Value) (gl fl : List Nat) (tl : List UInt8) : Prop where
  g : Own W w.heap.size 3 G (intL (natI gl))
  f : Own W w.heap.size 3 F (intL (natI fl))
  t : Own W w.heap.size 5 T (bytesV tl)
  ap : ∀ k, G.ownBlock = some k → F.ownBlock ≠ some k
  below : Below w.heap.size w W
theorem Tri.alloc {w W : World} {G F T : Value} {gl fl : List Nat} {tl : List UInt8} (h : Tri w W G F T gl fl tl) (o : Obj) : Tri w (W.alloc o) G F T gl fl tl :=
  ⟨h.g.alloc o, h.f.alloc o, h.t.alloc o, h.ap, h.below.alloc h.below.size o⟩
theorem Tri.step {w W W' : World} {G F T : Value} {gl fl : List Nat} {tl : List UInt8} (h : Tri w W G F T gl fl tl) (hb : Below W.heap.size W W') : Tri w W' G F T gl fl tl :=
  ⟨h.g.below hb (Nat.le_refl _), h.f.below hb (Nat.le_refl _), h.t.below hb (Nat.le_refl _), h.ap, h.below.trans (hb.mono h.below.size)⟩
theorem Tri.putG {w W W' : World} {G F T G' : Value} {gl fl : List Nat} {tl : List UInt8} (h : Tri w W G F T gl fl tl) (x n : Nat) (g1 : Own W' w.heap.size 3 G' (intL (natI gl) ++ [.int .i64 (x : Nat)])) (g2 : Keeps W W' G n) (g3 : G'.ownBlock = G.ownBlock ∨ (G'.ownBlock = some (W.heap.size + 1) ∧ Below W.heap.size W W')) (g4 : W.grownBy W' G.ownBlock) :
    Tri w W' G' F T (gl ++ [x]) fl tl :=
  ⟨own_to g1 (by rw [natI_snoc, intL_append]; rfl), g2 _ _ _ _ h.f (fun k h1 h2 => absurd h2 (h.ap k h1)), g2 _ _ _ _ h.t (fun k h1 h2 => absurd h2 (own_types h.g h.t (by decide) h1)), fun k h1 h2 => by
    rcases g3 with g3 | ⟨g3, _⟩
    · exact h.ap k (g3 ▸ h1) h2
    · rw [g3] at h1; injection h1 with h1; have := (h.f.lt k h2).2; omega, h.below.grown g4 h.below.size (fun k hk => (h.g.lt k hk).1)⟩
theorem Tri.putF {w W W' : World} {G F T F' : Value} {gl fl : List Nat} {tl : List UInt8} (h : Tri w W G F T gl fl tl) (x n : Nat) (g1 : Own W' w.heap.size 3 F' (intL (natI fl) ++ [.int .i64 (x : Nat)])) (g2 : Keeps W W' F n) (g3 : F'.ownBlock = F.ownBlock ∨ (F'.ownBlock = some (W.heap.size + 1) ∧ Below W.heap.size W W')) (g4 : W.grownBy W' F.ownBlock) :
    Tri w W' G F' T gl (fl ++ [x]) tl :=
  ⟨g2 _ _ _ _ h.g (fun k h1 h2 => absurd h1 (h.ap k h2)), own_to g1 (by rw [natI_snoc, intL_append]; rfl), g2 _ _ _ _ h.t (fun k h1 h2 => absurd h2 (own_types h.f h.t (by decide) h1)), fun k h1 h2 => by
    rcases g3 with g3 | ⟨g3, _⟩
    · exact h.ap k h1 (g3 ▸ h2)
    · rw [g3] at h2; injection h2 with h2; have := (h.g.lt k h1).2; omega, h.below.grown g4 h.below.size (fun k hk => (h.f.lt k hk).1)⟩
theorem Tri.putT {w W W' : World} {G F T T' : Value} {gl fl : List Nat} {tl cs : List UInt8} (h : Tri w W G F T gl fl tl) (n : Nat) (g1 : Own W' w.heap.size 5 T' (bytesV tl ++ bytesV cs)) (g2 : Keeps W W' T n) (g4 : W.grownBy W' T.ownBlock) :
    Tri w W' G F T' gl fl (tl ++ cs) :=
  ⟨g2 _ _ _ _ h.g (fun k h1 h2 => absurd h2 (own_types h.t h.g (by decide) h1)), g2 _ _ _ _ h.f (fun k h1 h2 => absurd h2 (own_types h.t h.f (by decide) h1)), own_to g1 (bytesV_append _ _).symm, h.ap, h.below.grown g4 h.below.size (fun k hk => (h.t.lt k hk).1)⟩
theorem tri_new (w : World) : Tri w (((w.alloc (.cells #[] 3)).alloc (.cells #[] 3)).alloc (.cells #[] 5)) (.slice (some ⟨w.heap.size, 0, none⟩) 0 0) (.slice (some ⟨w.heap.size + 1, 0, none⟩) 0 0) (.slice (some ⟨w.heap.size + 1 + 1, 0, none⟩) 0 0) [] [] [] := by
  have h1 := ((own_empty w w.heap.size 3 (Nat.le_refl _)).alloc (.cells #[] 3)).alloc (.cells #[] 5)
  have h2 := (own_empty (w.alloc (.cells #[] 3)) w.heap.size 3 (by simp)).alloc (.cells #[] 5)
  have h3 := own_empty ((w.alloc (.cells #[] 3)).alloc (.cells #[] 3)) w.heap.size 5 (by simp; omega)
  rw [World.size_alloc] at h2
  rw [World.size_alloc, World.size_alloc] at h3
  exact ⟨h1, h2, h3, fun k h1 h2 => by simp [Value.ownBlock] at h1 h2; omega, (((Below.refl _ w).alloc (Nat.le_refl _) _).alloc (by simp) _).alloc (by simp; omega) _⟩
theorem pckN_small {l : List Nat} (h : l.length ≤ 65536) : pckN l = (pckB l, 0) := by
  unfold pckN; rw [if_neg (by rintro ⟨_, _, h3⟩; omega)]
set_option maxRecDepth 100000 in
set_option maxHeartbeats 8000000 in
theorem rblk8_any (w : World) (a : Option Addr) (n c : Nat) (ps : List PostV) (hr : RdPost w a n ps) (hf : FitP ps) (base : Int) (hb0 : -1 ≤ base) (hb1 : base < 2147483647) (ok : okV base ps) (hl : ps.length ≤ 16) (hT : totalV ps ≤ 31000000) :
    Calls Tryd.prog 81 #[.slice a n c, .int .i64 base] w fun e w' => ∃ v, e = .returned v ∧ Own w' w.heap.size 5 v (bytesV (blockB base ps)) ∧ Below w.heap.size w w' := by
  obtain rfl := hr.1
  have h3 := tri_new w
  have HR := Lib.hid hr
  have HF := Lib.hid hf
  have HOK := Lib.hid ok
  clear hr hf ok
  go_enter Tryd.func81, Tryd.ntmps81
  go_wp2
  generalize ((w.alloc (.cells #[] 3)).alloc (.cells #[] 3)).alloc (.cells #[] 5) = w1 at h3 ⊢
  have H3 := Lib.hid h3
  clear h3
  go_loopw [1, 5, 6, 7, 22] (fun s1 s5 s6 s7 s22 wr => ∃ (i : Nat) (A1 A2 A3 : Option Addr) (N1 N2 N3 C1 C2 C3 : Nat), s1 = .int .i64 (lastV base (ps.take i)) ∧ s5 = .slice A1 N1 C1 ∧ s6 = .slice A2 N2 C2 ∧ s7 = .slice A3 N3 C3 ∧ s22 = .int .i64 i ∧ i ≤ ps.length ∧
      Tri w wr (.slice A1 N1 C1) (.slice A2 N2 C2) (.slice A3 N3 C3) (gapsD base (ps.take i)) (freqV (ps.take i)) (tailV (ps.take i))) (fun _ _ _ _ s22 _ => ps.length - (intOf s22).toNat)
  case atStart => exact ⟨0, _, _, _, _, _, _, _, _, _, rfl, rfl, rfl, rfl, rfl, Nat.zero_le _, H3.out⟩
  case round =>
    clear H3
    obtain ⟨i, A1, A2, A3, N1, N2, N3, C1, C2, C3, rfl, rfl, rfl, rfl, rfl, hi, h3⟩ := hrel
    by_cases hlt : i < ps.length
    · obtain ⟨b, o, rfl, hg⟩ := HR.out.2 (by omega)
      obtain ⟨g0w, A, C, g1w, hrdw⟩ := hg i hlt
      have hbl0 : b < w.heap.size := World.block_lt_of_cell? w _ g0w
      have g0 := g0w
      have g1 := g1w
      rw [← h3.below.cell (p := ⟨b, o + i * 2, none⟩) hbl0] at g0
      rw [← h3.below.cell (p := ⟨b, o + i * 2 + 1, none⟩) hbl0] at g1
      have hgood := goodV_ok (okV_get HOK.out i hlt)
      have hla := okV_ge (okV_split HOK.out i).1 hb0
      have htk : ps.take (i + 1) = ps.take i ++ [ps[i]] := List.take_succ_eq_append_getElem hlt
      have hgs := gapsD_snoc base (ps.take i) ps[i]
      have hfs := freqV_snoc (ps.take i) ps[i]
      have hts := tailV_snoc (ps.take i) ps[i]
      have hls := lastV_snoc base (ps.take i) ps[i]
      have hpf := HF.out ps[i] (List.getElem_mem hlt)
      rw [← htk] at hgs hfs hts hls
      have hpl : 0 < ps[i].pos.length := List.length_pos_iff.2 hgood.2.2.2.1
      have htl := tailV_le (HF.out.take i) (okV_split HOK.out i).1
      have hto := totalV_split ps i
      obtain ⟨x, hx⟩ : ∃ x, ps[i] = x := ⟨_, rfl⟩
      rw [hx] at g0 g1 hrdw hgood hgs hfs hts hls hpf hpl
      obtain ⟨doc, pos⟩ := x
      simp only at g0 g1 hrdw hgood hgs hfs hts hls hpf hpl
      obtain ⟨L, hL⟩ : ∃ L, lastV base (ps.take i) = L := ⟨_, rfl⟩
      rw [hL] at hla hgs
      have hgl : L < doc := by have := hgood.2.2.1; rw [hL] at this; exact this
      rw [hL]
      have hdl : doc < 2147483647 := hgood.2.1
      obtain ⟨gp, hgp⟩ : ∃ gp, (doc - L - 1).toNat = gp := ⟨_, rfl⟩
      obtain ⟨fq, hfq⟩ : ∃ fq, pos.length - 1 = fq := ⟨_, rfl⟩
      rw [hgp] at hgs
      rw [hfq] at hfs
      obtain ⟨D1, hD1⟩ : ∃ D1, doc - L = D1 := ⟨_, rfl⟩
      have hp6 := hpf.2.2
      have s1 : IntKind.i64.wrap (doc - L) = D1 := by rw [IntKind.wrap_i64]; omega
      have s2 : IntKind.i64.wrap (D1 - 1) = (gp : Int) := by rw [IntKind.wrap_i64]; omega
      have s3 : IntKind.i64.wrap ((pos.length : Int) - 1) = (fq : Int) := by rw [IntKind.wrap_i64]; omega
      have i1 : (i : Int) < (ps.length : Int) := by omega
      have hA := h3.alloc (.cells #[.int .i64 doc, .slice A pos.length C] 41)
      have e1 := heap_alloc_new wr (.cells #[.int .i64 doc, .slice A pos.length C] 41)
      have hgl1 : (intL (natI (gapsD base (ps.take i)))).length < 1000000000000 := by rw [intL_length, natI_length, gapsD_length, List.length_take]; omega
      have hfl1 : (intL (natI (freqV (ps.take i)))).length < 1000000000000 := by rw [intL_length, natI_length, freqV_length, List.length_take]; omega
      have hzA := hA.below.size
      have HA := Lib.hid hA
      have HE1 := Lib.hid e1
      have HGL := Lib.hid hgl1
      have HFL := Lib.hid hfl1
      have HGS := Lib.hid hgs
      have HFS := Lib.hid hfs
      have HTS := Lib.hid hts
      have HLS := Lib.hid hls
      have HRD := Lib.hid hrdw
      have HPF := Lib.hid hpf
      have HGOOD := Lib.hid (And.intro hgood.2.2.2.2.1 hgood.2.2.2.2.2)
      have htl2 : (tailV (ps.take i)).length ≤ 400000000 := by omega
      clear hA e1 hgl1 hfl1 hgs hfs hts hls hrdw hpf hgood htl hto hg hx h3 hgp hfq hD1 htk g0w g1w hL
      go_upto_region 7 with fail
      generalize wr.alloc (.cells #[.int .i64 doc, .slice A pos.length C] 41) = W at HA HE1 hzA ⊢
      have c0 := blk_cell HE1.out 0
      have c1 := blk_cell HE1.out 1
      clear g0 g1
      go_wp2_with (at_builtin; with_reducible refine ap1' elInts rfl HA.out.g HGL.out hzA rfl _ _ rfl rfl rfl ?_)
      intro v3 w3 k1 k2 k3 k4
      have h33 := HA.out.putG gp _ k1 k2 k3 k4
      rw [← HGS.out] at h33
      obtain ⟨B1, M1, K1, rfl⟩ := own_sl k1
      clear c0 c1
      have e3 := (k4.block _ (lt_of_heap HE1.out) (fun e => HA.out.g.ne_type HE1.out (by decide) e.symm)).trans HE1.out
      have c0 := blk_cell e3 0
      have c1 := blk_cell e3 1
      have hz3 := h33.below.size
      have H33 := Lib.hid h33
      have HE3 := Lib.hid e3
      clear k1 k2 k3 k4 h33 e3 HA HE1
      go_wp2_with (at_builtin; with_reducible refine ap1' elInts rfl H33.out.f HFL.out hz3 rfl _ _ rfl rfl rfl ?_)
      intro v4 w4 k1 k2 k3 k4
      have h34 := H33.out.putF fq _ k1 k2 k3 k4
      rw [← HFS.out] at h34
      obtain ⟨B2, M2, K2, rfl⟩ := own_sl k1
      have e4 := (k4.block _ (lt_of_heap HE3.out) (fun e => H33.out.f.ne_type HE3.out (by decide) e.symm)).trans HE3.out
      clear c0 c1
      have c0 := blk_cell e4 0
      have c1 := blk_cell e4 1
      have H34 := Lib.hid h34
      have HE4 := Lib.hid e4
      clear k1 k2 k3 k4 h34 e4 H33 HE3
      obtain ⟨GL, hGL⟩ : ∃ GL, gapsD base (ps.take (i + 1)) = GL := ⟨_, rfl⟩
      obtain ⟨FL, hFL⟩ : ∃ FL, freqV (ps.take (i + 1)) = FL := ⟨_, rfl⟩
      obtain ⟨TL, hTL⟩ : ∃ TL, tailV (ps.take i) = TL := ⟨_, rfl⟩
      have h34 := H34.out
      rw [hGL, hFL, hTL] at h34
      have htl3 : TL.length ≤ 400000000 := by rw [← hTL]; exact htl2
      have HTS2 := Lib.hid (show tailV (ps.take (i + 1)) = TL ++ gapsB (-1) pos by rw [HTS.out, hTL])
      have HGL2 := Lib.hid hGL
      have HFL2 := Lib.hid hFL
      have H4 := Lib.hid h34
      clear hGL hFL hTL h34 H34 htl2 HTS HGS HFS
      go_wp2
      obtain ⟨wp, rfl⟩ : ∃ wp : World, wp = wr := ⟨_, rfl⟩
      clear c0 c1 s1 s2 s3
      go_loopw [7, 10, 46] (fun s7 s10 s46 wr => ∃ (j : Nat) (A3 : Option Addr) (N3 C3 : Nat), s7 = .slice A3 N3 C3 ∧ s10 = .int .i64 ((pos.take j).getLastD (-1)) ∧ s46 = .int .i64 j ∧ j ≤ pos.length ∧ Tri w wr (.slice B1 M1 K1) (.slice B2 M2 K2) (.slice A3 N3 C3) GL FL (TL ++ gapsB (-1) (pos.take j))) (fun _ _ s46 _ => pos.length - (intOf s46).toNat)
      case atStart => exact ⟨0, _, _, _, rfl, rfl, rfl, Nat.zero_le _, by simpa [gapsB] using H4.out⟩
      case round =>
        clear H4
        obtain ⟨j, A3', N3', C3', rfl, rfl, rfl, hj, h3⟩ := hrel
        by_cases hlt2 : j < pos.length
        · obtain ⟨_, hgp⟩ := rd_get (HRD.out.below h3.below (Nat.le_refl _))
          obtain ⟨b2, o2, rfl, hc⟩ := hgp (by omega)
          have hx := hc j hlt2
          have j1 : (j : Int) < (pos.length : Int) := by omega
          have hfx := HPF.out.2.1 pos[j] (List.getElem_mem hlt2)
          have hsn := gapsB_snoc (-1) (pos.take j) pos[j]
          have hlast := last_lt HGOOD.out.1 HGOOD.out.2 j hlt2
          have hgle := gapsB_le (l := pos.take j) (fun z hz => HPF.out.2.1 z (List.mem_of_mem_take hz)) (-1) (by omega) (fun z hz => by
            have := List.any_eq_false.1 HGOOD.out.1 z (List.mem_of_mem_take hz)
            simpa using this)
          rw [List.length_take] at hgle
          have hnl : (pos.take (j + 1)).getLastD (-1) = pos[j] := by rw [take_one hlt2]; exact List.getLastD_concat ..
          rw [← take_one hlt2] at hsn
          obtain ⟨x, hxx⟩ : ∃ x, pos[j] = x := ⟨_, rfl⟩
          rw [hxx] at hx hfx hsn hlast hnl
          obtain ⟨L2, hL2⟩ : ∃ L2, (pos.take j).getLastD (-1) = L2 := ⟨_, rfl⟩
          rw [hL2] at hsn hlast
          rw [hL2]
          obtain ⟨m, hm⟩ : ∃ m, (x - L2 - 1).toNat = m := ⟨_, rfl⟩
          rw [hm] at hsn
          obtain ⟨D2, hD2⟩ : ∃ D2, IntKind.i64.wrap (x - L2) = D2 := ⟨_, rfl⟩
          have s1 := hD2
          have s2 : IntKind.i64.wrap (D2 - 1) = (m : Int) := by rw [← hD2, IntKind.wrap_i64, IntKind.wrap_i64]; omega
          have C5 := rnum_any m wr (by omega)
          have hum := uvar_le m (by omega)
          have H3 := Lib.hid h3
          have HSN := Lib.hid hsn
          have HNL := Lib.hid hnl
          clear h3 hsn hnl hxx hL2 hm hD2 hc hgp hlast hfx
          go_wp2_with fail
          refine C5.mono ?_
          rintro e w5 ⟨v5, rfl, ho5, hb5⟩
          clear C5 hx s1 s2
          have h5 := H3.out.step hb5
          have hl0 : (bytesV (TL ++ gapsB (-1) (pos.take j))).length + (bytesV (uvar m)).length < 1000000000001 := by rw [bytesV_length, bytesV_length, List.length_append]; omega
          have hz5 := h5.below.size
          have H5 := Lib.hid h5
          have HRD5 := Lib.hid ho5.rd
          have H1C := Lib.hid (bytesV_one (uvar m))
          have HL0 := Lib.hid hl0
          clear h5 ho5 hb5 hl0 H3
          go_wp2_with (at_builtin; with_reducible refine apN elBytes H5.out.t HRD5.out H1C.out HL0.out hz5 rfl _ _ rfl rfl rfl ?_)
          intro v6 w6 k1 k2 k3 k4
          have h6 := H5.out.putT _ k1 k2 k4
          rw [List.append_assoc, ← HSN.out] at h6
          obtain ⟨A6, N6, C6, rfl⟩ := own_sl k1
          have H6 := Lib.hid h6
          clear h6 k1 k2 k3 k4 H5
          go_wp2
          go_roundw
          case rel => exact ⟨j + 1, A6, N6, C6, rfl, by rw [HNL.out], by go_num, by omega, H6.out⟩
          case measure => simp [intOf]; omega
        · obtain rfl : j = pos.length := by omega
          have j1 : ¬ ((pos.length : Int) < (pos.length : Int)) := by omega
          rw [List.take_length, ← HTS2.out] at h3
          have h3' := h3
          rw [← HGL2.out, ← HFL2.out] at h3'
          have H3 := Lib.hid h3'
          obtain ⟨LX, hLX⟩ : ∃ LX, (pos.take pos.length).getLastD (-1) = LX := ⟨_, rfl⟩
          rw [hLX]
          clear h3 h3' hLX hlt2 hj
          go_wp2
          go_roundw
          case rel => exact ⟨i + 1, B1, B2, A3', M1, M2, N3', K1, K2, C3', by rw [HLS.out], rfl, rfl, rfl, by go_num, by omega, H3.out⟩
          case measure => simp [intOf]; omega
    · obtain rfl : i = ps.length := by omega
      have i1 : ¬ ((ps.length : Int) < (ps.length : Int)) := by omega
      simp only [List.take_length] at h3
      obtain ⟨LX, hLX⟩ : ∃ LX, lastV base (ps.take ps.length) = LX := ⟨_, rfl⟩
      rw [hLX]
      have hgl := gapsD_length base ps
      have hfl := freqV_length ps
      have E1 := rpk_ok wr A1 N1 C1 (gapsD base ps) h3.g.rd (by omega) (gapsD_fits HOK.out hb0)
      rw [pckN_small (by omega)] at E1
      have hzr := h3.below.size
      have htl := tailV_le HF.out HOK.out
      have H3lt := Lib.hid h3.t.lt
      have H3 := Lib.hid h3
      clear h3 hLX hlt hi
      go_wp2_with fail
      refine E1.mono ?_
      rintro e w2 ⟨v2, rfl, ho2, hb2⟩
      clear E1
      obtain ⟨B2, M2, K2, rfl⟩ := own_sl ho2
      have h32 := H3.out.step hb2
      have E2 := rpk_ok w2 A2 N2 C2 (freqV ps) h32.f.rd (by omega) (freqV_fits HF.out)
      rw [pckN_small (by omega)] at E2
      have HO2 := Lib.hid ho2
      have H32 := Lib.hid h32
      clear ho2 hb2 h32 H3
      go_wp2_with fail
      refine E2.mono ?_
      rintro e w4 ⟨v4, rfl, ho4, hb4⟩
      clear E2
      obtain ⟨B4, M4, K4, rfl⟩ := own_sl ho4
      have h34 := H32.out.step hb4
      have ho24 := own_base (HO2.out.below hb4 (Nat.le_refl _)) (base' := w.heap.size) hzr
      have hp1 := pckB_le (l := gapsD base ps) (by omega) (gapsD_fits HOK.out hb0)
      have hp2 := pckB_le (l := freqV ps) (by omega) (freqV_fits HF.out)
      have hl1 : (bytesV (pckB (gapsD base ps))).length + (bytesV (pckB (freqV ps))).length < 1000000000001 := by rw [bytesV_length, bytesV_length]; omega
      have hz4 := h34.below.size
      have hfar : ∀ k, (Value.slice B2 M2 K2).ownBlock = some k → (Value.slice A3 N3 C3).ownBlock ≠ some k := fun k h1 h2 => by
        have g1 := (HO2.out.lt k h1).1
        have g2 := (H3lt.out k h2).2
        omega
      have HO24 := Lib.hid ho24
      have HRD4 := Lib.hid ho4.rd
      have H1A := Lib.hid (bytesV_one (pckB (freqV ps)))
      have HL1 := Lib.hid hl1
      have H34 := Lib.hid h34
      have HFAR := Lib.hid hfar
      clear ho24 ho4 hb4 hl1 h34 hfar HO2 H32
      go_wp2_with (at_builtin; with_reducible refine apN elBytes HO24.out HRD4.out H1A.out HL1.out hz4 rfl _ _ rfl rfl rfl ?_)
      intro v5 w5 k1 k2 k3 k4
      have ht5 := k2 _ _ _ _ H34.out.t (fun k h1 h2 => absurd h2 (HFAR.out k h1))
      have hb5 := H34.out.below.grown k4 hz4 (fun k hk => (HO24.out.lt k hk).1)
      rw [← bytesV_append] at k1
      obtain ⟨B5, M5, K5, rfl⟩ := own_sl k1
      have hl2 : (bytesV (pckB (gapsD base ps) ++ pckB (freqV ps))).length + (bytesV (tailV ps)).length < 1000000000001 := by rw [bytesV_length, bytesV_length, List.length_append]; omega
      have hz5 := hb5.size
      have HO5 := Lib.hid k1
      have HRD5 := Lib.hid ht5.rd
      have H1B := Lib.hid (bytesV_one (tailV ps))
      have HL2 := Lib.hid hl2
      have HB5 := Lib.hid hb5
      clear k1 k2 k3 k4 ht5 hb5 hl2 H34 HO24 HRD4
      go_wp2_with (at_builtin; with_reducible refine apN elBytes HO5.out HRD5.out H1B.out HL2.out hz5 rfl _ _ rfl rfl rfl ?_)
      intro v6 w6 k1 k2 k3 k4
      have hb6 := HB5.out.grown k4 hz5 (fun k hk => (HO5.out.lt k hk).1)
      rw [← bytesV_append, List.append_assoc] at k1
      obtain ⟨B6, M6, K6, rfl⟩ := own_sl k1
      have HO6 := Lib.hid k1
      have HB6 := Lib.hid hb6
      clear k1 k2 k3 k4 hb6
      go_wp2
      go_ret
      exact ⟨_, rfl, HO6.out, HB6.out⟩
end Go.Proofs.YtaijepjhmjjecaaDoor

/- codec.Writer: Raw, Text. -/
namespace Go.Proofs.YtaijepjhmjjecaaDoor
set_option linter.unusedVariables false
open Go.ChangeShapes Go.WideShapes Go.ChangeAt Go.RowKit

set_option maxRecDepth 100000 in
theorem wraw_any (w : World) (base p : Nat) (v : Value) (bs : List UInt8) (h : Wr w base p v bs) (hb : base ≤ w.heap.size) (hl : bs.length ≤ 10000000000) (s : Value) (cs : List UInt8) (hr : Rd w s (bytesV cs)) (hcs : cs.length ≤ 10000000000) :
    Calls Tryd.prog 66 #[.pointer (some ⟨p, 0, none⟩), s] w fun e w' => e = .returned (.tuple #[]) ∧ ∃ v', Wr w' base p v' (bs ++ cs) ∧ Wrote w w' p v v' := by
  have hl' : (bytesV bs).length + (bytesV cs).length < 1000000000001 := by rw [bytesV_length, bytesV_length]; omega
  have hc := h.read
  have hown := h.own
  have HO := Lib.hid (bytesV_one cs)
  have HR := Lib.hid hr
  obtain ⟨av, nv, cv, rfl⟩ := own_sl hown
  obtain ⟨as_, ns, cs_, rfl⟩ : ∃ a n c, s = .slice a n c := by obtain ⟨A, c, h, _⟩ := hr; exact ⟨_, _, _, h⟩
  clear hr
  go_enter Tryd.func66, Tryd.ntmps66
  go_wp2_with (at_builtin; with_reducible refine apN elBytes hown HR.out HO.out hl' hb rfl _ _ rfl rfl rfl ?_)
  intro v1 w1 g1 g2 g3 g4
  obtain ⟨hc1, hf1⟩ := wr_cell h g4
  obtain ⟨a1, n1, c1, rfl⟩ := own_sl g1
  rw [← bytesV_append] at g1
  obtain ⟨hw2, hwr2⟩ := wr_app h g1 (g3.imp id (fun h => ⟨_, h.1, Nat.le_refl _⟩)) g4
  go_wp2
  go_end0
  exact ⟨rfl, _, hw2, hwr2⟩

end Go.Proofs.YtaijepjhmjjecaaDoor

/- posts: two Writers apart; Concat of two. -/
namespace Go.Proofs.YtaijepjhmjjecaaDoor
set_option linter.unusedVariables false
open Go.ChangeShapes Go.WideShapes Go.ChangeAt Go.RowKit

/-- Two Writers that share no block. -/
def Apart2 (p1 : Nat) (v1 : Value) (p2 : Nat) (v2 : Value) : Prop := ∀ k, WrB p1 v1 k → ¬ WrB p2 v2 k
theorem Apart2.left {w w' : World} {base p1 p2 : Nat} {v1 v1' v2 : Value} {b2 : List UInt8} (h : Apart2 p1 v1 p2 v2) (hw : Wrote w w' p1 v1 v1') (h2 : Wr w base p2 v2 b2) : Apart2 p1 v1' p2 v2 := by
  rintro k (rfl | hk) h3
  · exact h k (.inl rfl) h3
  · rcases hw.fresh k hk with h4 | h4
    · exact h k (.inr h4) h3
    · have := (h2.ge k h3).2; omega
theorem Apart2.right {w w' : World} {base p1 p2 : Nat} {v1 v2 v2' : Value} {b1 : List UInt8} (h : Apart2 p1 v1 p2 v2) (hw : Wrote w w' p2 v2 v2') (h1 : Wr w base p1 v1 b1) : Apart2 p1 v1 p2 v2' := by
  rintro k hk (rfl | h3)
  · exact h k hk (.inl rfl)
  · rcases hw.fresh k h3 with h4 | h4
    · exact h k hk (.inr h4)
    · have := (h1.ge k hk).2; omega
theorem cat_two (w : World) (v1 v2 : Value) (b1 b2 : List UInt8) (h1 : Rd w v1 (bytesV b1)) (h2 : Rd w v2 (bytesV b2)) (hn : b1.length + b2.length ≤ 1000000000) :
    Calls Tryd.prog 67 #[.slice (some ⟨w.heap.size, 0, none⟩) 2 2] (w.alloc (.cells #[v1, v2] 30)) fun e w' => ∃ v', e = .returned v' ∧ Own w' w.heap.size 5 v' (bytesV (b1 ++ b2)) ∧ Below w.heap.size w w' := by
  have hB0 : Below w.heap.size w (w.alloc (.cells #[v1, v2] 30)) := (Below.refl _ _).alloc (Nat.le_refl _) _
  have hr1 := h1.below hB0 (Nat.le_refl _)
  have hr2 := h2.below hB0 (Nat.le_refl _)
  have hls : Rd (w.alloc (.cells #[v1, v2] 30)) (.slice (some ⟨w.heap.size, 0, none⟩) 2 2) [v1, v2] := (own_lit w w.heap.size 30 [v1, v2] (Nat.le_refl _) (by simp [maxLen])).rd
  have hBs : Rds (w.alloc (.cells #[v1, v2] 30)) [v1, v2] (fun k => if k = 0 then b1 else b2) := fun k x hx => by
    match k, hx with
    | 0, hx => simp at hx; subst hx; exact hr1
    | 1, hx => simp at hx; subst hx; exact hr2
    | k + 2, hx => simp at hx
  have hcl : catL (fun k => if k = 0 then b1 else b2) 2 = b1 ++ b2 := by simp [catL, List.range_succ]
  have C1 := cat_any _ _ 2 2 _ _ hls hBs (by simp) (by rw [show [v1, v2].length = 2 from rfl, hcl, List.length_append]; exact hn)
  rw [show [v1, v2].length = 2 from rfl, hcl] at C1
  refine C1.mono ?_
  rintro e w1 ⟨v, rfl, ho, hb⟩
  exact ⟨v, rfl, own_base ho (by simp), hB0.trans (hb.mono (by simp))⟩
/-- The postings of one block. -/
theorem chunk_eq (ps : List PostV) (at_ hi : Nat) (h : hi = min (at_ + 16) ps.length) : (ps.take hi).drop at_ = (ps.drop at_).take 16 := by
  rw [List.drop_take]
  by_cases h1 : at_ + 16 ≤ ps.length
  · rw [show hi - at_ = 16 by omega]
  · rw [List.take_of_length_le (by rw [List.length_drop]; omega), List.take_of_length_le (by rw [List.length_drop]; omega)]
theorem last_chunk (ps : List PostV) (at_ : Nat) : lastV (lastV (-1) (ps.take at_)) ((ps.drop at_).take 16) = lastV (-1) (ps.take (at_ + 16)) := by
  rw [← lastV_append, ← List.take_add]
end Go.Proofs.YtaijepjhmjjecaaDoor

/- posts: Encode. -/
namespace Go.Proofs.YtaijepjhmjjecaaDoor
set_option linter.unusedVariables false
open Go.ChangeShapes Go.WideShapes Go.ChangeAt Go.RowKit

/-- What Encode answers and leaves. -/
def EncPost (w : World) (EA : Nat → Addr) (ps : List PostV) (e : Ending) (w' : World) : Prop :=
  (okV (-1) ps → ∃ A N C, e = .returned (.tuple #[.slice A N C, .nilIface]) ∧ Own w' w.heap.size 5 (.slice A N C) (bytesV (imageV ps)) ∧ Below w.heap.size w w') ∧
  (¬ okV (-1) ps → e = .returned (.tuple #[.slice none 0 0, errV EA (checkV (-1) ps)]) ∧ Below w.heap.size w w')
theorem okV_lt {base : Int} {l : List PostV} (ok : okV base l) (hb : base < 2147483647) : lastV base l < 2147483647 := by
  by_cases h : l = []
  · subst h; exact hb
  · exact ((okV_last ok).2 h).2.1
theorem lastV_at (base : Int) (l : List PostV) (k : Nat) (h : k < l.length) (hk : k + 1 = l.length) : lastV base l = l[k].doc := by
  have hne : l ≠ [] := fun e => by rw [e] at h; simp at h
  rw [lastV_get base l hne]
  have hk2 : l.length - 1 = k := by omega
  simp only [hk2]
/-- Two Writers of the call's own. -/
structure Two (w W : World) (p1 p2 : Nat) (v1 v2 : Value) (H B : List UInt8) : Prop where
  w1 : Wr W w.heap.size p1 v1 H
  w2 : Wr W w.heap.size p2 v2 B
  ap : Apart2 p1 v1 p2 v2
  below : Below w.heap.size w W
theorem Two.left {w W W' : World} {p1 p2 : Nat} {v1 v2 v1' : Value} {H B H' : List UInt8} (h : Two w W p1 p2 v1 v2 H B) (hw : Wr W' w.heap.size p1 v1' H') (hwt : Wrote W W' p1 v1 v1') : Two w W' p1 p2 v1' v2 H' B :=
  ⟨hw, h.w2.eff hwt.eff (fun k hk h9 => h.ap k h9 hk), h.ap.left hwt h.w2, h.below.trans (hwt.below h.w1 h.below.size)⟩
theorem Two.right {w W W' : World} {p1 p2 : Nat} {v1 v2 v2' : Value} {H B B' : List UInt8} (h : Two w W p1 p2 v1 v2 H B) (hw : Wr W' w.heap.size p2 v2' B') (hwt : Wrote W W' p2 v2 v2') : Two w W' p1 p2 v1 v2' H B' :=
  ⟨h.w1.eff hwt.eff (fun k hk h9 => h.ap k hk h9), hw, h.ap.right hwt h.w1, h.below.trans (hwt.below h.w2 h.below.size)⟩
theorem Two.step {w W W' : World} {p1 p2 : Nat} {v1 v2 : Value} {H B : List UInt8} (h : Two w W p1 p2 v1 v2 H B) (hb : Below W.heap.size W W') : Two w W' p1 p2 v1 v2 H B :=
  ⟨h.w1.eff (F := fun _ => False) (Eff.of_below hb _) (fun _ _ f => f), h.w2.eff (F := fun _ => False) (Eff.of_below hb _) (fun _ _ f => f), h.ap, h.below.trans (hb.mono h.below.size)⟩
theorem two_new (w W : World) (h : Below w.heap.size w W) : Two w ((W.alloc (.cells #[.slice none 0 0] 124)).alloc (.cells #[.slice none 0 0] 124)) W.heap.size (W.heap.size + 1) (.slice none 0 0) (.slice none 0 0) [] [] := by
  have hs := h.size
  refine ⟨⟨(Below.heap_alloc _ _ _ (by simp)).trans (heap_alloc_new W _), hs, own_nil _ _ _⟩, ⟨by have := heap_alloc_new (W.alloc (.cells #[.slice none 0 0] 124)) (.cells #[.slice none 0 0] 124); rwa [World.size_alloc] at this, by omega, own_nil _ _ _⟩, fun k hk h9 => ?_, (h.alloc hs _).alloc (by simp; omega) _⟩
  rcases hk with rfl | hk
  · rcases h9 with h9 | h9
    · omega
    · simp [Value.ownBlock] at h9
  · simp [Value.ownBlock] at hk
set_option maxRecDepth 100000 in
set_option maxHeartbeats 8000000 in
theorem encode_any (w : World) (a : Option Addr) (n c : Nat) (ps : List PostV) (hr : RdPost w a n ps) (hnc : n ≤ c) (hf : FitP ps) (hl : ps.length ≤ 1048576) (hT : totalV ps ≤ 20000000) (EA : Nat → Addr) (hS : Sent7 w EA) :
    Calls Tryd.prog 32 #[.slice a n c] w (EncPost w EA ps) := by
  obtain rfl := hr.1
  obtain ⟨G, hG⟩ : ∃ G, checkV (-1) ps = G := ⟨_, rfl⟩
  have HG := Lib.hid hG
  have HR := Lib.hid hr
  have HF := Lib.hid hf
  have HS := Lib.hid hS
  clear hr hf hS hG
  go_enter Tryd.func32, Tryd.ntmps32
  go_wp2
  go_loopw [4, 5, 18] (fun s4 s5 s18 wr => ∃ (i : Nat) (before : Int), s4 = .int .i64 before ∧ s5 = .int .i64 (totalV (ps.take i) : Nat) ∧ s18 = .int .i64 i ∧ i ≤ ps.length ∧ checkV before (ps.drop i) = G ∧ Below w.heap.size w wr) (fun _ _ s18 _ => ps.length - (intOf s18).toNat)
  case atStart => exact ⟨0, -1, rfl, rfl, rfl, Nat.zero_le _, HG.out, Below.refl _ _⟩
  case round =>
    obtain ⟨i, before, rfl, rfl, rfl, hi, hck, hb⟩ := hrel
    by_cases hlt : i < ps.length
    · obtain ⟨b, o, rfl, hg⟩ := (HR.out.below hb (Nat.le_refl _)).2 (by omega)
      obtain ⟨g0, A, C, g1, hrd⟩ := hg i hlt
      have htt := totalV_take ps i hlt
      have hts := totalV_split ps (i + 1)
      rw [checkV_drop hlt] at hck
      have hpl := (HF.out ps[i] (List.getElem_mem hlt)).2.2
      obtain ⟨x, hx⟩ : ∃ x, ps[i] = x := ⟨_, rfl⟩
      rw [hx] at g0 g1 hrd hck htt hpl
      obtain ⟨doc, pos⟩ := x
      simp only at g0 g1 hrd hck htt hpl
      have i1 : (i : Int) < (ps.length : Int) := by omega
      have hbA := hb.alloc hb.size (.cells #[.int .i64 doc, .slice A pos.length C] 41)
      have e1 := heap_alloc_new wr (.cells #[.int .i64 doc, .slice A pos.length C] 41)
      have C1 := good_any (wr.alloc (.cells #[.int .i64 doc, .slice A pos.length C] 41)) doc before A pos.length C pos (hrd.below ((Below.refl _ wr).alloc (Nat.le_refl _) _) (Nat.le_refl _)) (by omega) EA (HS.out.below hbA)
      obtain ⟨t1, ht1⟩ : ∃ t1, totalV (ps.take i) = t1 := ⟨_, rfl⟩
      rw [ht1] at htt ⊢
      have HBA := Lib.hid hbA
      have HE1 := Lib.hid e1
      have HTT := Lib.hid htt
      have htb : t1 + pos.length ≤ 20000000 := by omega
      clear hg hrd hx hb hbA e1 htt hts ht1
      rcases goodV_cases before ⟨doc, pos⟩ with hgv | hgv | hgv
      · rw [hgv] at C1 hck
        rw [if_pos rfl] at hck
        have HCK := Lib.hid hck
        clear hck hgv
        go_wp2_with fail
        refine C1.mono ?_
        rintro e w5 ⟨rfl, hb5⟩
        clear C1
        have e5 := (hb5.block _ (lt_of_heap HE1.out)).trans HE1.out
        have c0 := blk_cell e5 0
        have c1 := blk_cell e5 1
        have HB5 := Lib.hid (HBA.out.trans (hb5.mono HBA.out.size))
        clear hb5 e5 g0 g1
        unfold errK
        go_wp2
        go_roundw
        case rel => exact ⟨i + 1, doc, rfl, by rw [HTT.out]; go_num, by go_num, by omega, HCK.out, HB5.out⟩
        case measure => simp [intOf]; omega
      · rw [hgv] at C1 hck
        rw [if_neg (by decide)] at hck
        subst hck
        clear hgv
        go_wp2_with fail
        refine C1.mono ?_
        rintro e w5 ⟨rfl, hb5⟩
        clear C1
        have HB5 := Lib.hid (HBA.out.trans (hb5.mono HBA.out.size))
        clear hb5 g0 g1
        unfold errK errV
        go_wp2
        go_ret2
        exact ⟨fun h => absurd (HG.out.symm.trans h) (by decide), fun _ => ⟨by rw [HG.out]; rfl, HB5.out⟩⟩
      · rw [hgv] at C1 hck
        rw [if_neg (by decide)] at hck
        subst hck
        clear hgv
        go_wp2_with fail
        refine C1.mono ?_
        rintro e w5 ⟨rfl, hb5⟩
        clear C1
        have HB5 := Lib.hid (HBA.out.trans (hb5.mono HBA.out.size))
        clear hb5 g0 g1
        unfold errK errV
        go_wp2
        go_ret2
        exact ⟨fun h => absurd (HG.out.symm.trans h) (by decide), fun _ => ⟨by rw [HG.out]; rfl, HB5.out⟩⟩
    · obtain rfl : i = ps.length := by omega
      have i1 : ¬ ((ps.length : Int) < (ps.length : Int)) := by omega
      rw [List.drop_length] at hck
      have hck : 0 = G := hck
      subst hck
      rw [List.take_length]
      have HOK := Lib.hid (show okV (-1) ps from HG.out)
      have HB := Lib.hid hb
      have C2 := nw_any wr
      clear hb hlt hi
      go_wp2_with fail
      refine C2.mono ?_
      rintro e w2 ⟨rfl, rfl⟩
      clear C2
      have h2n := two_new w wr HB.out
      have C3 := nw_any (wr.alloc (.cells #[.slice none 0 0] 124))
      rw [World.size_alloc] at C3
      go_wp2_with fail
      refine C3.mono ?_
      rintro e w3 ⟨rfl, rfl⟩
      clear C3
      generalize (wr.alloc (.cells #[.slice none 0 0] 124)).alloc (.cells #[.slice none 0 0] 124) = w3 at h2n ⊢
      have sN : IntKind.u64.wrap (ps.length : Int) = (ps.length : Int) := by rw [IntKind.wrap_u64]; omega
      have sT : IntKind.u64.wrap (totalV ps : Int) = (totalV ps : Int) := by rw [IntKind.wrap_u64]; omega
      have C4 := wuv_any w3 w.heap.size wr.heap.size (.slice none 0 0) [] h2n.w1 h2n.below.size (by simp) ps.length (by omega)
      have H2 := Lib.hid h2n
      clear h2n
      go_wp2_with fail
      refine C4.mono ?_
      rintro e w4 ⟨rfl, v4, hw4, hwt4⟩
      clear C4
      have h24 := H2.out.left hw4 hwt4
      rw [List.nil_append] at h24
      have ul := uvar_le ps.length (by omega)
      have ut := uvar_le (totalV ps) (by omega)
      have C5 := wuv_any w4 w.heap.size wr.heap.size v4 (uvar ps.length) h24.w1 h24.below.size (by omega) (totalV ps) (by omega)
      have H4 := Lib.hid h24
      clear hw4 hwt4 h24 H2
      go_wp2_with fail
      refine C5.mono ?_
      rintro e w5 ⟨rfl, v5, hw5, hwt5⟩
      clear C5
      have h25 := H4.out.left hw5 hwt5
      obtain ⟨P0, hP0⟩ : ∃ P0, uvar ps.length ++ uvar (totalV ps) = P0 := ⟨_, rfl⟩
      have hP0l : P0.length ≤ 20 := by rw [← hP0, List.length_append]; omega
      rw [hP0] at h25
      obtain ⟨hHV, hBV⟩ := blks_le _ (-1) ps (Nat.le_refl _) HF.out HOK.out (by omega) (by omega) (by omega)
      obtain ⟨HV, hHVe⟩ : ∃ HV, headV (blksV (-1) (chp ps)) = HV := ⟨_, rfl⟩
      obtain ⟨BV, hBVe⟩ : ∃ BV, bodyV (blksV (-1) (chp ps)) = BV := ⟨_, rfl⟩
      have him : imageV ps = P0 ++ (HV ++ BV) := by unfold imageV; rw [hP0, hHVe, hBVe]
      rw [hHVe] at hHV
      rw [hBVe] at hBV
      have H5 := Lib.hid h25
      have HIM := Lib.hid him
      have HHV := Lib.hid hHVe
      have HBV := Lib.hid hBVe
      clear hw5 hwt5 h25 H4 hP0 him hHVe hBVe sN sT
      go_wp2
      obtain ⟨wo, rfl⟩ : ∃ wo : World, wo = wr := ⟨_, rfl⟩
      go_loopw [11, 12] (fun s11 s12 wr => ∃ (at_ : Nat) (base : Int) (v1 v2 : Value) (H B : List UInt8), s11 = .int .i64 base ∧ s12 = .int .i64 at_ ∧ at_ ≤ ps.length + 15 ∧ base = lastV (-1) (ps.take at_) ∧ Two w wr wo.heap.size (wo.heap.size + 1) v1 v2 (P0 ++ H) B ∧
          H ++ headV (blksV base (chp (ps.drop at_))) = HV ∧ B ++ bodyV (blksV base (chp (ps.drop at_))) = BV) (fun _ s12 _ => ps.length + 16 - (intOf s12).toNat)
      case atStart => exact ⟨0, -1, v5, .slice none 0 0, [], [], rfl, rfl, by omega, rfl, by simpa using H5.out, by rw [List.drop_zero, List.nil_append]; exact HHV.out, by rw [List.drop_zero, List.nil_append]; exact HBV.out⟩
      case round =>
        clear i1 H5 HHV HBV
        obtain ⟨at_, base, v1, v2, H, B, rfl, rfl, hat, hbase, h2, hH, hB⟩ := hrel
        by_cases hlt : at_ < ps.length
        · have hrd := HR.out.below h2.below (Nat.le_refl _)
          obtain ⟨b, o, rfl, _⟩ := hrd.2 (by omega)
          obtain ⟨hi, hhi⟩ : ∃ hi, min (at_ + 16) ps.length = hi := ⟨_, rfl⟩
          have hpart := rdPost_part hrd at_ hi (by omega) (by omega)
          rw [chunk_eq ps at_ hi hhi.symm] at hpart
          obtain ⟨eH, eB⟩ := enc_step (base := base) hlt
          rw [eH] at hH
          rw [eB] at hB
          have okd := (okV_split HOK.out at_).2
          have okc := (okV_split okd 16).1
          have hbge := okV_ge (okV_split HOK.out at_).1 (by omega)
          have hblt := okV_lt (okV_split HOK.out at_).1 (by omega)
          have hlc := last_chunk ps at_
          rw [← hbase] at okc hbge hblt hlc
          have hfc := (HF.out.drop at_).take 16
          have htc1 := totalV_split ps at_
          have htc2 := totalV_split (ps.drop at_) 16
          obtain ⟨CH, hCH⟩ : ∃ CH, (ps.drop at_).take 16 = CH := ⟨_, rfl⟩
          rw [hCH] at hpart hH hB okc hfc htc2 hlc
          obtain ⟨D, hD⟩ : ∃ D, hi - at_ = D := ⟨_, rfl⟩
          rw [hD] at hpart
          have hDl : D = CH.length := hpart.1
          have C6 := pack_any wr (some ⟨b, o + at_ * 2, none⟩) D (c - at_) CH hpart hfc base hbge hblt okc (by omega) (by omega)
          have hmn : min ((at_ : Int) + 16) (ps.length : Int) = (hi : Int) := by omega
          have i1 : (at_ : Int) < (ps.length : Int) := by omega
          have a1 : (at_ : Int) ≤ (hi : Int) := by omega
          have a2 : (hi : Int) ≤ (c : Int) := by omega
          have a3 : at_ < c := by omega
          have hsd : ((hi : Int) - (at_ : Int)).toNat = D := by omega
          have H2 := Lib.hid h2
          have hlast := (okV_last okc).2 (fun e => by rw [e] at hDl; simp at hDl; omega)
          have hlg := lastV_at base CH
          have hch0 : 0 < CH.length := by omega
          have hch16 : CH.length ≤ 16 := by omega
          have hbb := blockB_le hfc okc hbge (by omega)
          obtain ⟨L, hL⟩ : ∃ L, lastV base CH = L := ⟨_, rfl⟩
          obtain ⟨BB, hBB⟩ : ∃ BB, blockB base CH = BB := ⟨_, rfl⟩
          rw [hL] at hH hB hlast hlc
          simp only [hL] at hlg
          rw [hBB] at hH hB hbb C6
          have hHl : H.length ≤ HV.length := by rw [← hH, List.length_append]; omega
          have hBl : B.length ≤ BV.length := by rw [← hB, List.length_append]; omega
          have hwl := h2.w1.ge
          have HLC := Lib.hid hlc
          have HHH := Lib.hid hH
          have HBB2 := Lib.hid hB
          have HPART := Lib.hid hpart
          have HLG := Lib.hid hlg
          have HWL := Lib.hid hwl
          have hzb := h2.below.size
          obtain ⟨k, hk⟩ : ∃ k, k + 1 = CH.length := ⟨CH.length - 1, by omega⟩
          have hBBl : BB.length ≤ 1000000000 := by omega
          clear hbase hlc hH hB hpart hlg hwl okc okd hfc htc1 htc2 hbb hL hBB hCH eH eB h2 hrd hhi
          subst hDl
          go_wp2_with fail
          with_reducible refine C6.mono ?_
          rintro e w6 ⟨v6, rfl, ho6, hb6⟩
          clear C6 hD hsd
          obtain ⟨A6, N6, K6, rfl⟩ := own_sl ho6
          have hn6 := ho6.len
          rw [bytesV_length] at hn6
          subst hn6
          have h26 := H2.out.step hb6
          have hx : w6.cell? ⟨b, o + at_ * 2 + k * 2, none⟩ = some (.int .i64 L) := by
            obtain ⟨b', o', e, hg⟩ := (HPART.out.below hb6 (Nat.le_refl _)).2 hch0
            injection e with e
            injection e with e1 e2 _
            subst e1 e2
            have h9 := (hg k (by omega)).1
            rw [h9, HLG.out k (by omega) hk]
          obtain ⟨gp, hgp⟩ : ∃ gp, (L - base - 1).toNat = gp := ⟨_, rfl⟩
          obtain ⟨D1, hD1⟩ : ∃ D1, L - base = D1 := ⟨_, rfl⟩
          have s0 : IntKind.i64.wrap ((CH.length : Int) - 1) = (k : Int) := by rw [IntKind.wrap_i64]; omega
          have i2 : (k : Int) < (CH.length : Int) := by omega
          have s1 : IntKind.i64.wrap (L - base) = D1 := by rw [IntKind.wrap_i64]; omega
          have s2 : IntKind.i64.wrap (D1 - 1) = (gp : Int) := by rw [IntKind.wrap_i64]; omega
          have s3 : IntKind.u64.wrap (gp : Int) = (gp : Int) := by rw [IntKind.wrap_u64]; omega
          have s4 : IntKind.u64.wrap (BB.length : Int) = (BB.length : Int) := by rw [IntKind.wrap_u64]; omega
          have C7 := wuv_any w6 w.heap.size wo.heap.size v1 (P0 ++ H) h26.w1 h26.below.size (by rw [List.length_append]; omega) gp (by omega)
          have hfar6 : ∀ q, (Value.slice A6 BB.length K6).ownBlock = some q → wr.heap.size ≤ q ∧ q < w6.heap.size := ho6.lt
          have HO6 := Lib.hid ho6
          have H6 := Lib.hid h26
          have HFAR := Lib.hid hfar6
          have HGP := Lib.hid hgp
          have hgpl : gp ≤ 2147483648 := by omega
          have hHHH := HHH.out
          rw [HGP.out] at hHHH
          have HH1 := Lib.hid hHHH
          clear ho6 hb6 h26 hfar6 hgp hD1 H2 hk hHHH HHH
          go_wp2_with fail
          with_reducible refine C7.mono ?_
          rintro e w7 ⟨rfl, v7, hw7, hwt7⟩
          clear C7 hx s0 s1 s2 s3
          have h27 := H6.out.left hw7 hwt7
          have ho7 := HO6.out.eff hwt7.eff (fun q hq hF => by have h1 := (HFAR.out q hq).1; have h3 := (HWL.out q hF).2; omega)
          have ug := uvar_le gp (by omega)
          have hfar7 : ∀ q, (Value.slice A6 BB.length K6).ownBlock = some q → ¬ WrB wo.heap.size v7 q := fun q hq hF => by
            have h1 := HFAR.out q hq
            rcases hF with h9 | h9
            · have h3 := (HWL.out q (.inl h9)).2; omega
            · rcases hwt7.fresh q h9 with h8 | h8
              · have h3 := (HWL.out q (.inr h8)).2; omega
              · omega
          have C8 := wuv_any w7 w.heap.size wo.heap.size v7 (P0 ++ H ++ uvar gp) h27.w1 h27.below.size (by rw [List.length_append, List.length_append]; omega) BB.length (by omega)
          have HO7 := Lib.hid ho7
          have H7 := Lib.hid h27
          have HFAR7 := Lib.hid hfar7
          clear hw7 hwt7 h27 ho7 hfar7 HO6 H6
          go_wp2_with fail
          with_reducible refine C8.mono ?_
          rintro e w8 ⟨rfl, v8, hw8, hwt8⟩
          clear C8 s4
          have h28 := H7.out.left hw8 hwt8
          have ho8 := HO7.out.eff hwt8.eff (fun q hq => HFAR7.out q hq)
          have C9 := wraw_any w8 w.heap.size (wo.heap.size + 1) v2 B h28.w2 h28.below.size (by omega) (.slice A6 BB.length K6) BB ho8.rd (by omega)
          have H8 := Lib.hid h28
          clear hw8 hwt8 h28 ho8 HO7 H7
          go_wp2_with fail
          with_reducible refine C9.mono ?_
          rintro e w9 ⟨rfl, v9, hw9, hwt9⟩
          clear C9
          have h29 := H8.out.right hw9 hwt9
          rw [List.append_assoc P0 H (uvar gp), List.append_assoc P0, List.append_assoc H] at h29
          have hH9 := HH1.out
          have hB9 := HBB2.out
          rw [← List.append_assoc] at hH9 hB9
          have H9 := Lib.hid h29
          have HH9 := Lib.hid hH9
          have HB9 := Lib.hid hB9
          clear hw9 hwt9 h29 hH9 hB9 H8
          go_wp2
          go_roundw
          case rel => exact ⟨at_ + 16, L, v8, v9, H ++ (uvar gp ++ uvar BB.length), B ++ BB, rfl, by go_num, by omega, HLC.out, H9.out, HH9.out, HB9.out⟩
          case measure => simp [intOf]; omega
        · obtain ⟨eH, eB⟩ := enc_end (base := base) hlt
          rw [eH, List.append_nil] at hH
          rw [eB, List.append_nil] at hB
          subst hH hB
          have i1 : ¬ ((at_ : Int) < (ps.length : Int)) := by omega
          have C6 := wbytes_any wr w.heap.size wo.heap.size v1 (P0 ++ H) h2.w1 (by rw [List.length_append]; omega)
          have H2 := Lib.hid h2
          clear h2 eH eB hlt hat hbase
          go_wp2_with fail
          refine C6.mono ?_
          rintro e w6 ⟨v6, rfl, ho6, hb6⟩
          clear C6
          have h26 := H2.out.step hb6
          have C7 := wbytes_any w6 w.heap.size (wo.heap.size + 1) v2 B h26.w2 (by omega)
          obtain ⟨A6, N6, K6, rfl⟩ := own_sl ho6
          have HO6 := Lib.hid ho6
          have H6 := Lib.hid h26
          clear ho6 hb6 h26 H2
          go_wp2_with fail
          refine C7.mono ?_
          rintro e w7 ⟨v7, rfl, ho7, hb7⟩
          clear C7
          obtain ⟨A7, N7, K7, rfl⟩ := own_sl ho7
          have C8 := cat_two w7 (.slice A6 N6 K6) (.slice A7 N7 K7) (P0 ++ H) B (HO6.out.rd.below hb7 (Nat.le_refl _)) ho7.rd (by rw [List.length_append]; omega)
          have hb07 := (H6.out.step hb7).below
          have HB7 := Lib.hid hb07
          clear ho7 hb7 hb07 HO6 H6
          go_wp2_with fail
          refine C8.mono ?_
          rintro e w8 ⟨v8, rfl, ho8, hb8⟩
          clear C8
          rw [List.append_assoc, ← HIM.out] at ho8
          obtain ⟨A8, N8, K8, rfl⟩ := own_sl ho8
          have HO8 := Lib.hid (own_base ho8 HB7.out.size)
          have HB8 := Lib.hid (HB7.out.trans (hb8.mono HB7.out.size))
          clear ho8 hb8
          go_wp2
          go_ret2
          exact ⟨fun _ => ⟨A8, N8, K8, rfl, HO8.out, HB8.out⟩, fun h => absurd HOK.out h⟩
end Go.Proofs.YtaijepjhmjjecaaDoor
