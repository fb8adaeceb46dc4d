/- Merged: RBlk8, WRaw, Enc8A. -/
import Derived.Test.YthnpbfadblcicaaDoorZG9
import Derived.Test.YthnpbfadblcicaaDoorZG10
import Derived.Test.YthnpbfadblcicaaDoorZPack8
import Derived.Test.YthnpbfadblcicaaDoorZG1
import Derived.Test.YthnpbfadblcicaaDoorZG6
import Derived.Test.YthnpbfadblcicaaDoorZGood
/- posts: the document's block. -/
namespace Go.Proofs.YthnpbfadblcicaaDoor
set_option linter.unusedVariables false
open Go.ChangeShapes Go.WideShapes Go.ChangeAt Go.RowKit

/-- The three lists of the document's block. -/
structure Tri (w W : World) (G F T : Value) (gl fl : List Nat) (tl : List UInt8) : Prop where
  g : Own W w.heap.size 3 G (intL (natI gl))
  f : Own W w.heap.size 3 F (intL (natI fl))
  t : Own W w.heap.size 5 T (bytesV tl)
  ap : ∀ k, G.ownBlock = some k → F.ownBlock ≠ some k
  below : Below w.heap.size w W
theorem Tri.alloc {w W : World} {G F T : Value} {gl fl : List Nat} {tl : List UInt8} (h : Tri w W G F T gl fl tl) (o : Obj) : Tri w (W.alloc o) G F T gl fl tl :=
  ⟨h.g.alloc o, h.f.alloc o, h.t.alloc o, h.ap, h.below.alloc h.below.size o⟩
theorem Tri.step {w W W' : World} {G F T : Value} {gl fl : List Nat} {tl : List UInt8} (h : Tri w W G F T gl fl tl) (hb : Below W.heap.size W W') : Tri w W' G F T gl fl tl :=
  ⟨h.g.below hb (Nat.le_refl _), h.f.below hb (Nat.le_refl _), h.t.below hb (Nat.le_refl _), h.ap, h.below.trans (hb.mono h.below.size)⟩
theorem Tri.putG {w W W' : World} {G F T G' : Value} {gl fl : List Nat} {tl : List UInt8} (h : Tri w W G F T gl fl tl) (x n : Nat) (g1 : Own W' w.heap.size 3 G' (intL (natI gl) ++ [.int .i64 (x : Nat)])) (g2 : Keeps W W' G n) (g3 : G'.ownBlock = G.ownBlock ∨ (G'.ownBlock = some (W.heap.size + 1) ∧ Below W.heap.size W W')) (g4 : W.grownBy W' G.ownBlock) :
    Tri w W' G' F T (gl ++ [x]) fl tl :=
  ⟨own_to g1 (by rw [natI_snoc, intL_append]; rfl), g2 _ _ _ _ h.f (fun k h1 h2 => absurd h2 (h.ap k h1)), g2 _ _ _ _ h.t (fun k h1 h2 => absurd h2 (own_types h.g h.t (by decide) h1)), fun k h1 h2 => by
    rcases g3 with g3 | ⟨g3, _⟩
    · exact h.ap k (g3 ▸ h1) h2
    · rw [g3] at h1; injection h1 with h1; have := (h.f.lt k h2).2; omega, h.below.grown g4 h.below.size (fun k hk => (h.g.lt k hk).1)⟩
theorem Tri.putF {w W W' : World} {G F T F' : Value} {gl fl : List Nat} {tl : List UInt8} (h : Tri w W G F T gl fl tl) (x n : Nat) (g1 : Own W' w.heap.size 3 F' (intL (natI fl) ++ [.int .i64 (x : Nat)])) (g2 : Keeps W W' F n) (g3 : F'.ownBlock = F.ownBlock ∨ (F'.ownBlock = some (W.heap.size + 1) ∧ Below W.heap.size W W')) (g4 : W.grownBy W' F.ownBlock) :
    Tri w W' G F' T gl (fl ++ [x]) tl :=
  ⟨g2 _ _ _ _ h.g (fun k h1 h2 => absurd h1 (h.ap k h2)), own_to g1 (by rw [natI_snoc, intL_append]; rfl), g2 _ _ _ _ h.t (fun k h1 h2 => absurd h2 (own_types h.f h.t (by decide) h1)), fun k h1 h2 => by
    rcases g3 with g3 | ⟨g3, _⟩
    · exact h.ap k h1 (g3 ▸ h2)
    · rw [g3] at h2; injection h2 with h2; have := (h.g.lt k h1).2; omega, h.below.grown g4 h.below.size (fun k hk => (h.f.lt k hk).1)⟩
theorem Tri.putT {w W W' : World} {G F T T' : Value} {gl fl : List Nat} {tl cs : List UInt8} (h : Tri w W G F T gl fl tl) (n : Nat) (g1 : Own W' w.heap.size 5 T' (bytesV tl ++ bytesV cs)) (g2 : Keeps W W' T n) (g4 : W.grownBy W' T.ownBlock) :
    Tri w W' G F T' gl fl (tl ++ cs) :=
  ⟨g2 _ _ _ _ h.g (fun k h1 h2 => absurd h2 (own_types h.t h.g (by decide) h1)), g2 _ _ _ _ h.f (fun k h1 h2 => absurd h2 (own_types h.t h.f (by decide) h1)), own_to g1 (bytesV_append _ _).symm, h.ap, h.below.grown g4 h.below.size (fun k hk => (h.t.lt k hk).1)⟩
theorem tri_new (w : World) : Tri w (((w.alloc (.cells #[] 3)).alloc (.cells #[] 3)).alloc (.cells #[] 5)) (.slice (some ⟨w.heap.size, 0, none⟩) 0 0) (.slice (some ⟨w.heap.size + 1, 0, none⟩) 0 0) (.slice (some ⟨w.heap.size + 1 + 1, 0, none⟩) 0 0) [] [] [] := by
  have h1 := ((own_empty w w.heap.size 3 (Nat.le_refl _)).alloc (.cells #[] 3)).alloc (.cells #[] 5)
  have h2 := (own_empty (w.alloc (.cells #[] 3)) w.heap.size 3 (by simp)).alloc (.cells #[] 5)
  have h3 := own_empty ((w.alloc (.cells #[] 3)).alloc (.cells #[] 3)) w.heap.size 5 (by simp; omega)
  rw [World.size_alloc] at h2
  rw [World.size_alloc, World.size_alloc] at h3
  exact ⟨h1, h2, h3, fun k h1 h2 => by simp [Value.ownBlock] at h1 h2; omega, (((Below.refl _ w).alloc (Nat.le_refl _) _).alloc (by simp) _).alloc (by simp; omega) _⟩
theorem pckN_small {l : List Nat} (h : l.length ≤ 65536) : pckN l = (pckB l, 0) := by
  unfold pckN; rw [if_neg (by rintro ⟨_, _, h3⟩; omega)]
set_option maxRecDepth 100000 in
set_option maxHeartbeats 8000000 in
theorem rblk8_any (w : World) (a : Option Addr) (n c : Nat) (ps : List PostV) (hr : RdPost w a n ps) (hf : FitP ps) (base : Int) (hb0 : -1 ≤ base) (hb1 : base < 2147483647) (ok : okV base ps) (hl : ps.length ≤ 16) (hT : totalV ps ≤ 31000000) :
    Calls Tryd.prog 55 #[.slice a n c, .int .i64 base] w fun e w' => ∃ v, e = .returned v ∧ Own w' w.heap.size 5 v (bytesV (blockB base ps)) ∧ Below w.heap.size w w' := by
  obtain rfl := hr.1
  have h3 := tri_new w
  have HR := Lib.hid hr
  have HF := Lib.hid hf
  have HOK := Lib.hid ok
  clear hr hf ok
  go_enter Tryd.func55, Tryd.ntmps55
  go_wp2
  generalize ((w.alloc (.cells #[] 3)).alloc (.cells #[] 3)).alloc (.cells #[] 5) = w1 at h3 ⊢
  have H3 := Lib.hid h3
  clear h3
  go_loopw [1, 5, 6, 7, 22] (fun s1 s5 s6 s7 s22 wr => ∃ (i : Nat) (A1 A2 A3 : Option Addr) (N1 N2 N3 C1 C2 C3 : Nat), s1 = .int .i64 (lastV base (ps.take i)) ∧ s5 = .slice A1 N1 C1 ∧ s6 = .slice A2 N2 C2 ∧ s7 = .slice A3 N3 C3 ∧ s22 = .int .i64 i ∧ i ≤ ps.length ∧
      Tri w wr (.slice A1 N1 C1) (.slice A2 N2 C2) (.slice A3 N3 C3) (gapsD base (ps.take i)) (freqV (ps.take i)) (tailV (ps.take i))) (fun _ _ _ _ s22 _ => ps.length - (intOf s22).toNat)
  case atStart => exact ⟨0, _, _, _, _, _, _, _, _, _, rfl, rfl, rfl, rfl, rfl, Nat.zero_le _, H3.out⟩
  case round =>
    clear H3
    obtain ⟨i, A1, A2, A3, N1, N2, N3, C1, C2, C3, rfl, rfl, rfl, rfl, rfl, hi, h3⟩ := hrel
    by_cases hlt : i < ps.length
    · obtain ⟨b, o, rfl, hg⟩ := HR.out.2 (by omega)
      obtain ⟨g0w, A, C, g1w, hrdw⟩ := hg i hlt
      have hbl0 : b < w.heap.size := World.block_lt_of_cell? w _ g0w
      have g0 := g0w
      have g1 := g1w
      rw [← h3.below.cell (p := ⟨b, o + i * 2, none⟩) hbl0] at g0
      rw [← h3.below.cell (p := ⟨b, o + i * 2 + 1, none⟩) hbl0] at g1
      have hgood := goodV_ok (okV_get HOK.out i hlt)
      have hla := okV_ge (okV_split HOK.out i).1 hb0
      have htk : ps.take (i + 1) = ps.take i ++ [ps[i]] := List.take_succ_eq_append_getElem hlt
      have hgs := gapsD_snoc base (ps.take i) ps[i]
      have hfs := freqV_snoc (ps.take i) ps[i]
      have hts := tailV_snoc (ps.take i) ps[i]
      have hls := lastV_snoc base (ps.take i) ps[i]
      have hpf := HF.out ps[i] (List.getElem_mem hlt)
      rw [← htk] at hgs hfs hts hls
      have hpl : 0 < ps[i].pos.length := List.length_pos_iff.2 hgood.2.2.2.1
      have htl := tailV_le (HF.out.take i) (okV_split HOK.out i).1
      have hto := totalV_split ps i
      obtain ⟨x, hx⟩ : ∃ x, ps[i] = x := ⟨_, rfl⟩
      rw [hx] at g0 g1 hrdw hgood hgs hfs hts hls hpf hpl
      obtain ⟨doc, pos⟩ := x
      simp only at g0 g1 hrdw hgood hgs hfs hts hls hpf hpl
      obtain ⟨L, hL⟩ : ∃ L, lastV base (ps.take i) = L := ⟨_, rfl⟩
      rw [hL] at hla hgs
      have hgl : L < doc := by have := hgood.2.2.1; rw [hL] at this; exact this
      rw [hL]
      have hdl : doc < 2147483647 := hgood.2.1
      obtain ⟨gp, hgp⟩ : ∃ gp, (doc - L - 1).toNat = gp := ⟨_, rfl⟩
      obtain ⟨fq, hfq⟩ : ∃ fq, pos.length - 1 = fq := ⟨_, rfl⟩
      rw [hgp] at hgs
      rw [hfq] at hfs
      obtain ⟨D1, hD1⟩ : ∃ D1, doc - L = D1 := ⟨_, rfl⟩
      have hp6 := hpf.2.2
      have s1 : IntKind.i64.wrap (doc - L) = D1 := by rw [IntKind.wrap_i64]; omega
      have s2 : IntKind.i64.wrap (D1 - 1) = (gp : Int) := by rw [IntKind.wrap_i64]; omega
      have s3 : IntKind.i64.wrap ((pos.length : Int) - 1) = (fq : Int) := by rw [IntKind.wrap_i64]; omega
      have i1 : (i : Int) < (ps.length : Int) := by omega
      have hA := h3.alloc (.cells #[.int .i64 doc, .slice A pos.length C] 53)
      have e1 := heap_alloc_new wr (.cells #[.int .i64 doc, .slice A pos.length C] 53)
      have hgl1 : (intL (natI (gapsD base (ps.take i)))).length < 1000000000000 := by rw [intL_length, natI_length, gapsD_length, List.length_take]; omega
      have hfl1 : (intL (natI (freqV (ps.take i)))).length < 1000000000000 := by rw [intL_length, natI_length, freqV_length, List.length_take]; omega
      have hzA := hA.below.size
      have HA := Lib.hid hA
      have HE1 := Lib.hid e1
      have HGL := Lib.hid hgl1
      have HFL := Lib.hid hfl1
      have HGS := Lib.hid hgs
      have HFS := Lib.hid hfs
      have HTS := Lib.hid hts
      have HLS := Lib.hid hls
      have HRD := Lib.hid hrdw
      have HPF := Lib.hid hpf
      have HGOOD := Lib.hid (And.intro hgood.2.2.2.2.1 hgood.2.2.2.2.2)
      have htl2 : (tailV (ps.take i)).length ≤ 400000000 := by omega
      clear hA e1 hgl1 hfl1 hgs hfs hts hls hrdw hpf hgood htl hto hg hx h3 hgp hfq hD1 htk g0w g1w hL
      go_upto_region 7 with fail
      generalize wr.alloc (.cells #[.int .i64 doc, .slice A pos.length C] 53) = W at HA HE1 hzA ⊢
      have c0 := blk_cell HE1.out 0
      have c1 := blk_cell HE1.out 1
      clear g0 g1
      go_wp2_with (at_builtin; with_reducible refine ap1' elInts rfl HA.out.g HGL.out hzA rfl _ _ rfl rfl rfl ?_)
      intro v3 w3 k1 k2 k3 k4
      have h33 := HA.out.putG gp _ k1 k2 k3 k4
      rw [← HGS.out] at h33
      obtain ⟨B1, M1, K1, rfl⟩ := own_sl k1
      clear c0 c1
      have e3 := (k4.block _ (lt_of_heap HE1.out) (fun e => HA.out.g.ne_type HE1.out (by decide) e.symm)).trans HE1.out
      have c0 := blk_cell e3 0
      have c1 := blk_cell e3 1
      have hz3 := h33.below.size
      have H33 := Lib.hid h33
      have HE3 := Lib.hid e3
      clear k1 k2 k3 k4 h33 e3 HA HE1
      go_wp2_with (at_builtin; with_reducible refine ap1' elInts rfl H33.out.f HFL.out hz3 rfl _ _ rfl rfl rfl ?_)
      intro v4 w4 k1 k2 k3 k4
      have h34 := H33.out.putF fq _ k1 k2 k3 k4
      rw [← HFS.out] at h34
      obtain ⟨B2, M2, K2, rfl⟩ := own_sl k1
      have e4 := (k4.block _ (lt_of_heap HE3.out) (fun e => H33.out.f.ne_type HE3.out (by decide) e.symm)).trans HE3.out
      clear c0 c1
      have c0 := blk_cell e4 0
      have c1 := blk_cell e4 1
      have H34 := Lib.hid h34
      have HE4 := Lib.hid e4
      clear k1 k2 k3 k4 h34 e4 H33 HE3
      obtain ⟨GL, hGL⟩ : ∃ GL, gapsD base (ps.take (i + 1)) = GL := ⟨_, rfl⟩
      obtain ⟨FL, hFL⟩ : ∃ FL, freqV (ps.take (i + 1)) = FL := ⟨_, rfl⟩
      obtain ⟨TL, hTL⟩ : ∃ TL, tailV (ps.take i) = TL := ⟨_, rfl⟩
      have h34 := H34.out
      rw [hGL, hFL, hTL] at h34
      have htl3 : TL.length ≤ 400000000 := by rw [← hTL]; exact htl2
      have HTS2 := Lib.hid (show tailV (ps.take (i + 1)) = TL ++ gapsB (-1) pos by rw [HTS.out, hTL])
      have HGL2 := Lib.hid hGL
      have HFL2 := Lib.hid hFL
      have H4 := Lib.hid h34
      clear hGL hFL hTL h34 H34 htl2 HTS HGS HFS
      go_wp2
      obtain ⟨wp, rfl⟩ : ∃ wp : World, wp = wr := ⟨_, rfl⟩
      clear c0 c1 s1 s2 s3
      go_loopw [7, 10, 46] (fun s7 s10 s46 wr => ∃ (j : Nat) (A3 : Option Addr) (N3 C3 : Nat), s7 = .slice A3 N3 C3 ∧ s10 = .int .i64 ((pos.take j).getLastD (-1)) ∧ s46 = .int .i64 j ∧ j ≤ pos.length ∧ Tri w wr (.slice B1 M1 K1) (.slice B2 M2 K2) (.slice A3 N3 C3) GL FL (TL ++ gapsB (-1) (pos.take j))) (fun _ _ s46 _ => pos.length - (intOf s46).toNat)
      case atStart => exact ⟨0, _, _, _, rfl, rfl, rfl, Nat.zero_le _, by simpa [gapsB] using H4.out⟩
      case round =>
        clear H4
        obtain ⟨j, A3', N3', C3', rfl, rfl, rfl, hj, h3⟩ := hrel
        by_cases hlt2 : j < pos.length
        · obtain ⟨_, hgp⟩ := rd_get (HRD.out.below h3.below (Nat.le_refl _))
          obtain ⟨b2, o2, rfl, hc⟩ := hgp (by omega)
          have hx := hc j hlt2
          have j1 : (j : Int) < (pos.length : Int) := by omega
          have hfx := HPF.out.2.1 pos[j] (List.getElem_mem hlt2)
          have hsn := gapsB_snoc (-1) (pos.take j) pos[j]
          have hlast := last_lt HGOOD.out.1 HGOOD.out.2 j hlt2
          have hgle := gapsB_le (l := pos.take j) (fun z hz => HPF.out.2.1 z (List.mem_of_mem_take hz)) (-1) (by omega) (fun z hz => by
            have := List.any_eq_false.1 HGOOD.out.1 z (List.mem_of_mem_take hz)
            simpa using this)
          rw [List.length_take] at hgle
          have hnl : (pos.take (j + 1)).getLastD (-1) = pos[j] := by rw [take_one hlt2]; exact List.getLastD_concat ..
          rw [← take_one hlt2] at hsn
          obtain ⟨x, hxx⟩ : ∃ x, pos[j] = x := ⟨_, rfl⟩
          rw [hxx] at hx hfx hsn hlast hnl
          obtain ⟨L2, hL2⟩ : ∃ L2, (pos.take j).getLastD (-1) = L2 := ⟨_, rfl⟩
          rw [hL2] at hsn hlast
          rw [hL2]
          obtain ⟨m, hm⟩ : ∃ m, (x - L2 - 1).toNat = m := ⟨_, rfl⟩
          rw [hm] at hsn
          obtain ⟨D2, hD2⟩ : ∃ D2, IntKind.i64.wrap (x - L2) = D2 := ⟨_, rfl⟩
          have s1 := hD2
          have s2 : IntKind.i64.wrap (D2 - 1) = (m : Int) := by rw [← hD2, IntKind.wrap_i64, IntKind.wrap_i64]; omega
          have C5 := rnum_any m wr (by omega)
          have hum := uvar_le m (by omega)
          have H3 := Lib.hid h3
          have HSN := Lib.hid hsn
          have HNL := Lib.hid hnl
          clear h3 hsn hnl hxx hL2 hm hD2 hc hgp hlast hfx
          go_wp2_with fail
          refine C5.mono ?_
          rintro e w5 ⟨v5, rfl, ho5, hb5⟩
          clear C5 hx s1 s2
          have h5 := H3.out.step hb5
          have hl0 : (bytesV (TL ++ gapsB (-1) (pos.take j))).length + (bytesV (uvar m)).length < 1000000000001 := by rw [bytesV_length, bytesV_length, List.length_append]; omega
          have hz5 := h5.below.size
          have H5 := Lib.hid h5
          have HRD5 := Lib.hid ho5.rd
          have H1C := Lib.hid (bytesV_one (uvar m))
          have HL0 := Lib.hid hl0
          clear h5 ho5 hb5 hl0 H3
          go_wp2_with (at_builtin; with_reducible refine apN elBytes H5.out.t HRD5.out H1C.out HL0.out hz5 rfl _ _ rfl rfl rfl ?_)
          intro v6 w6 k1 k2 k3 k4
          have h6 := H5.out.putT _ k1 k2 k4
          rw [List.append_assoc, ← HSN.out] at h6
          obtain ⟨A6, N6, C6, rfl⟩ := own_sl k1
          have H6 := Lib.hid h6
          clear h6 k1 k2 k3 k4 H5
          go_wp2
          go_roundw
          case rel => exact ⟨j + 1, A6, N6, C6, rfl, by rw [HNL.out], by go_num, by omega, H6.out⟩
          case measure => simp [intOf]; omega
        · obtain rfl : j = pos.length := by omega
          have j1 : ¬ ((pos.length : Int) < (pos.length : Int)) := by omega
          rw [List.take_length, ← HTS2.out] at h3
          have h3' := h3
          rw [← HGL2.out, ← HFL2.out] at h3'
          have H3 := Lib.hid h3'
          obtain ⟨LX, hLX⟩ : ∃ LX, (pos.take pos.length).getLastD (-1) = LX := ⟨_, rfl⟩
          rw [hLX]
          clear h3 h3' hLX hlt2 hj
          go_wp2
          go_roundw
          case rel => exact ⟨i + 1, B1, B2, A3', M1, M2, N3', K1, K2, C3', by rw [HLS.out], rfl, rfl, rfl, by go_num, by omega, H3.out⟩
          case measure => simp [intOf]; omega
    · obtain rfl : i = ps.length := by omega
      have i1 : ¬ ((ps.length : Int) < (ps.length : Int)) := by omega
      simp only [List.take_length] at h3
      obtain ⟨LX, hLX⟩ : ∃ LX, lastV base (ps.take ps.length) = LX := ⟨_, rfl⟩
      rw [hLX]
      have hgl := gapsD_length base ps
      have hfl := freqV_length ps
      have E1 := rpk_ok wr A1 N1 C1 (gapsD base ps) h3.g.rd (by omega) (gapsD_fits HOK.out hb0)
      rw [pckN_small (by omega)] at E1
      have hzr := h3.below.size
      have htl := tailV_le HF.out HOK.out
      have H3lt := Lib.hid h3.t.lt
      have H3 := Lib.hid h3
      clear h3 hLX hlt hi
      go_wp2_with fail
      refine E1.mono ?_
      rintro e w2 ⟨v2, rfl, ho2, hb2⟩
      clear E1
      obtain ⟨B2, M2, K2, rfl⟩ := own_sl ho2
      have h32 := H3.out.step hb2
      have E2 := rpk_ok w2 A2 N2 C2 (freqV ps) h32.f.rd (by omega) (freqV_fits HF.out)
      rw [pckN_small (by omega)] at E2
      have HO2 := Lib.hid ho2
      have H32 := Lib.hid h32
      clear ho2 hb2 h32 H3
      go_wp2_with fail
      refine E2.mono ?_
      rintro e w4 ⟨v4, rfl, ho4, hb4⟩
      clear E2
      obtain ⟨B4, M4, K4, rfl⟩ := own_sl ho4
      have h34 := H32.out.step hb4
      have ho24 := own_base (HO2.out.below hb4 (Nat.le_refl _)) (base' := w.heap.size) hzr
      have hp1 := pckB_le (l := gapsD base ps) (by omega) (gapsD_fits HOK.out hb0)
      have hp2 := pckB_le (l := freqV ps) (by omega) (freqV_fits HF.out)
      have hl1 : (bytesV (pckB (gapsD base ps))).length + (bytesV (pckB (freqV ps))).length < 1000000000001 := by rw [bytesV_length, bytesV_length]; omega
      have hz4 := h34.below.size
      have hfar : ∀ k, (Value.slice B2 M2 K2).ownBlock = some k → (Value.slice A3 N3 C3).ownBlock ≠ some k := fun k h1 h2 => by
        have g1 := (HO2.out.lt k h1).1
        have g2 := (H3lt.out k h2).2
        omega
      have HO24 := Lib.hid ho24
      have HRD4 := Lib.hid ho4.rd
      have H1A := Lib.hid (bytesV_one (pckB (freqV ps)))
      have HL1 := Lib.hid hl1
      have H34 := Lib.hid h34
      have HFAR := Lib.hid hfar
      clear ho24 ho4 hb4 hl1 h34 hfar HO2 H32
      go_wp2_with (at_builtin; with_reducible refine apN elBytes HO24.out HRD4.out H1A.out HL1.out hz4 rfl _ _ rfl rfl rfl ?_)
      intro v5 w5 k1 k2 k3 k4
      have ht5 := k2 _ _ _ _ H34.out.t (fun k h1 h2 => absurd h2 (HFAR.out k h1))
      have hb5 := H34.out.below.grown k4 hz4 (fun k hk => (HO24.out.lt k hk).1)
      rw [← bytesV_append] at k1
      obtain ⟨B5, M5, K5, rfl⟩ := own_sl k1
      have hl2 : (bytesV (pckB (gapsD base ps) ++ pckB (freqV ps))).length + (bytesV (tailV ps)).length < 1000000000001 := by rw [bytesV_length, bytesV_length, List.length_append]; omega
      have hz5 := hb5.size
      have HO5 := Lib.hid k1
      have HRD5 := Lib.hid ht5.rd
      have H1B := Lib.hid (bytesV_one (tailV ps))
      have HL2 := Lib.hid hl2
      have HB5 := Lib.hid hb5
      clear k1 k2 k3 k4 ht5 hb5 hl2 H34 HO24 HRD4
      go_wp2_with (at_builtin; with_reducible refine apN elBytes HO5.out HRD5.out H1B.out HL2.out hz5 rfl _ _ rfl rfl rfl ?_)
      intro v6 w6 k1 k2 k3 k4
      have hb6 := HB5.out.grown k4 hz5 (fun k hk => (HO5.out.lt k hk).1)
      rw [← bytesV_append, List.append_assoc] at k1
      obtain ⟨B6, M6, K6, rfl⟩ := own_sl k1
      have HO6 := Lib.hid k1
      have HB6 := Lib.hid hb6
      clear k1 k2 k3 k4 hb6
      go_wp2
      go_ret
      exact ⟨_, rfl, HO6.out, HB6.out⟩
end Go.Proofs.YthnpbfadblcicaaDoor

/- codec.Writer: Raw, Text. -/
namespace Go.Proofs.YthnpbfadblcicaaDoor
set_option linter.unusedVariables false
open Go.ChangeShapes Go.WideShapes Go.ChangeAt Go.RowKit

set_option maxRecDepth 100000 in
theorem wraw_any (w : World) (base p : Nat) (v : Value) (bs : List UInt8) (h : Wr w base p v bs) (hb : base ≤ w.heap.size) (hl : bs.length ≤ 10000000000) (s : Value) (cs : List UInt8) (hr : Rd w s (bytesV cs)) (hcs : cs.length ≤ 10000000000) :
    Calls Tryd.prog 34 #[.pointer (some ⟨p, 0, none⟩), s] w fun e w' => e = .returned (.tuple #[]) ∧ ∃ v', Wr w' base p v' (bs ++ cs) ∧ Wrote w w' p v v' := by
  have hl' : (bytesV bs).length + (bytesV cs).length < 1000000000001 := by rw [bytesV_length, bytesV_length]; omega
  have hc := h.read
  have hown := h.own
  have HO := Lib.hid (bytesV_one cs)
  have HR := Lib.hid hr
  obtain ⟨av, nv, cv, rfl⟩ := own_sl hown
  obtain ⟨as_, ns, cs_, rfl⟩ : ∃ a n c, s = .slice a n c := by obtain ⟨A, c, h, _⟩ := hr; exact ⟨_, _, _, h⟩
  clear hr
  go_enter Tryd.func34, Tryd.ntmps34
  go_wp2_with (at_builtin; with_reducible refine apN elBytes hown HR.out HO.out hl' hb rfl _ _ rfl rfl rfl ?_)
  intro v1 w1 g1 g2 g3 g4
  obtain ⟨hc1, hf1⟩ := wr_cell h g4
  obtain ⟨a1, n1, c1, rfl⟩ := own_sl g1
  rw [← bytesV_append] at g1
  obtain ⟨hw2, hwr2⟩ := wr_app h g1 (g3.imp id (fun h => ⟨_, h.1, Nat.le_refl _⟩)) g4
  go_wp2
  go_end0
  exact ⟨rfl, _, hw2, hwr2⟩

end Go.Proofs.YthnpbfadblcicaaDoor

/- posts: two Writers apart; Concat of two. -/
namespace Go.Proofs.YthnpbfadblcicaaDoor
set_option linter.unusedVariables false
open Go.ChangeShapes Go.WideShapes Go.ChangeAt Go.RowKit

/-- Two Writers that share no block. -/
def Apart2 (p1 : Nat) (v1 : Value) (p2 : Nat) (v2 : Value) : Prop := ∀ k, WrB p1 v1 k → ¬ WrB p2 v2 k
theorem Apart2.left {w w' : World} {base p1 p2 : Nat} {v1 v1' v2 : Value} {b2 : List UInt8} (h : Apart2 p1 v1 p2 v2) (hw : Wrote w w' p1 v1 v1') (h2 : Wr w base p2 v2 b2) : Apart2 p1 v1' p2 v2 := by
  rintro k (rfl | hk) h3
  · exact h k (.inl rfl) h3
  · rcases hw.fresh k hk with h4 | h4
    · exact h k (.inr h4) h3
    · have := (h2.ge k h3).2; omega
theorem Apart2.right {w w' : World} {base p1 p2 : Nat} {v1 v2 v2' : Value} {b1 : List UInt8} (h : Apart2 p1 v1 p2 v2) (hw : Wrote w w' p2 v2 v2') (h1 : Wr w base p1 v1 b1) : Apart2 p1 v1 p2 v2' := by
  rintro k hk (rfl | h3)
  · exact h k hk (.inl rfl)
  · rcases hw.fresh k h3 with h4 | h4
    · exact h k hk (.inr h4)
    · have := (h1.ge k hk).2; omega
theorem cat_two (w : World) (v1 v2 : Value) (b1 b2 : List UInt8) (h1 : Rd w v1 (bytesV b1)) (h2 : Rd w v2 (bytesV b2)) (hn : b1.length + b2.length ≤ 1000000000) :
    Calls Tryd.prog 35 #[.slice (some ⟨w.heap.size, 0, none⟩) 2 2] (w.alloc (.cells #[v1, v2] 24)) fun e w' => ∃ v', e = .returned v' ∧ Own w' w.heap.size 5 v' (bytesV (b1 ++ b2)) ∧ Below w.heap.size w w' := by
  have hB0 : Below w.heap.size w (w.alloc (.cells #[v1, v2] 24)) := (Below.refl _ _).alloc (Nat.le_refl _) _
  have hr1 := h1.below hB0 (Nat.le_refl _)
  have hr2 := h2.below hB0 (Nat.le_refl _)
  have hls : Rd (w.alloc (.cells #[v1, v2] 24)) (.slice (some ⟨w.heap.size, 0, none⟩) 2 2) [v1, v2] := (own_lit w w.heap.size 24 [v1, v2] (Nat.le_refl _) (by simp [maxLen])).rd
  have hBs : Rds (w.alloc (.cells #[v1, v2] 24)) [v1, v2] (fun k => if k = 0 then b1 else b2) := fun k x hx => by
    match k, hx with
    | 0, hx => simp at hx; subst hx; exact hr1
    | 1, hx => simp at hx; subst hx; exact hr2
    | k + 2, hx => simp at hx
  have hcl : catL (fun k => if k = 0 then b1 else b2) 2 = b1 ++ b2 := by simp [catL, List.range_succ]
  have C1 := cat_any _ _ 2 2 _ _ hls hBs (by simp) (by rw [show [v1, v2].length = 2 from rfl, hcl, List.length_append]; exact hn)
  rw [show [v1, v2].length = 2 from rfl, hcl] at C1
  refine C1.mono ?_
  rintro e w1 ⟨v, rfl, ho, hb⟩
  exact ⟨v, rfl, own_base ho (by simp), hB0.trans (hb.mono (by simp))⟩
/-- The postings of one block. -/
theorem chunk_eq (ps : List PostV) (at_ hi : Nat) (h : hi = min (at_ + 16) ps.length) : (ps.take hi).drop at_ = (ps.drop at_).take 16 := by
  rw [List.drop_take]
  by_cases h1 : at_ + 16 ≤ ps.length
  · rw [show hi - at_ = 16 by omega]
  · rw [List.take_of_length_le (by rw [List.length_drop]; omega), List.take_of_length_le (by rw [List.length_drop]; omega)]
theorem last_chunk (ps : List PostV) (at_ : Nat) : lastV (lastV (-1) (ps.take at_)) ((ps.drop at_).take 16) = lastV (-1) (ps.take (at_ + 16)) := by
  rw [← lastV_append, ← List.take_add]
end Go.Proofs.YthnpbfadblcicaaDoor
