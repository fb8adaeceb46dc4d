/- posts: Encode. -/
import Derived.Test.YthnpbfadblcicaaDoorZG11
namespace Go.Proofs.YthnpbfadblcicaaDoor
set_option linter.unusedVariables false
open Go.ChangeShapes Go.WideShapes Go.ChangeAt Go.RowKit

/-- What Encode answers and leaves. -/
def EncPost (w : World) (EA : Nat → Addr) (ps : List PostV) (e : Ending) (w' : World) : Prop :=
  (okV (-1) ps → ∃ A N C, e = .returned (.tuple #[.slice A N C, .nilIface]) ∧ Own w' w.heap.size 5 (.slice A N C) (bytesV (imageV ps)) ∧ Below w.heap.size w w') ∧
  (¬ okV (-1) ps → e = .returned (.tuple #[.slice none 0 0, errV EA (checkV (-1) ps)]) ∧ Below w.heap.size w w')
theorem okV_lt {base : Int} {l : List PostV} (ok : okV base l) (hb : base < 2147483647) : lastV base l < 2147483647 := by
  by_cases h : l = []
  · subst h; exact hb
  · exact ((okV_last ok).2 h).2.1
theorem lastV_at (base : Int) (l : List PostV) (k : Nat) (h : k < l.length) (hk : k + 1 = l.length) : lastV base l = l[k].doc := by
  have hne : l ≠ [] := fun e => by rw [e] at h; simp at h
  rw [lastV_get base l hne]
  have hk2 : l.length - 1 = k := by omega
  simp only [hk2]
/-- Two Writers of the call's own. -/
structure Two (w W : World) (p1 p2 : Nat) (v1 v2 : Value) (H B : List UInt8) : Prop where
  w1 : Wr W w.heap.size p1 v1 H
  w2 : Wr W w.heap.size p2 v2 B
  ap : Apart2 p1 v1 p2 v2
  below : Below w.heap.size w W
theorem Two.left {w W W' : World} {p1 p2 : Nat} {v1 v2 v1' : Value} {H B H' : List UInt8} (h : Two w W p1 p2 v1 v2 H B) (hw : Wr W' w.heap.size p1 v1' H') (hwt : Wrote W W' p1 v1 v1') : Two w W' p1 p2 v1' v2 H' B :=
  ⟨hw, h.w2.eff hwt.eff (fun k hk h9 => h.ap k h9 hk), h.ap.left hwt h.w2, h.below.trans (hwt.below h.w1 h.below.size)⟩
theorem Two.right {w W W' : World} {p1 p2 : Nat} {v1 v2 v2' : Value} {H B B' : List UInt8} (h : Two w W p1 p2 v1 v2 H B) (hw : Wr W' w.heap.size p2 v2' B') (hwt : Wrote W W' p2 v2 v2') : Two w W' p1 p2 v1 v2' H B' :=
  ⟨h.w1.eff hwt.eff (fun k hk h9 => h.ap k hk h9), hw, h.ap.right hwt h.w1, h.below.trans (hwt.below h.w2 h.below.size)⟩
theorem Two.step {w W W' : World} {p1 p2 : Nat} {v1 v2 : Value} {H B : List UInt8} (h : Two w W p1 p2 v1 v2 H B) (hb : Below W.heap.size W W') : Two w W' p1 p2 v1 v2 H B :=
  ⟨h.w1.eff (F := fun _ => False) (Eff.of_below hb _) (fun _ _ f => f), h.w2.eff (F := fun _ => False) (Eff.of_below hb _) (fun _ _ f => f), h.ap, h.below.trans (hb.mono h.below.size)⟩
theorem two_new (w W : World) (h : Below w.heap.size w W) : Two w ((W.alloc (.cells #[.slice none 0 0] 100)).alloc (.cells #[.slice none 0 0] 100)) W.heap.size (W.heap.size + 1) (.slice none 0 0) (.slice none 0 0) [] [] := by
  have hs := h.size
  refine ⟨⟨(Below.heap_alloc _ _ _ (by simp)).trans (heap_alloc_new W _), hs, own_nil _ _ _⟩, ⟨by have := heap_alloc_new (W.alloc (.cells #[.slice none 0 0] 100)) (.cells #[.slice none 0 0] 100); rwa [World.size_alloc] at this, by omega, own_nil _ _ _⟩, fun k hk h9 => ?_, (h.alloc hs _).alloc (by simp; omega) _⟩
  rcases hk with rfl | hk
  · rcases h9 with h9 | h9
    · omega
    · simp [Value.ownBlock] at h9
  · simp [Value.ownBlock] at hk
set_option maxRecDepth 100000 in
set_option maxHeartbeats 8000000 in
theorem encode_any (w : World) (a : Option Addr) (n c : Nat) (ps : List PostV) (hr : RdPost w a n ps) (hnc : n ≤ c) (hf : FitP ps) (hl : ps.length ≤ 1048576) (hT : totalV ps ≤ 20000000) (EA : Nat → Addr) (hS : Sent7 w EA) :
    Calls Tryd.prog 10 #[.slice a n c] w (EncPost w EA ps) := by
  obtain rfl := hr.1
  obtain ⟨G, hG⟩ : ∃ G, checkV (-1) ps = G := ⟨_, rfl⟩
  have HG := Lib.hid hG
  have HR := Lib.hid hr
  have HF := Lib.hid hf
  have HS := Lib.hid hS
  clear hr hf hS hG
  go_enter Tryd.func10, Tryd.ntmps10
  go_wp2
  go_loopw [4, 5, 18] (fun s4 s5 s18 wr => ∃ (i : Nat) (before : Int), s4 = .int .i64 before ∧ s5 = .int .i64 (totalV (ps.take i) : Nat) ∧ s18 = .int .i64 i ∧ i ≤ ps.length ∧ checkV before (ps.drop i) = G ∧ Below w.heap.size w wr) (fun _ _ s18 _ => ps.length - (intOf s18).toNat)
  case atStart => exact ⟨0, -1, rfl, rfl, rfl, Nat.zero_le _, HG.out, Below.refl _ _⟩
  case round =>
    obtain ⟨i, before, rfl, rfl, rfl, hi, hck, hb⟩ := hrel
    by_cases hlt : i < ps.length
    · obtain ⟨b, o, rfl, hg⟩ := (HR.out.below hb (Nat.le_refl _)).2 (by omega)
      obtain ⟨g0, A, C, g1, hrd⟩ := hg i hlt
      have htt := totalV_take ps i hlt
      have hts := totalV_split ps (i + 1)
      rw [checkV_drop hlt] at hck
      have hpl := (HF.out ps[i] (List.getElem_mem hlt)).2.2
      obtain ⟨x, hx⟩ : ∃ x, ps[i] = x := ⟨_, rfl⟩
      rw [hx] at g0 g1 hrd hck htt hpl
      obtain ⟨doc, pos⟩ := x
      simp only at g0 g1 hrd hck htt hpl
      have i1 : (i : Int) < (ps.length : Int) := by omega
      have hbA := hb.alloc hb.size (.cells #[.int .i64 doc, .slice A pos.length C] 53)
      have e1 := heap_alloc_new wr (.cells #[.int .i64 doc, .slice A pos.length C] 53)
      have C1 := good_any (wr.alloc (.cells #[.int .i64 doc, .slice A pos.length C] 53)) doc before A pos.length C pos (hrd.below ((Below.refl _ wr).alloc (Nat.le_refl _) _) (Nat.le_refl _)) (by omega) EA (HS.out.below hbA)
      obtain ⟨t1, ht1⟩ : ∃ t1, totalV (ps.take i) = t1 := ⟨_, rfl⟩
      rw [ht1] at htt ⊢
      have HBA := Lib.hid hbA
      have HE1 := Lib.hid e1
      have HTT := Lib.hid htt
      have htb : t1 + pos.length ≤ 20000000 := by omega
      clear hg hrd hx hb hbA e1 htt hts ht1
      rcases goodV_cases before ⟨doc, pos⟩ with hgv | hgv | hgv
      · rw [hgv] at C1 hck
        rw [if_pos rfl] at hck
        have HCK := Lib.hid hck
        clear hck hgv
        go_wp2_with fail
        refine C1.mono ?_
        rintro e w5 ⟨rfl, hb5⟩
        clear C1
        have e5 := (hb5.block _ (lt_of_heap HE1.out)).trans HE1.out
        have c0 := blk_cell e5 0
        have c1 := blk_cell e5 1
        have HB5 := Lib.hid (HBA.out.trans (hb5.mono HBA.out.size))
        clear hb5 e5 g0 g1
        unfold errK
        go_wp2
        go_roundw
        case rel => exact ⟨i + 1, doc, rfl, by rw [HTT.out]; go_num, by go_num, by omega, HCK.out, HB5.out⟩
        case measure => simp [intOf]; omega
      · rw [hgv] at C1 hck
        rw [if_neg (by decide)] at hck
        subst hck
        clear hgv
        go_wp2_with fail
        refine C1.mono ?_
        rintro e w5 ⟨rfl, hb5⟩
        clear C1
        have HB5 := Lib.hid (HBA.out.trans (hb5.mono HBA.out.size))
        clear hb5 g0 g1
        unfold errK errV
        go_wp2
        go_ret2
        exact ⟨fun h => absurd (HG.out.symm.trans h) (by decide), fun _ => ⟨by rw [HG.out]; rfl, HB5.out⟩⟩
      · rw [hgv] at C1 hck
        rw [if_neg (by decide)] at hck
        subst hck
        clear hgv
        go_wp2_with fail
        refine C1.mono ?_
        rintro e w5 ⟨rfl, hb5⟩
        clear C1
        have HB5 := Lib.hid (HBA.out.trans (hb5.mono HBA.out.size))
        clear hb5 g0 g1
        unfold errK errV
        go_wp2
        go_ret2
        exact ⟨fun h => absurd (HG.out.symm.trans h) (by decide), fun _ => ⟨by rw [HG.out]; rfl, HB5.out⟩⟩
    · obtain rfl : i = ps.length := by omega
      have i1 : ¬ ((ps.length : Int) < (ps.length : Int)) := by omega
      rw [List.drop_length] at hck
      have hck : 0 = G := hck
      subst hck
      rw [List.take_length]
      have HOK := Lib.hid (show okV (-1) ps from HG.out)
      have HB := Lib.hid hb
      have C2 := nw_any wr
      clear hb hlt hi
      go_wp2_with fail
      refine C2.mono ?_
      rintro e w2 ⟨rfl, rfl⟩
      clear C2
      have h2n := two_new w wr HB.out
      have C3 := nw_any (wr.alloc (.cells #[.slice none 0 0] 100))
      rw [World.size_alloc] at C3
      go_wp2_with fail
      refine C3.mono ?_
      rintro e w3 ⟨rfl, rfl⟩
      clear C3
      generalize (wr.alloc (.cells #[.slice none 0 0] 100)).alloc (.cells #[.slice none 0 0] 100) = w3 at h2n ⊢
      have sN : IntKind.u64.wrap (ps.length : Int) = (ps.length : Int) := by rw [IntKind.wrap_u64]; omega
      have sT : IntKind.u64.wrap (totalV ps : Int) = (totalV ps : Int) := by rw [IntKind.wrap_u64]; omega
      have C4 := wuv_any w3 w.heap.size wr.heap.size (.slice none 0 0) [] h2n.w1 h2n.below.size (by simp) ps.length (by omega)
      have H2 := Lib.hid h2n
      clear h2n
      go_wp2_with fail
      refine C4.mono ?_
      rintro e w4 ⟨rfl, v4, hw4, hwt4⟩
      clear C4
      have h24 := H2.out.left hw4 hwt4
      rw [List.nil_append] at h24
      have ul := uvar_le ps.length (by omega)
      have ut := uvar_le (totalV ps) (by omega)
      have C5 := wuv_any w4 w.heap.size wr.heap.size v4 (uvar ps.length) h24.w1 h24.below.size (by omega) (totalV ps) (by omega)
      have H4 := Lib.hid h24
      clear hw4 hwt4 h24 H2
      go_wp2_with fail
      refine C5.mono ?_
      rintro e w5 ⟨rfl, v5, hw5, hwt5⟩
      clear C5
      have h25 := H4.out.left hw5 hwt5
      obtain ⟨P0, hP0⟩ : ∃ P0, uvar ps.length ++ uvar (totalV ps) = P0 := ⟨_, rfl⟩
      have hP0l : P0.length ≤ 20 := by rw [← hP0, List.length_append]; omega
      rw [hP0] at h25
      obtain ⟨hHV, hBV⟩ := blks_le _ (-1) ps (Nat.le_refl _) HF.out HOK.out (by omega) (by omega) (by omega)
      obtain ⟨HV, hHVe⟩ : ∃ HV, headV (blksV (-1) (chp ps)) = HV := ⟨_, rfl⟩
      obtain ⟨BV, hBVe⟩ : ∃ BV, bodyV (blksV (-1) (chp ps)) = BV := ⟨_, rfl⟩
      have him : imageV ps = P0 ++ (HV ++ BV) := by unfold imageV; rw [hP0, hHVe, hBVe]
      rw [hHVe] at hHV
      rw [hBVe] at hBV
      have H5 := Lib.hid h25
      have HIM := Lib.hid him
      have HHV := Lib.hid hHVe
      have HBV := Lib.hid hBVe
      clear hw5 hwt5 h25 H4 hP0 him hHVe hBVe sN sT
      go_wp2
      obtain ⟨wo, rfl⟩ : ∃ wo : World, wo = wr := ⟨_, rfl⟩
      go_loopw [11, 12] (fun s11 s12 wr => ∃ (at_ : Nat) (base : Int) (v1 v2 : Value) (H B : List UInt8), s11 = .int .i64 base ∧ s12 = .int .i64 at_ ∧ at_ ≤ ps.length + 15 ∧ base = lastV (-1) (ps.take at_) ∧ Two w wr wo.heap.size (wo.heap.size + 1) v1 v2 (P0 ++ H) B ∧
          H ++ headV (blksV base (chp (ps.drop at_))) = HV ∧ B ++ bodyV (blksV base (chp (ps.drop at_))) = BV) (fun _ s12 _ => ps.length + 16 - (intOf s12).toNat)
      case atStart => exact ⟨0, -1, v5, .slice none 0 0, [], [], rfl, rfl, by omega, rfl, by simpa using H5.out, by rw [List.drop_zero, List.nil_append]; exact HHV.out, by rw [List.drop_zero, List.nil_append]; exact HBV.out⟩
      case round =>
        clear i1 H5 HHV HBV
        obtain ⟨at_, base, v1, v2, H, B, rfl, rfl, hat, hbase, h2, hH, hB⟩ := hrel
        by_cases hlt : at_ < ps.length
        · have hrd := HR.out.below h2.below (Nat.le_refl _)
          obtain ⟨b, o, rfl, _⟩ := hrd.2 (by omega)
          obtain ⟨hi, hhi⟩ : ∃ hi, min (at_ + 16) ps.length = hi := ⟨_, rfl⟩
          have hpart := rdPost_part hrd at_ hi (by omega) (by omega)
          rw [chunk_eq ps at_ hi hhi.symm] at hpart
          obtain ⟨eH, eB⟩ := enc_step (base := base) hlt
          rw [eH] at hH
          rw [eB] at hB
          have okd := (okV_split HOK.out at_).2
          have okc := (okV_split okd 16).1
          have hbge := okV_ge (okV_split HOK.out at_).1 (by omega)
          have hblt := okV_lt (okV_split HOK.out at_).1 (by omega)
          have hlc := last_chunk ps at_
          rw [← hbase] at okc hbge hblt hlc
          have hfc := (HF.out.drop at_).take 16
          have htc1 := totalV_split ps at_
          have htc2 := totalV_split (ps.drop at_) 16
          obtain ⟨CH, hCH⟩ : ∃ CH, (ps.drop at_).take 16 = CH := ⟨_, rfl⟩
          rw [hCH] at hpart hH hB okc hfc htc2 hlc
          obtain ⟨D, hD⟩ : ∃ D, hi - at_ = D := ⟨_, rfl⟩
          rw [hD] at hpart
          have hDl : D = CH.length := hpart.1
          have C6 := pack_any wr (some ⟨b, o + at_ * 2, none⟩) D (c - at_) CH hpart hfc base hbge hblt okc (by omega) (by omega)
          have hmn : min ((at_ : Int) + 16) (ps.length : Int) = (hi : Int) := by omega
          have i1 : (at_ : Int) < (ps.length : Int) := by omega
          have a1 : (at_ : Int) ≤ (hi : Int) := by omega
          have a2 : (hi : Int) ≤ (c : Int) := by omega
          have a3 : at_ < c := by omega
          have hsd : ((hi : Int) - (at_ : Int)).toNat = D := by omega
          have H2 := Lib.hid h2
          have hlast := (okV_last okc).2 (fun e => by rw [e] at hDl; simp at hDl; omega)
          have hlg := lastV_at base CH
          have hch0 : 0 < CH.length := by omega
          have hch16 : CH.length ≤ 16 := by omega
          have hbb := blockB_le hfc okc hbge (by omega)
          obtain ⟨L, hL⟩ : ∃ L, lastV base CH = L := ⟨_, rfl⟩
          obtain ⟨BB, hBB⟩ : ∃ BB, blockB base CH = BB := ⟨_, rfl⟩
          rw [hL] at hH hB hlast hlc
          simp only [hL] at hlg
          rw [hBB] at hH hB hbb C6
          have hHl : H.length ≤ HV.length := by rw [← hH, List.length_append]; omega
          have hBl : B.length ≤ BV.length := by rw [← hB, List.length_append]; omega
          have hwl := h2.w1.ge
          have HLC := Lib.hid hlc
          have HHH := Lib.hid hH
          have HBB2 := Lib.hid hB
          have HPART := Lib.hid hpart
          have HLG := Lib.hid hlg
          have HWL := Lib.hid hwl
          have hzb := h2.below.size
          obtain ⟨k, hk⟩ : ∃ k, k + 1 = CH.length := ⟨CH.length - 1, by omega⟩
          have hBBl : BB.length ≤ 1000000000 := by omega
          clear hbase hlc hH hB hpart hlg hwl okc okd hfc htc1 htc2 hbb hL hBB hCH eH eB h2 hrd hhi
          subst hDl
          go_wp2_with fail
          with_reducible refine C6.mono ?_
          rintro e w6 ⟨v6, rfl, ho6, hb6⟩
          clear C6 hD hsd
          obtain ⟨A6, N6, K6, rfl⟩ := own_sl ho6
          have hn6 := ho6.len
          rw [bytesV_length] at hn6
          subst hn6
          have h26 := H2.out.step hb6
          have hx : w6.cell? ⟨b, o + at_ * 2 + k * 2, none⟩ = some (.int .i64 L) := by
            obtain ⟨b', o', e, hg⟩ := (HPART.out.below hb6 (Nat.le_refl _)).2 hch0
            injection e with e
            injection e with e1 e2 _
            subst e1 e2
            have h9 := (hg k (by omega)).1
            rw [h9, HLG.out k (by omega) hk]
          obtain ⟨gp, hgp⟩ : ∃ gp, (L - base - 1).toNat = gp := ⟨_, rfl⟩
          obtain ⟨D1, hD1⟩ : ∃ D1, L - base = D1 := ⟨_, rfl⟩
          have s0 : IntKind.i64.wrap ((CH.length : Int) - 1) = (k : Int) := by rw [IntKind.wrap_i64]; omega
          have i2 : (k : Int) < (CH.length : Int) := by omega
          have s1 : IntKind.i64.wrap (L - base) = D1 := by rw [IntKind.wrap_i64]; omega
          have s2 : IntKind.i64.wrap (D1 - 1) = (gp : Int) := by rw [IntKind.wrap_i64]; omega
          have s3 : IntKind.u64.wrap (gp : Int) = (gp : Int) := by rw [IntKind.wrap_u64]; omega
          have s4 : IntKind.u64.wrap (BB.length : Int) = (BB.length : Int) := by rw [IntKind.wrap_u64]; omega
          have C7 := wuv_any w6 w.heap.size wo.heap.size v1 (P0 ++ H) h26.w1 h26.below.size (by rw [List.length_append]; omega) gp (by omega)
          have hfar6 : ∀ q, (Value.slice A6 BB.length K6).ownBlock = some q → wr.heap.size ≤ q ∧ q < w6.heap.size := ho6.lt
          have HO6 := Lib.hid ho6
          have H6 := Lib.hid h26
          have HFAR := Lib.hid hfar6
          have HGP := Lib.hid hgp
          have hgpl : gp ≤ 2147483648 := by omega
          have hHHH := HHH.out
          rw [HGP.out] at hHHH
          have HH1 := Lib.hid hHHH
          clear ho6 hb6 h26 hfar6 hgp hD1 H2 hk hHHH HHH
          go_wp2_with fail
          with_reducible refine C7.mono ?_
          rintro e w7 ⟨rfl, v7, hw7, hwt7⟩
          clear C7 hx s0 s1 s2 s3
          have h27 := H6.out.left hw7 hwt7
          have ho7 := HO6.out.eff hwt7.eff (fun q hq hF => by have h1 := (HFAR.out q hq).1; have h3 := (HWL.out q hF).2; omega)
          have ug := uvar_le gp (by omega)
          have hfar7 : ∀ q, (Value.slice A6 BB.length K6).ownBlock = some q → ¬ WrB wo.heap.size v7 q := fun q hq hF => by
            have h1 := HFAR.out q hq
            rcases hF with h9 | h9
            · have h3 := (HWL.out q (.inl h9)).2; omega
            · rcases hwt7.fresh q h9 with h8 | h8
              · have h3 := (HWL.out q (.inr h8)).2; omega
              · omega
          have C8 := wuv_any w7 w.heap.size wo.heap.size v7 (P0 ++ H ++ uvar gp) h27.w1 h27.below.size (by rw [List.length_append, List.length_append]; omega) BB.length (by omega)
          have HO7 := Lib.hid ho7
          have H7 := Lib.hid h27
          have HFAR7 := Lib.hid hfar7
          clear hw7 hwt7 h27 ho7 hfar7 HO6 H6
          go_wp2_with fail
          with_reducible refine C8.mono ?_
          rintro e w8 ⟨rfl, v8, hw8, hwt8⟩
          clear C8 s4
          have h28 := H7.out.left hw8 hwt8
          have ho8 := HO7.out.eff hwt8.eff (fun q hq => HFAR7.out q hq)
          have C9 := wraw_any w8 w.heap.size (wo.heap.size + 1) v2 B h28.w2 h28.below.size (by omega) (.slice A6 BB.length K6) BB ho8.rd (by omega)
          have H8 := Lib.hid h28
          clear hw8 hwt8 h28 ho8 HO7 H7
          go_wp2_with fail
          with_reducible refine C9.mono ?_
          rintro e w9 ⟨rfl, v9, hw9, hwt9⟩
          clear C9
          have h29 := H8.out.right hw9 hwt9
          rw [List.append_assoc P0 H (uvar gp), List.append_assoc P0, List.append_assoc H] at h29
          have hH9 := HH1.out
          have hB9 := HBB2.out
          rw [← List.append_assoc] at hH9 hB9
          have H9 := Lib.hid h29
          have HH9 := Lib.hid hH9
          have HB9 := Lib.hid hB9
          clear hw9 hwt9 h29 hH9 hB9 H8
          go_wp2
          go_roundw
          case rel => exact ⟨at_ + 16, L, v8, v9, H ++ (uvar gp ++ uvar BB.length), B ++ BB, rfl, by go_num, by omega, HLC.out, H9.out, HH9.out, HB9.out⟩
          case measure => simp [intOf]; omega
        · obtain ⟨eH, eB⟩ := enc_end (base := base) hlt
          rw [eH, List.append_nil] at hH
          rw [eB, List.append_nil] at hB
          subst hH hB
          have i1 : ¬ ((at_ : Int) < (ps.length : Int)) := by omega
          have C6 := wbytes_any wr w.heap.size wo.heap.size v1 (P0 ++ H) h2.w1 (by rw [List.length_append]; omega)
          have H2 := Lib.hid h2
          clear h2 eH eB hlt hat hbase
          go_wp2_with fail
          refine C6.mono ?_
          rintro e w6 ⟨v6, rfl, ho6, hb6⟩
          clear C6
          have h26 := H2.out.step hb6
          have C7 := wbytes_any w6 w.heap.size (wo.heap.size + 1) v2 B h26.w2 (by omega)
          obtain ⟨A6, N6, K6, rfl⟩ := own_sl ho6
          have HO6 := Lib.hid ho6
          have H6 := Lib.hid h26
          clear ho6 hb6 h26 H2
          go_wp2_with fail
          refine C7.mono ?_
          rintro e w7 ⟨v7, rfl, ho7, hb7⟩
          clear C7
          obtain ⟨A7, N7, K7, rfl⟩ := own_sl ho7
          have C8 := cat_two w7 (.slice A6 N6 K6) (.slice A7 N7 K7) (P0 ++ H) B (HO6.out.rd.below hb7 (Nat.le_refl _)) ho7.rd (by rw [List.length_append]; omega)
          have hb07 := (H6.out.step hb7).below
          have HB7 := Lib.hid hb07
          clear ho7 hb7 hb07 HO6 H6
          go_wp2_with fail
          refine C8.mono ?_
          rintro e w8 ⟨v8, rfl, ho8, hb8⟩
          clear C8
          rw [List.append_assoc, ← HIM.out] at ho8
          obtain ⟨A8, N8, K8, rfl⟩ := own_sl ho8
          have HO8 := Lib.hid (own_base ho8 HB7.out.size)
          have HB8 := Lib.hid (HB7.out.trans (hb8.mono HB7.out.size))
          clear ho8 hb8
          go_wp2
          go_ret2
          exact ⟨fun _ => ⟨A8, N8, K8, rfl, HO8.out, HB8.out⟩, fun h => absurd HOK.out h⟩
end Go.Proofs.YthnpbfadblcicaaDoor
