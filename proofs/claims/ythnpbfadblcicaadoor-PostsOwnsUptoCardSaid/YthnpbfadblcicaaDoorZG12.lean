/- Merged: RSkips, RHead. -/
import Derived.Test.YthnpbfadblcicaaDoorZG11
import Derived.Test.YthnpbfadblcicaaDoorZG3
import Derived.Test.YthnpbfadblcicaaDoorZEncode
/- posts: the document's skips. -/
namespace Go.Proofs.YthnpbfadblcicaaDoor
set_option linter.unusedVariables false
open Go.ChangeShapes Go.WideShapes Go.ChangeAt Go.RowKit

theorem sk_step {base : Int} {l : List PostV} {at_ q : Nat} (h : at_ < l.length) :
    skV base q (chp (l.drop at_)) = ⟨lastV base ((l.drop at_).take 16), ((l.drop at_).take 16).length, q, (blockB base ((l.drop at_).take 16)).length⟩ :: skV (lastV base ((l.drop at_).take 16)) (q + (blockB base ((l.drop at_).take 16)).length) (chp (l.drop (at_ + 16))) := by
  have hne : l.drop at_ ≠ [] := fun e => by have := congrArg List.length e; rw [List.length_drop] at this; simp at this; omega
  rw [chp_cons hne, List.drop_drop]
  rfl
theorem sk_end {base : Int} {l : List PostV} {at_ q : Nat} (h : ¬ at_ < l.length) : skV base q (chp (l.drop at_)) = [] := by
  rw [List.drop_of_length_le (by omega), chp_nil]; rfl
set_option maxRecDepth 100000 in
set_option maxHeartbeats 8000000 in
theorem rskips_any (w : World) (a : Option Addr) (n c : Nat) (ps : List PostV) (hr : RdPost w a n ps) (hnc : n ≤ c) (hf : FitP ps) (ok : okV (-1) ps) (hl : ps.length ≤ 31000000) (hT : totalV ps ≤ 31000000) :
    Calls Tryd.prog 38 #[.slice a n c] w fun e w' => ∃ A N C A2 N2 C2, e = .returned (.tuple #[.slice A N C, .slice A2 N2 C2]) ∧ RowS w' w.heap.size (.slice A N C) (skV (-1) 0 (chp ps)) ∧ Own w' w.heap.size 5 (.slice A2 N2 C2) (bytesV (bodyV (blksV (-1) (chp ps)))) ∧ Below w.heap.size w w' := by
  obtain rfl := hr.1
  have h1 := rowS_empty w w.heap.size (Nat.le_refl _)
  have h2 := own_empty (w.alloc (.cells #[] 45)) w.heap.size 5 (by simp)
  rw [World.size_alloc] at h2
  have h1' := h1.eff (F := fun _ => False) ((Eff.refl _ _).alloc (.cells #[] 5)) (fun _ _ f => f)
  have hb : Below w.heap.size w ((w.alloc (.cells #[] 45)).alloc (.cells #[] 5)) := ((Below.refl _ w).alloc (Nat.le_refl _) _).alloc (by simp) _
  obtain ⟨hHV, hBV⟩ := blks_le2 _ (-1) ps (Nat.le_refl _) hf ok (by omega) (by omega) (by omega)
  replace hBV : (bodyV (blksV (-1) (chp ps))).length ≤ 1000000000 := by omega
  obtain ⟨SV, hSVe⟩ : ∃ SV, skV (-1) 0 (chp ps) = SV := ⟨_, rfl⟩
  obtain ⟨BV, hBVe⟩ : ∃ BV, bodyV (blksV (-1) (chp ps)) = BV := ⟨_, rfl⟩
  rw [hSVe, hBVe]
  rw [hBVe] at hBV
  have HR := Lib.hid hr
  have HF := Lib.hid hf
  have HOK := Lib.hid ok
  have HSV := Lib.hid hSVe
  have HBV := Lib.hid hBVe
  clear hr hf ok hSVe hBVe h1 hHV
  go_enter Tryd.func38, Tryd.ntmps38
  go_wp2
  generalize (w.alloc (.cells #[] 45)).alloc (.cells #[] 5) = w1 at h1' h2 hb ⊢
  have H1 := Lib.hid h1'
  have H2 := Lib.hid h2
  have HB := Lib.hid hb
  clear h1' h2 hb
  go_loopw [4, 5, 6, 7] (fun s4 s5 s6 s7 wr => ∃ (at_ : Nat) (base : Int) (A1 A2 : Option Addr) (N1 N2 C1 C2 : Nat) (SS : List SkV) (B : List UInt8), s4 = .slice A1 N1 C1 ∧ s5 = .slice A2 N2 C2 ∧ s6 = .int .i64 base ∧ s7 = .int .i64 at_ ∧ at_ ≤ ps.length + 15 ∧ base = lastV (-1) (ps.take at_) ∧
      RowS wr w.heap.size (.slice A1 N1 C1) SS ∧ Own wr w.heap.size 5 (.slice A2 N2 C2) (bytesV B) ∧ Below w.heap.size w wr ∧ SS.length ≤ at_ ∧ SS ++ skV base B.length (chp (ps.drop at_)) = SV ∧ B ++ bodyV (blksV base (chp (ps.drop at_))) = BV) (fun _ _ _ s7 _ => ps.length + 16 - (intOf s7).toNat)
  case atStart => exact ⟨0, -1, _, _, _, _, _, _, [], [], rfl, rfl, rfl, rfl, by omega, rfl, H1.out, H2.out, HB.out, Nat.zero_le _, by rw [List.drop_zero, List.nil_append]; exact HSV.out, by rw [List.drop_zero, List.nil_append]; exact HBV.out⟩
  case round =>
    clear H1 H2 HB HSV HBV
    obtain ⟨at_, base, A1, A2, N1, N2, C1, C2, SS, B, rfl, rfl, rfl, rfl, hat, hbase, hrow, ho, hb, hss, hS, hB⟩ := hrel
    by_cases hlt : at_ < ps.length
    · have hrd := HR.out.below hb (Nat.le_refl _)
      obtain ⟨b, o, rfl, _⟩ := hrd.2 (by omega)
      obtain ⟨hi, hhi⟩ : ∃ hi, min (at_ + 16) ps.length = hi := ⟨_, rfl⟩
      have hpart := rdPost_part hrd at_ hi (by omega) (by omega)
      rw [chunk_eq ps at_ hi hhi.symm] at hpart
      rw [sk_step hlt] at hS
      rw [(enc_step (base := base) hlt).2] at hB
      have okd := (okV_split HOK.out at_).2
      have okc := (okV_split okd 16).1
      have hbge := okV_ge (okV_split HOK.out at_).1 (by omega)
      have hblt := okV_lt (okV_split HOK.out at_).1 (by omega)
      have hlc := last_chunk ps at_
      rw [← hbase] at okc hbge hblt hlc
      have hfc := (HF.out.drop at_).take 16
      have htc1 := totalV_split ps at_
      have htc2 := totalV_split (ps.drop at_) 16
      have hhl : lastV (-1) (ps.take (at_ + 16)) = lastV (-1) (ps.take hi) := by
        by_cases h16 : at_ + 16 ≤ ps.length
        · rw [show hi = at_ + 16 by omega]
        · rw [List.take_of_length_le (by omega), List.take_of_length_le (by omega)]
      obtain ⟨CH, hCH⟩ : ∃ CH, (ps.drop at_).take 16 = CH := ⟨_, rfl⟩
      rw [hCH] at hpart hS hB okc hfc htc2 hlc
      obtain ⟨D, hD⟩ : ∃ D, hi - at_ = D := ⟨_, rfl⟩
      rw [hD] at hpart
      have hDl : D = CH.length := hpart.1
      have E1 := rblk8_any wr (some ⟨b, o + at_ * 2, none⟩) D (c - at_) CH hpart hfc base hbge hblt okc (by omega) (by omega)
      have hbb := blockB_le hfc okc hbge (by omega)
      obtain ⟨L, hL⟩ : ∃ L, lastV base CH = L := ⟨_, rfl⟩
      obtain ⟨BB, hBB⟩ : ∃ BB, blockB base CH = BB := ⟨_, rfl⟩
      rw [hL] at hS hB hlc
      rw [hBB] at hS hB hbb E1
      have hmn : min ((at_ : Int) + 16) (ps.length : Int) = (hi : Int) := by omega
      have i1 : (at_ : Int) < (ps.length : Int) := by omega
      have a1 : (at_ : Int) ≤ (hi : Int) := by omega
      have a2 : (hi : Int) ≤ (c : Int) := by omega
      have a3 : at_ < c := by omega
      have hsd : ((hi : Int) - (at_ : Int)).toNat = D := by omega
      obtain ⟨k, hk⟩ : ∃ k, k + 1 = hi := ⟨hi - 1, by omega⟩
      have hkl : k < ps.length := by omega
      have hpk : (ps[k]'hkl).doc = L := by
        have h9 := lastV_at (-1) (ps.take hi) k (by rw [List.length_take]; omega) (by rw [List.length_take]; omega)
        rw [List.getElem_take] at h9
        rw [← h9, ← hhl, ← hlc]
      have hx := (hrd.2 (by omega))
      obtain ⟨b', o', e, hg⟩ := hx
      injection e with e
      injection e with e1 e2 _
      subst e1 e2
      have hg0 := (hg k hkl).1
      rw [hpk] at hg0
      have s0 : IntKind.i64.wrap ((hi : Int) - 1) = (k : Int) := by rw [IntKind.wrap_i64]; omega
      have i2 : (k : Int) < (ps.length : Int) := by omega
      have hch16 : CH.length ≤ 16 := by omega
      have hBl : B.length ≤ BV.length := by rw [← hB, List.length_append]; omega
      have hBBl : BB.length ≤ 1000000000 := by omega
      have s5 : IntKind.i64.wrap ((hi : Int) - (at_ : Int)) = (CH.length : Int) := by rw [IntKind.wrap_i64]; omega
      have hBV9 : BV.length ≤ 1000000000 := by omega
      have HLC := Lib.hid hlc
      have HS9 := Lib.hid hS
      have HB9 := Lib.hid hB
      have HROW := Lib.hid hrow
      have HO := Lib.hid ho
      have HB := Lib.hid hb
      have hlt6 := hb.size
      clear hbase hlc hS hB hpart okc okd hfc htc1 htc2 hbb hL hBB hCH hrd hhi hhl hg hpk hrow ho hb hbge hblt
      subst hDl
      have HK := Lib.hid hk
      clear hk
      go_wp2_with fail
      with_reducible refine E1.mono ?_
      rintro e w6 ⟨v6, rfl, ho6, hb6⟩
      clear E1
      obtain ⟨A6, N6, K6, rfl⟩ := own_sl ho6
      have hn6 := ho6.len
      rw [bytesV_length] at hn6
      subst hn6
      have hbl0 : b < wr.heap.size := World.block_lt_of_cell? wr _ hg0
      have hx : w6.cell? ⟨b, o + k * 2, none⟩ = some (.int .i64 L) := by rw [hb6.cell (p := ⟨b, o + k * 2, none⟩) hbl0]; exact hg0
      have hrow6 := HROW.out.below hb6 (Nat.le_refl _)
      have hoB6 := HO.out.below hb6 (Nat.le_refl _)
      have hbn := hoB6.len
      rw [bytesV_length] at hbn
      subst hbn
      have hsl : SS.length ≤ 1000000000 := by omega
      have hz6 : w.heap.size ≤ w6.heap.size := Nat.le_trans hlt6 hb6.size
      have HROW6 := Lib.hid hrow6
      have HOB6 := Lib.hid hoB6
      have HO6 := Lib.hid ho6
      have HB6 := Lib.hid (HB.out.trans (hb6.mono hlt6))
      have HSL := Lib.hid hsl
      clear ho6 hb6 hrow6 hoB6 hsl HROW HO HB hg0
      go_wp2_with (at_builtin; with_reducible refine apSk HROW6.out HSL.out hz6 rfl _ _ rfl rfl rfl ?_)
      intro v7 w7 hrow7 hg7
      have heff : Eff (fun k => (Value.slice A1 N1 C1).ownBlock = some k) w6 w7 := (Eff.refl _ w6).grown hg7 (fun k hk _ => hk)
      have hoB7 := HOB6.out.eff heff (fun k hk hF => HROW6.out.ne_own HOB6.out (by decide) hF hk)
      have ho7 := HO6.out.eff heff (fun k hk hF => HROW6.out.ne_own HO6.out (by decide) hF hk)
      have hb7 := HB6.out.grown hg7 hz6 (fun k hk => (HROW6.out.lt k hk).1)
      obtain ⟨A7, K7, rfl⟩ := hrow7.sl
      obtain ⟨SX, hSX⟩ : ∃ SX, SS ++ [(⟨L, CH.length, B.length, BB.length⟩ : SkV)] = SX := ⟨_, rfl⟩
      have hSXl : SX.length ≤ at_ + 16 := by rw [← hSX, List.length_append, List.length_singleton]; omega
      rw [hSX] at hrow7
      rw [hSX]
      have hl0 : (bytesV B).length + (bytesV BB).length < 1000000000001 := by rw [bytesV_length, bytesV_length]; omega
      have hz7 := hb7.size
      have HROW7 := Lib.hid hrow7
      have HOB7 := Lib.hid hoB7
      have HRD7 := Lib.hid ho7.rd
      have HB7 := Lib.hid hb7
      have HSX := Lib.hid hSX
      have H1C := Lib.hid (bytesV_one BB)
      have HL0 := Lib.hid hl0
      clear hrow7 hg7 heff hoB7 ho7 hb7 hSX hl0 HROW6 HOB6 HO6 HB6 hx
      go_wp2_with (at_builtin; with_reducible refine apN elBytes HOB7.out HRD7.out H1C.out HL0.out hz7 rfl _ _ rfl rfl rfl ?_)
      intro v8 w8 k1 k2 k3 k4
      have heff8 : Eff (fun k => (Value.slice A2 B.length C2).ownBlock = some k) w7 w8 := (Eff.refl _ w7).grown k4 (fun k hk _ => hk)
      have hrow8 := HROW7.out.eff heff8 (fun k hk hF => HROW7.out.ne_own HOB7.out (by decide) hk hF)
      have hb8 := HB7.out.grown k4 hz7 (fun k hk => (HOB7.out.lt k hk).1)
      rw [← bytesV_append] at k1
      obtain ⟨A8, N8, K8, rfl⟩ := own_sl k1
      have hS9 := HS9.out
      have hB9 := HB9.out
      rw [show SS ++ (⟨L, CH.length, B.length, BB.length⟩ : SkV) :: skV L (B.length + BB.length) (chp (ps.drop (at_ + 16))) = (SS ++ [⟨L, CH.length, B.length, BB.length⟩]) ++ skV L (B.length + BB.length) (chp (ps.drop (at_ + 16))) by simp, HSX.out, ← List.length_append] at hS9
      rw [← List.append_assoc] at hB9
      have HROW8 := Lib.hid hrow8
      have HO8 := Lib.hid k1
      have HB8 := Lib.hid hb8
      have HS10 := Lib.hid hS9
      have HB10 := Lib.hid hB9
      clear hrow8 k1 k2 k3 k4 hb8 hS9 hB9 heff8
      go_wp2
      go_roundw
      case rel => exact ⟨at_ + 16, L, A7, A8, SX.length, N8, K7, K8, SX, B ++ BB, rfl, rfl, rfl, by go_num, by omega, HLC.out, HROW8.out, HO8.out, HB8.out, hSXl, HS10.out, HB10.out⟩
      case measure => simp [intOf]; omega
    · rw [sk_end hlt, List.append_nil] at hS
      rw [(enc_end (base := base) hlt).2, List.append_nil] at hB
      subst hS hB
      have i1 : ¬ ((at_ : Int) < (ps.length : Int)) := by omega
      have HROW := Lib.hid hrow
      have HO := Lib.hid ho
      have HB := Lib.hid hb
      clear hrow ho hb hbase hlt hat hss
      go_wp2
      go_ret2
      exact ⟨A1, N1, C1, A2, N2, C2, rfl, HROW.out, HO.out, HB.out⟩
end Go.Proofs.YthnpbfadblcicaaDoor

/- posts: the document's head. -/
namespace Go.Proofs.YthnpbfadblcicaaDoor
set_option linter.unusedVariables false
open Go.ChangeShapes Go.WideShapes Go.ChangeAt Go.RowKit

/-- Skip entries whose documents rise. -/
def skOk : Int → List SkV → Prop
  | _, [] => True
  | base, s :: r => base < s.last ∧ s.last < 2147483647 ∧ s.size ≤ 1000000000 ∧ skOk s.last r
theorem hdS_le : ∀ (base : Int) (SS : List SkV), skOk base SS → -1 ≤ base → (hdS base SS).length ≤ 20 * SS.length
  | _, [], _, _ => by simp [hdS]
  | base, s :: r, h, hb => by
    obtain ⟨h1, h2, h3, h4⟩ := h
    have := hdS_le s.last r h4 (by omega)
    have u1 := (uvar_le (s.last - base - 1).toNat (by omega)).2
    have u2 := (uvar_le s.size (by omega)).2
    rw [hdS, List.length_append, List.length_append, List.length_cons]
    omega
theorem sk_ok : ∀ (n : Nat) (base : Int) (q : Nat) (l : List PostV), l.length ≤ n → FitP l → okV base l → -1 ≤ base → totalV l ≤ 31000000 → skOk base (skV base q (chp l))
  | 0, base, q, l, hl, hf, ok, hb, hT => by
    have : l = [] := List.eq_nil_of_length_eq_zero (by omega)
    subst this
    rw [chp_nil]; trivial
  | n + 1, base, q, l, hl, hf, ok, hb, hT => by
    by_cases h0 : l = []
    · subst h0; rw [chp_nil]; trivial
    · rw [chp_cons h0]
      obtain ⟨o1, o2⟩ := okV_split ok 16
      have hne : l.take 16 ≠ [] := by
        intro h; apply h0
        have h9 := congrArg List.length h
        rw [List.length_take] at h9
        exact List.eq_nil_of_length_eq_zero (by simp only [List.length_nil] at h9; omega)
      have hla := (okV_last o1).2 hne
      have hlp : 0 < l.length := List.length_pos_iff.2 h0
      have hts := totalV_split l 16
      have ih := sk_ok n (lastV base (l.take 16)) (q + (blockB base (l.take 16)).length) (l.drop 16) (by rw [List.length_drop]; omega) (hf.drop 16) o2 (by omega) (by omega)
      have hbk := blockB_le (hf.take 16) o1 hb (by rw [List.length_take]; omega)
      exact ⟨hla.1, hla.2.1, by show (blockB base (l.take 16)).length ≤ _; omega, ih⟩
theorem sk_len_le : ∀ (n : Nat) (base : Int) (q : Nat) (l : List PostV), l.length ≤ n → (skV base q (chp l)).length ≤ l.length
  | 0, base, q, l, hl => by
    have : l = [] := List.eq_nil_of_length_eq_zero (by omega)
    subst this
    rw [chp_nil]; simp [skV]
  | n + 1, base, q, l, hl => by
    by_cases h0 : l = []
    · subst h0; rw [chp_nil]; simp [skV]
    · rw [chp_cons h0]
      have hlp : 0 < l.length := List.length_pos_iff.2 h0
      have ih := sk_len_le n (lastV base (l.take 16)) (q + (blockB base (l.take 16)).length) (l.drop 16) (by rw [List.length_drop]; omega)
      rw [List.length_drop] at ih
      rw [skV, List.length_cons]
      omega
set_option maxRecDepth 100000 in
set_option maxHeartbeats 8000000 in
theorem rhead_any (w : World) (a : Option Addr) (n c : Nat) (ps : List PostV) (hr : RdPost w a n ps) (hl : ps.length ≤ 31000000) (hT : totalV ps ≤ 31000000) (b2 : Nat) (A2 : Option Addr) (N2 C2 : Nat) (SS : List SkV) (hs : RowS w b2 (.slice A2 N2 C2) SS) (hok : skOk (-1) SS) (hsl : SS.length ≤ 31000000) :
    Calls Tryd.prog 39 #[.slice a n c, .slice A2 N2 C2] w fun e w' => ∃ v, e = .returned v ∧ Own w' w.heap.size 5 v (bytesV ((uvar ps.length ++ uvar (totalV ps)) ++ hdS (-1) SS)) ∧ Below w.heap.size w w' := by
  obtain rfl := hr.1
  obtain rfl : N2 = SS.length := by
    obtain ⟨_, _, e⟩ := hs.sl
    injection e
  have hHl := hdS_le (-1) SS hok (by omega)
  have C1 := rnum_any ps.length w (by omega)
  have u1 := (uvar_le ps.length (by omega)).2
  have u2 := (uvar_le (totalV ps) (by omega)).2
  obtain ⟨HV, hHV⟩ : ∃ HV, (uvar ps.length ++ uvar (totalV ps)) ++ hdS (-1) SS = HV := ⟨_, rfl⟩
  have hHVl : HV.length ≤ 1000000000 := by rw [← hHV, List.length_append, List.length_append]; omega
  rw [hHV]
  have HR := Lib.hid hr
  have HS := Lib.hid hs
  have HOK := Lib.hid hok
  have HHV := Lib.hid hHV
  clear hr hs hok hHV
  go_enter Tryd.func39, Tryd.ntmps39
  go_wp2_with fail
  with_reducible refine C1.mono ?_
  rintro e w1 ⟨v1, rfl, ho1, hb1⟩
  clear C1
  obtain ⟨A3, N3, K3, rfl⟩ := own_sl ho1
  have E2 := rtot_any w1 a ps.length c ps (HR.out.below hb1 (Nat.le_refl _)) (by omega) (by omega)
  have HO1 := Lib.hid ho1
  have HB1 := Lib.hid hb1
  clear ho1 hb1
  go_wp2_with fail
  with_reducible refine E2.mono ?_
  rintro e w2 ⟨rfl, hb2⟩
  clear E2
  have E3 := rnum_any (totalV ps) w2 (by omega)
  have HO2 := Lib.hid (HO1.out.below hb2 (Nat.le_refl _))
  have HB2 := Lib.hid (HB1.out.trans (hb2.mono HB1.out.size))
  clear hb2 HO1 HB1
  go_wp2_with fail
  with_reducible refine E3.mono ?_
  rintro e w3 ⟨v3, rfl, ho3, hb3⟩
  clear E3
  obtain ⟨A4, N4, K4, rfl⟩ := own_sl ho3
  have ho13 := HO2.out.below hb3 (Nat.le_refl _)
  have hb13 := HB2.out.trans (hb3.mono HB2.out.size)
  have hz3 := hb13.size
  have hl1 : (bytesV (uvar ps.length)).length + (bytesV (uvar (totalV ps))).length < 1000000000001 := by rw [bytesV_length, bytesV_length]; omega
  have HO3 := Lib.hid ho13
  have HRD3 := Lib.hid ho3.rd
  have H1A := Lib.hid (bytesV_one (uvar (totalV ps)))
  have HL1 := Lib.hid hl1
  have HB3 := Lib.hid hb13
  clear ho13 ho3 hb3 hl1 hb13 HO2 HB2
  go_wp2_with (at_builtin; with_reducible refine apN elBytes HO3.out HRD3.out H1A.out HL1.out hz3 rfl _ _ rfl rfl rfl ?_)
  intro v5 w5 k1 k2 k3 k4
  have hb5 := HB3.out.grown k4 hz3 (fun k hk => (HO3.out.lt k hk).1)
  rw [← bytesV_append] at k1
  obtain ⟨A5, N5, K5, rfl⟩ := own_sl k1
  have HO5 := Lib.hid k1
  have HB5 := Lib.hid hb5
  clear k1 k2 k3 k4 hb5 HO3 HB3 HRD3 H1A hz3
  go_wp2
  go_loopw [5, 6, 18] (fun s5 s6 s18 wr => ∃ (i : Nat) (base : Int) (A : Option Addr) (N C : Nat) (B : List UInt8), s5 = .slice A N C ∧ s6 = .int .i64 base ∧ s18 = .int .i64 i ∧ i ≤ SS.length ∧ skOk base (SS.drop i) ∧ -1 ≤ base ∧ base < 2147483647 ∧
      Own wr w.heap.size 5 (.slice A N C) (bytesV B) ∧ Below w.heap.size w wr ∧ B ++ hdS base (SS.drop i) = HV) (fun _ _ s18 _ => SS.length - (intOf s18).toNat)
  case atStart => exact ⟨0, -1, _, _, _, _, rfl, rfl, rfl, Nat.zero_le _, by rw [List.drop_zero]; exact HOK.out, by omega, by omega, HO5.out, HB5.out, by rw [List.drop_zero]; exact HHV.out⟩
  case round =>
    clear HO5 HB5 HHV HOK
    obtain ⟨i, base, A, N, C, B, rfl, rfl, rfl, hi, hok, hb0, hb1, ho, hb, hB⟩ := hrel
    have hnB := ho.len
    rw [bytesV_length] at hnB
    subst hnB
    by_cases hlt : i < SS.length
    · have hs9 := HS.out.below hb (Nat.le_refl _)
      obtain ⟨g, rfl, _, _, hc⟩ := hs9.at_ i hlt
      rw [List.drop_eq_getElem_cons hlt] at hok hB
      obtain ⟨x, hx⟩ : ∃ x, SS[i] = x := ⟨_, rfl⟩
      rw [hx] at hc hok hB
      obtain ⟨la, dc, at_, sz⟩ := x
      obtain ⟨o1, o2, o3, o4⟩ := hok
      simp only at o1 o2 o3 o4
      have c0 : wr.cell? ⟨g, i * 4, none⟩ = some (.int .i64 la) := hc 0 _ rfl
      have c1 : wr.cell? ⟨g, i * 4 + 1, none⟩ = some (.int .i64 (dc : Nat)) := hc 1 _ rfl
      have c2 : wr.cell? ⟨g, i * 4 + 2, none⟩ = some (.int .i64 (at_ : Nat)) := hc 2 _ rfl
      have c3 : wr.cell? ⟨g, i * 4 + 3, none⟩ = some (.int .i64 (sz : Nat)) := hc 3 _ rfl
      have i1 : (i : Int) < (SS.length : Int) := by omega
      rw [hdS] at hB
      simp only at hB
      have hBl : B.length ≤ HV.length := by rw [← hB, List.length_append]; omega
      obtain ⟨m, hm⟩ : ∃ m, (la - base - 1).toNat = m := ⟨_, rfl⟩
      rw [hm] at hB
      obtain ⟨D2, hD2⟩ : ∃ D2, IntKind.i64.wrap (la - base) = D2 := ⟨_, rfl⟩
      have s1 := hD2
      have s2 : IntKind.i64.wrap (D2 - 1) = (m : Int) := by rw [← hD2, IntKind.wrap_i64, IntKind.wrap_i64]; omega
      have hmb : m ≤ 2147483647 := by omega
      have u3 := (uvar_le m (by omega)).2
      have u4 := (uvar_le sz (by omega)).2
      have hbA := hb.alloc hb.size (.cells #[.int .i64 la, .int .i64 (dc : Nat), .int .i64 (at_ : Nat), .int .i64 (sz : Nat)] 45)
      have e1 := heap_alloc_new wr (.cells #[.int .i64 la, .int .i64 (dc : Nat), .int .i64 (at_ : Nat), .int .i64 (sz : Nat)] 45)
      have hoA := ho.alloc (.cells #[.int .i64 la, .int .i64 (dc : Nat), .int .i64 (at_ : Nat), .int .i64 (sz : Nat)] 45)
      have HBA := Lib.hid hbA
      have HE1 := Lib.hid e1
      have HOA := Lib.hid hoA
      have HB9 := Lib.hid hB
      have HOK := Lib.hid o4
      clear hbA e1 hoA hB o4 ho hb hs9 hc hx hm hD2
      go_upto_region 6 with fail
      generalize wr.alloc (.cells #[.int .i64 la, .int .i64 (dc : Nat), .int .i64 (at_ : Nat), .int .i64 (sz : Nat)] 45) = W at HBA HE1 HOA ⊢
      generalize wr.heap.size = GS at HE1 ⊢
      clear c0 c1 c2 c3
      have c0 := blk_cell HE1.out 0
      have c3 := blk_cell HE1.out 3
      have E1 := rnum_any m W (by omega)
      go_wp2_with fail
      with_reducible refine E1.mono ?_
      rintro e w4 ⟨v4, rfl, ho4, hb4⟩
      clear E1 s1 s2 c0 c3
      obtain ⟨A6, N6, K6, rfl⟩ := own_sl ho4
      have e4 := (hb4.block _ (lt_of_heap HE1.out)).trans HE1.out
      have hoB := HOA.out.below hb4 (Nat.le_refl _)
      have hbB := HBA.out.trans (hb4.mono HBA.out.size)
      have hz4 := hbB.size
      have hl4 : (bytesV B).length + (bytesV (uvar m)).length < 1000000000001 := by rw [bytesV_length, bytesV_length]; omega
      have hfar : ∀ k, (Value.slice A B.length C).ownBlock = some k → k ≠ GS := fun k hk e => hoB.ne_type e4 (by decide) (e ▸ hk)
      have HFAR := Lib.hid hfar
      have HO4 := Lib.hid hoB
      have HRD4 := Lib.hid ho4.rd
      have H1A := Lib.hid (bytesV_one (uvar m))
      have HL4 := Lib.hid hl4
      have HB4 := Lib.hid hbB
      have HE4 := Lib.hid e4
      clear hoB hbB ho4 hb4 hl4 e4 hfar HE1 HOA HBA
      go_wp2_with (at_builtin; with_reducible refine apN elBytes HO4.out HRD4.out H1A.out HL4.out hz4 rfl _ _ rfl rfl rfl ?_)
      intro v5 w5 k1 k2 k3 k4
      have e5 := (k4.block _ (lt_of_heap HE4.out) (fun e => HFAR.out _ e.symm rfl)).trans HE4.out
      have hb5 := HB4.out.grown k4 hz4 (fun k hk => (HO4.out.lt k hk).1)
      rw [← bytesV_append] at k1
      obtain ⟨A7, N7, K7, rfl⟩ := own_sl k1
      have c0 := blk_cell e5 0
      have c3 := blk_cell e5 3
      have HO5 := Lib.hid k1
      have HB5 := Lib.hid hb5
      have HE5 := Lib.hid e5
      clear k1 k2 k3 k4 hb5 e5 HO4 HB4 HE4 HRD4 H1A hz4 HL4 HFAR
      have E2 := rnum_any sz w5 (by omega)
      go_wp2_with fail
      with_reducible refine E2.mono ?_
      rintro e w6 ⟨v6, rfl, ho6, hb6⟩
      clear E2 c0 c3
      obtain ⟨A8, N8, K8, rfl⟩ := own_sl ho6
      have e6 := (hb6.block _ (lt_of_heap HE5.out)).trans HE5.out
      have hoB := HO5.out.below hb6 (Nat.le_refl _)
      have hbB := HB5.out.trans (hb6.mono HB5.out.size)
      have hz6 := hbB.size
      have hl6 : (bytesV (B ++ uvar m)).length + (bytesV (uvar sz)).length < 1000000000001 := by rw [bytesV_length, bytesV_length, List.length_append]; omega
      have hfar : ∀ k, (Value.slice A7 N7 K7).ownBlock = some k → k ≠ GS := fun k hk e => hoB.ne_type e6 (by decide) (e ▸ hk)
      have HFAR := Lib.hid hfar
      have HO6 := Lib.hid hoB
      have HRD6 := Lib.hid ho6.rd
      have H1A := Lib.hid (bytesV_one (uvar sz))
      have HL6 := Lib.hid hl6
      have HB6 := Lib.hid hbB
      have HE6 := Lib.hid e6
      clear hoB hbB ho6 hb6 hl6 e6 hfar HE5 HO5 HB5
      go_wp2_with (at_builtin; with_reducible refine apN elBytes HO6.out HRD6.out H1A.out HL6.out hz6 rfl _ _ rfl rfl rfl ?_)
      intro v7 w7 k1 k2 k3 k4
      have e7 := (k4.block _ (lt_of_heap HE6.out) (fun e => HFAR.out _ e.symm rfl)).trans HE6.out
      have hb7 := HB6.out.grown k4 hz6 (fun k hk => (HO6.out.lt k hk).1)
      rw [← bytesV_append, List.append_assoc] at k1
      obtain ⟨A9, N9, K9, rfl⟩ := own_sl k1
      have c0 := blk_cell e7 0
      have hB10 := HB9.out
      rw [← List.append_assoc] at hB10
      have HO7 := Lib.hid k1
      have HB7 := Lib.hid hb7
      have HB10 := Lib.hid hB10
      clear k1 k2 k3 k4 hb7 e7 HO6 HB6 HE6 HRD6 H1A hz6 HL6 HFAR hB10 HB9
      go_wp2
      go_roundw
      case rel => exact ⟨i + 1, la, A9, N9, K9, B ++ (uvar m ++ uvar sz), rfl, rfl, by go_num, by omega, HOK.out, by omega, by omega, HO7.out, HB7.out, HB10.out⟩
      case measure => simp [intOf]; omega
    · obtain rfl : i = SS.length := by omega
      have i1 : ¬ ((SS.length : Int) < (SS.length : Int)) := by omega
      rw [List.drop_length] at hB
      have hB9 : B = HV := by rw [← hB]; simp [hdS]
      subst hB9
      have HO := Lib.hid ho
      have HB := Lib.hid hb
      clear ho hb hB hok hb0 hb1
      go_wp2
      go_ret
      exact ⟨_, rfl, HO.out, HB.out⟩
end Go.Proofs.YthnpbfadblcicaaDoor
