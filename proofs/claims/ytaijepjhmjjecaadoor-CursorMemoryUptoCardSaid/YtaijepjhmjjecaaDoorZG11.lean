/- Merged: RSkips, RHead, PostO. -/
import Derived.Test.YtaijepjhmjjecaaDoorZG10
import Derived.Test.YtaijepjhmjjecaaDoorZG3
import Derived.Test.YtaijepjhmjjecaaDoorZG10
import Derived.Test.YtaijepjhmjjecaaDoorZG7
/- posts: the document's skips. -/
namespace Go.Proofs.YtaijepjhmjjecaaDoor
set_option linter.unusedVariables false
open Go.ChangeShapes Go.WideShapes Go.ChangeAt Go.RowKit

theorem sk_step {base : Int} {l : List PostV} {at_ q : Nat} (h : at_ < l.length) :
    skV base q (chp (l.drop at_)) = ⟨lastV base ((l.drop at_).take 16), ((l.drop at_).take 16).length, q, (blockB base ((l.drop at_).take 16)).length⟩ :: skV (lastV base ((l.drop at_).take 16)) (q + (blockB base ((l.drop at_).take 16)).length) (chp (l.drop (at_ + 16))) := by
  have hne : l.drop at_ ≠ [] := fun e => by have := congrArg List.length e; rw [List.length_drop] at this; simp at this; omega
  rw [chp_cons hne, List.drop_drop]
  rfl
theorem sk_end {base : Int} {l : List PostV} {at_ q : Nat} (h : ¬ at_ < l.length) : skV base q (chp (l.drop at_)) = [] := by
  rw [List.drop_of_length_le (by omega), chp_nil]; rfl
set_option maxRecDepth 100000 in
set_option maxHeartbeats 8000000 in
theorem rskips_any (w : World) (a : Option Addr) (n c : Nat) (ps : List PostV) (hr : RdPost w a n ps) (hnc : n ≤ c) (hf : FitP ps) (ok : okV (-1) ps) (hl : ps.length ≤ 31000000) (hT : totalV ps ≤ 31000000) :
    Calls Tryd.prog 51 #[.slice a n c] w fun e w' => ∃ A N C A2 N2 C2, e = .returned (.tuple #[.slice A N C, .slice A2 N2 C2]) ∧ RowS w' w.heap.size (.slice A N C) (skV (-1) 0 (chp ps)) ∧ Own w' w.heap.size 5 (.slice A2 N2 C2) (bytesV (bodyV (blksV (-1) (chp ps)))) ∧ Below w.heap.size w w' := by
  obtain rfl := hr.1
  have h1 := rowS_empty w w.heap.size (Nat.le_refl _)
  have h2 := own_empty (w.alloc (.cells #[] 117)) w.heap.size 5 (by simp)
  rw [World.size_alloc] at h2
  have h1' := h1.eff (F := fun _ => False) ((Eff.refl _ _).alloc (.cells #[] 5)) (fun _ _ f => f)
  have hb : Below w.heap.size w ((w.alloc (.cells #[] 117)).alloc (.cells #[] 5)) := ((Below.refl _ w).alloc (Nat.le_refl _) _).alloc (by simp) _
  obtain ⟨hHV, hBV⟩ := blks_le2 _ (-1) ps (Nat.le_refl _) hf ok (by omega) (by omega) (by omega)
  replace hBV : (bodyV (blksV (-1) (chp ps))).length ≤ 1000000000 := by omega
  obtain ⟨SV, hSVe⟩ : ∃ SV, skV (-1) 0 (chp ps) = SV := ⟨_, rfl⟩
  obtain ⟨BV, hBVe⟩ : ∃ BV, bodyV (blksV (-1) (chp ps)) = BV := ⟨_, rfl⟩
  rw [hSVe, hBVe]
  rw [hBVe] at hBV
  have HR := Lib.hid hr
  have HF := Lib.hid hf
  have HOK := Lib.hid ok
  have HSV := Lib.hid hSVe
  have HBV := Lib.hid hBVe
  clear hr hf ok hSVe hBVe h1 hHV
  go_enter Tryd.func51, Tryd.ntmps51
  go_wp2
  generalize (w.alloc (.cells #[] 117)).alloc (.cells #[] 5) = w1 at h1' h2 hb ⊢
  have H1 := Lib.hid h1'
  have H2 := Lib.hid h2
  have HB := Lib.hid hb
  clear h1' h2 hb
  go_loopw [4, 5, 6, 7] (fun s4 s5 s6 s7 wr => ∃ (at_ : Nat) (base : Int) (A1 A2 : Option Addr) (N1 N2 C1 C2 : Nat) (SS : List SkV) (B : List UInt8), s4 = .slice A1 N1 C1 ∧ s5 = .slice A2 N2 C2 ∧ s6 = .int .i64 base ∧ s7 = .int .i64 at_ ∧ at_ ≤ ps.length + 15 ∧ base = lastV (-1) (ps.take at_) ∧
      RowS wr w.heap.size (.slice A1 N1 C1) SS ∧ Own wr w.heap.size 5 (.slice A2 N2 C2) (bytesV B) ∧ Below w.heap.size w wr ∧ SS.length ≤ at_ ∧ SS ++ skV base B.length (chp (ps.drop at_)) = SV ∧ B ++ bodyV (blksV base (chp (ps.drop at_))) = BV) (fun _ _ _ s7 _ => ps.length + 16 - (intOf s7).toNat)
  case atStart => exact ⟨0, -1, _, _, _, _, _, _, [], [], rfl, rfl, rfl, rfl, by omega, rfl, H1.out, H2.out, HB.out, Nat.zero_le _, by rw [List.drop_zero, List.nil_append]; exact HSV.out, by rw [List.drop_zero, List.nil_append]; exact HBV.out⟩
  case round =>
    clear H1 H2 HB HSV HBV
    obtain ⟨at_, base, A1, A2, N1, N2, C1, C2, SS, B, rfl, rfl, rfl, rfl, hat, hbase, hrow, ho, hb, hss, hS, hB⟩ := hrel
    by_cases hlt : at_ < ps.length
    · have hrd := HR.out.below hb (Nat.le_refl _)
      obtain ⟨b, o, rfl, _⟩ := hrd.2 (by omega)
      obtain ⟨hi, hhi⟩ : ∃ hi, min (at_ + 16) ps.length = hi := ⟨_, rfl⟩
      have hpart := rdPost_part hrd at_ hi (by omega) (by omega)
      rw [chunk_eq ps at_ hi hhi.symm] at hpart
      rw [sk_step hlt] at hS
      rw [(enc_step (base := base) hlt).2] at hB
      have okd := (okV_split HOK.out at_).2
      have okc := (okV_split okd 16).1
      have hbge := okV_ge (okV_split HOK.out at_).1 (by omega)
      have hblt := okV_lt (okV_split HOK.out at_).1 (by omega)
      have hlc := last_chunk ps at_
      rw [← hbase] at okc hbge hblt hlc
      have hfc := (HF.out.drop at_).take 16
      have htc1 := totalV_split ps at_
      have htc2 := totalV_split (ps.drop at_) 16
      have hhl : lastV (-1) (ps.take (at_ + 16)) = lastV (-1) (ps.take hi) := by
        by_cases h16 : at_ + 16 ≤ ps.length
        · rw [show hi = at_ + 16 by omega]
        · rw [List.take_of_length_le (by omega), List.take_of_length_le (by omega)]
      obtain ⟨CH, hCH⟩ : ∃ CH, (ps.drop at_).take 16 = CH := ⟨_, rfl⟩
      rw [hCH] at hpart hS hB okc hfc htc2 hlc
      obtain ⟨D, hD⟩ : ∃ D, hi - at_ = D := ⟨_, rfl⟩
      rw [hD] at hpart
      have hDl : D = CH.length := hpart.1
      have E1 := rblk8_any wr (some ⟨b, o + at_ * 2, none⟩) D (c - at_) CH hpart hfc base hbge hblt okc (by omega) (by omega)
      have hbb := blockB_le hfc okc hbge (by omega)
      obtain ⟨L, hL⟩ : ∃ L, lastV base CH = L := ⟨_, rfl⟩
      obtain ⟨BB, hBB⟩ : ∃ BB, blockB base CH = BB := ⟨_, rfl⟩
      rw [hL] at hS hB hlc
      rw [hBB] at hS hB hbb E1
      have hmn : min ((at_ : Int) + 16) (ps.length : Int) = (hi : Int) := by omega
      have i1 : (at_ : Int) < (ps.length : Int) := by omega
      have a1 : (at_ : Int) ≤ (hi : Int) := by omega
      have a2 : (hi : Int) ≤ (c : Int) := by omega
      have a3 : at_ < c := by omega
      have hsd : ((hi : Int) - (at_ : Int)).toNat = D := by omega
      obtain ⟨k, hk⟩ : ∃ k, k + 1 = hi := ⟨hi - 1, by omega⟩
      have hkl : k < ps.length := by omega
      have hpk : (ps[k]'hkl).doc = L := by
        have h9 := lastV_at (-1) (ps.take hi) k (by rw [List.length_take]; omega) (by rw [List.length_take]; omega)
        rw [List.getElem_take] at h9
        rw [← h9, ← hhl, ← hlc]
      have hx := (hrd.2 (by omega))
      obtain ⟨b', o', e, hg⟩ := hx
      injection e with e
      injection e with e1 e2 _
      subst e1 e2
      have hg0 := (hg k hkl).1
      rw [hpk] at hg0
      have s0 : IntKind.i64.wrap ((hi : Int) - 1) = (k : Int) := by rw [IntKind.wrap_i64]; omega
      have i2 : (k : Int) < (ps.length : Int) := by omega
      have hch16 : CH.length ≤ 16 := by omega
      have hBl : B.length ≤ BV.length := by rw [← hB, List.length_append]; omega
      have hBBl : BB.length ≤ 1000000000 := by omega
      have s5 : IntKind.i64.wrap ((hi : Int) - (at_ : Int)) = (CH.length : Int) := by rw [IntKind.wrap_i64]; omega
      have hBV9 : BV.length ≤ 1000000000 := by omega
      have HLC := Lib.hid hlc
      have HS9 := Lib.hid hS
      have HB9 := Lib.hid hB
      have HROW := Lib.hid hrow
      have HO := Lib.hid ho
      have HB := Lib.hid hb
      have hlt6 := hb.size
      clear hbase hlc hS hB hpart okc okd hfc htc1 htc2 hbb hL hBB hCH hrd hhi hhl hg hpk hrow ho hb hbge hblt
      subst hDl
      have HK := Lib.hid hk
      clear hk
      go_wp2_with fail
      with_reducible refine E1.mono ?_
      rintro e w6 ⟨v6, rfl, ho6, hb6⟩
      clear E1
      obtain ⟨A6, N6, K6, rfl⟩ := own_sl ho6
      have hn6 := ho6.len
      rw [bytesV_length] at hn6
      subst hn6
      have hbl0 : b < wr.heap.size := World.block_lt_of_cell? wr _ hg0
      have hx : w6.cell? ⟨b, o + k * 2, none⟩ = some (.int .i64 L) := by rw [hb6.cell (p := ⟨b, o + k * 2, none⟩) hbl0]; exact hg0
      have hrow6 := HROW.out.below hb6 (Nat.le_refl _)
      have hoB6 := HO.out.below hb6 (Nat.le_refl _)
      have hbn := hoB6.len
      rw [bytesV_length] at hbn
      subst hbn
      have hsl : SS.length ≤ 1000000000 := by omega
      have hz6 : w.heap.size ≤ w6.heap.size := Nat.le_trans hlt6 hb6.size
      have HROW6 := Lib.hid hrow6
      have HOB6 := Lib.hid hoB6
      have HO6 := Lib.hid ho6
      have HB6 := Lib.hid (HB.out.trans (hb6.mono hlt6))
      have HSL := Lib.hid hsl
      clear ho6 hb6 hrow6 hoB6 hsl HROW HO HB hg0
      go_wp2_with (at_builtin; with_reducible refine apSk HROW6.out HSL.out hz6 rfl _ _ rfl rfl rfl ?_)
      intro v7 w7 hrow7 hg7
      have heff : Eff (fun k => (Value.slice A1 N1 C1).ownBlock = some k) w6 w7 := (Eff.refl _ w6).grown hg7 (fun k hk _ => hk)
      have hoB7 := HOB6.out.eff heff (fun k hk hF => HROW6.out.ne_own HOB6.out (by decide) hF hk)
      have ho7 := HO6.out.eff heff (fun k hk hF => HROW6.out.ne_own HO6.out (by decide) hF hk)
      have hb7 := HB6.out.grown hg7 hz6 (fun k hk => (HROW6.out.lt k hk).1)
      obtain ⟨A7, K7, rfl⟩ := hrow7.sl
      obtain ⟨SX, hSX⟩ : ∃ SX, SS ++ [(⟨L, CH.length, B.length, BB.length⟩ : SkV)] = SX := ⟨_, rfl⟩
      have hSXl : SX.length ≤ at_ + 16 := by rw [← hSX, List.length_append, List.length_singleton]; omega
      rw [hSX] at hrow7
      rw [hSX]
      have hl0 : (bytesV B).length + (bytesV BB).length < 1000000000001 := by rw [bytesV_length, bytesV_length]; omega
      have hz7 := hb7.size
      have HROW7 := Lib.hid hrow7
      have HOB7 := Lib.hid hoB7
      have HRD7 := Lib.hid ho7.rd
      have HB7 := Lib.hid hb7
      have HSX := Lib.hid hSX
      have H1C := Lib.hid (bytesV_one BB)
      have HL0 := Lib.hid hl0
      clear hrow7 hg7 heff hoB7 ho7 hb7 hSX hl0 HROW6 HOB6 HO6 HB6 hx
      go_wp2_with (at_builtin; with_reducible refine apN elBytes HOB7.out HRD7.out H1C.out HL0.out hz7 rfl _ _ rfl rfl rfl ?_)
      intro v8 w8 k1 k2 k3 k4
      have heff8 : Eff (fun k => (Value.slice A2 B.length C2).ownBlock = some k) w7 w8 := (Eff.refl _ w7).grown k4 (fun k hk _ => hk)
      have hrow8 := HROW7.out.eff heff8 (fun k hk hF => HROW7.out.ne_own HOB7.out (by decide) hk hF)
      have hb8 := HB7.out.grown k4 hz7 (fun k hk => (HOB7.out.lt k hk).1)
      rw [← bytesV_append] at k1
      obtain ⟨A8, N8, K8, rfl⟩ := own_sl k1
      have hS9 := HS9.out
      have hB9 := HB9.out
      rw [show SS ++ (⟨L, CH.length, B.length, BB.length⟩ : SkV) :: skV L (B.length + BB.length) (chp (ps.drop (at_ + 16))) = (SS ++ [⟨L, CH.length, B.length, BB.length⟩]) ++ skV L (B.length + BB.length) (chp (ps.drop (at_ + 16))) by simp, HSX.out, ← List.length_append] at hS9
      rw [← List.append_assoc] at hB9
      have HROW8 := Lib.hid hrow8
      have HO8 := Lib.hid k1
      have HB8 := Lib.hid hb8
      have HS10 := Lib.hid hS9
      have HB10 := Lib.hid hB9
      clear hrow8 k1 k2 k3 k4 hb8 hS9 hB9 heff8
      go_wp2
      go_roundw
      case rel => exact ⟨at_ + 16, L, A7, A8, SX.length, N8, K7, K8, SX, B ++ BB, rfl, rfl, rfl, by go_num, by omega, HLC.out, HROW8.out, HO8.out, HB8.out, hSXl, HS10.out, HB10.out⟩
      case measure => simp [intOf]; omega
    · rw [sk_end hlt, List.append_nil] at hS
      rw [(enc_end (base := base) hlt).2, List.append_nil] at hB
      subst hS hB
      have i1 : ¬ ((at_ : Int) < (ps.length : Int)) := by omega
      have HROW := Lib.hid hrow
      have HO := Lib.hid ho
      have HB := Lib.hid hb
      clear hrow ho hb hbase hlt hat hss
      go_wp2
      go_ret2
      exact ⟨A1, N1, C1, A2, N2, C2, rfl, HROW.out, HO.out, HB.out⟩
end Go.Proofs.YtaijepjhmjjecaaDoor

/- posts: the document's head. -/
namespace Go.Proofs.YtaijepjhmjjecaaDoor
set_option linter.unusedVariables false
open Go.ChangeShapes Go.WideShapes Go.ChangeAt Go.RowKit

/-- Skip entries whose documents rise. -/
def skOk : Int → List SkV → Prop
  | _, [] => True
  | base, s :: r => base < s.last ∧ s.last < 2147483647 ∧ s.size ≤ 1000000000 ∧ skOk s.last r
theorem hdS_le : ∀ (base : Int) (SS : List SkV), skOk base SS → -1 ≤ base → (hdS base SS).length ≤ 20 * SS.length
  | _, [], _, _ => by simp [hdS]
  | base, s :: r, h, hb => by
    obtain ⟨h1, h2, h3, h4⟩ := h
    have := hdS_le s.last r h4 (by omega)
    have u1 := (uvar_le (s.last - base - 1).toNat (by omega)).2
    have u2 := (uvar_le s.size (by omega)).2
    rw [hdS, List.length_append, List.length_append, List.length_cons]
    omega
theorem sk_ok : ∀ (n : Nat) (base : Int) (q : Nat) (l : List PostV), l.length ≤ n → FitP l → okV base l → -1 ≤ base → totalV l ≤ 31000000 → skOk base (skV base q (chp l))
  | 0, base, q, l, hl, hf, ok, hb, hT => by
    have : l = [] := List.eq_nil_of_length_eq_zero (by omega)
    subst this
    rw [chp_nil]; trivial
  | n + 1, base, q, l, hl, hf, ok, hb, hT => by
    by_cases h0 : l = []
    · subst h0; rw [chp_nil]; trivial
    · rw [chp_cons h0]
      obtain ⟨o1, o2⟩ := okV_split ok 16
      have hne : l.take 16 ≠ [] := by
        intro h; apply h0
        have h9 := congrArg List.length h
        rw [List.length_take] at h9
        exact List.eq_nil_of_length_eq_zero (by simp only [List.length_nil] at h9; omega)
      have hla := (okV_last o1).2 hne
      have hlp : 0 < l.length := List.length_pos_iff.2 h0
      have hts := totalV_split l 16
      have ih := sk_ok n (lastV base (l.take 16)) (q + (blockB base (l.take 16)).length) (l.drop 16) (by rw [List.length_drop]; omega) (hf.drop 16) o2 (by omega) (by omega)
      have hbk := blockB_le (hf.take 16) o1 hb (by rw [List.length_take]; omega)
      exact ⟨hla.1, hla.2.1, by show (blockB base (l.take 16)).length ≤ _; omega, ih⟩
theorem sk_len_le : ∀ (n : Nat) (base : Int) (q : Nat) (l : List PostV), l.length ≤ n → (skV base q (chp l)).length ≤ l.length
  | 0, base, q, l, hl => by
    have : l = [] := List.eq_nil_of_length_eq_zero (by omega)
    subst this
    rw [chp_nil]; simp [skV]
  | n + 1, base, q, l, hl => by
    by_cases h0 : l = []
    · subst h0; rw [chp_nil]; simp [skV]
    · rw [chp_cons h0]
      have hlp : 0 < l.length := List.length_pos_iff.2 h0
      have ih := sk_len_le n (lastV base (l.take 16)) (q + (blockB base (l.take 16)).length) (l.drop 16) (by rw [List.length_drop]; omega)
      rw [List.length_drop] at ih
      rw [skV, List.length_cons]
      omega
set_option maxRecDepth 100000 in
set_option maxHeartbeats 8000000 in
theorem rhead_any (w : World) (a : Option Addr) (n c : Nat) (ps : List PostV) (hr : RdPost w a n ps) (hl : ps.length ≤ 31000000) (hT : totalV ps ≤ 31000000) (b2 : Nat) (A2 : Option Addr) (N2 C2 : Nat) (SS : List SkV) (hs : RowS w b2 (.slice A2 N2 C2) SS) (hok : skOk (-1) SS) (hsl : SS.length ≤ 31000000) :
    Calls Tryd.prog 52 #[.slice a n c, .slice A2 N2 C2] w fun e w' => ∃ v, e = .returned v ∧ Own w' w.heap.size 5 v (bytesV ((uvar ps.length ++ uvar (totalV ps)) ++ hdS (-1) SS)) ∧ Below w.heap.size w w' := by
  obtain rfl := hr.1
  obtain rfl : N2 = SS.length := by
    obtain ⟨_, _, e⟩ := hs.sl
    injection e
  have hHl := hdS_le (-1) SS hok (by omega)
  have C1 := rnum_any ps.length w (by omega)
  have u1 := (uvar_le ps.length (by omega)).2
  have u2 := (uvar_le (totalV ps) (by omega)).2
  obtain ⟨HV, hHV⟩ : ∃ HV, (uvar ps.length ++ uvar (totalV ps)) ++ hdS (-1) SS = HV := ⟨_, rfl⟩
  have hHVl : HV.length ≤ 1000000000 := by rw [← hHV, List.length_append, List.length_append]; omega
  rw [hHV]
  have HR := Lib.hid hr
  have HS := Lib.hid hs
  have HOK := Lib.hid hok
  have HHV := Lib.hid hHV
  clear hr hs hok hHV
  go_enter Tryd.func52, Tryd.ntmps52
  go_wp2_with fail
  with_reducible refine C1.mono ?_
  rintro e w1 ⟨v1, rfl, ho1, hb1⟩
  clear C1
  obtain ⟨A3, N3, K3, rfl⟩ := own_sl ho1
  have E2 := rtot_any w1 a ps.length c ps (HR.out.below hb1 (Nat.le_refl _)) (by omega) (by omega)
  have HO1 := Lib.hid ho1
  have HB1 := Lib.hid hb1
  clear ho1 hb1
  go_wp2_with fail
  with_reducible refine E2.mono ?_
  rintro e w2 ⟨rfl, hb2⟩
  clear E2
  have E3 := rnum_any (totalV ps) w2 (by omega)
  have HO2 := Lib.hid (HO1.out.below hb2 (Nat.le_refl _))
  have HB2 := Lib.hid (HB1.out.trans (hb2.mono HB1.out.size))
  clear hb2 HO1 HB1
  go_wp2_with fail
  with_reducible refine E3.mono ?_
  rintro e w3 ⟨v3, rfl, ho3, hb3⟩
  clear E3
  obtain ⟨A4, N4, K4, rfl⟩ := own_sl ho3
  have ho13 := HO2.out.below hb3 (Nat.le_refl _)
  have hb13 := HB2.out.trans (hb3.mono HB2.out.size)
  have hz3 := hb13.size
  have hl1 : (bytesV (uvar ps.length)).length + (bytesV (uvar (totalV ps))).length < 1000000000001 := by rw [bytesV_length, bytesV_length]; omega
  have HO3 := Lib.hid ho13
  have HRD3 := Lib.hid ho3.rd
  have H1A := Lib.hid (bytesV_one (uvar (totalV ps)))
  have HL1 := Lib.hid hl1
  have HB3 := Lib.hid hb13
  clear ho13 ho3 hb3 hl1 hb13 HO2 HB2
  go_wp2_with (at_builtin; with_reducible refine apN elBytes HO3.out HRD3.out H1A.out HL1.out hz3 rfl _ _ rfl rfl rfl ?_)
  intro v5 w5 k1 k2 k3 k4
  have hb5 := HB3.out.grown k4 hz3 (fun k hk => (HO3.out.lt k hk).1)
  rw [← bytesV_append] at k1
  obtain ⟨A5, N5, K5, rfl⟩ := own_sl k1
  have HO5 := Lib.hid k1
  have HB5 := Lib.hid hb5
  clear k1 k2 k3 k4 hb5 HO3 HB3 HRD3 H1A hz3
  go_wp2
  go_loopw [5, 6, 18] (fun s5 s6 s18 wr => ∃ (i : Nat) (base : Int) (A : Option Addr) (N C : Nat) (B : List UInt8), s5 = .slice A N C ∧ s6 = .int .i64 base ∧ s18 = .int .i64 i ∧ i ≤ SS.length ∧ skOk base (SS.drop i) ∧ -1 ≤ base ∧ base < 2147483647 ∧
      Own wr w.heap.size 5 (.slice A N C) (bytesV B) ∧ Below w.heap.size w wr ∧ B ++ hdS base (SS.drop i) = HV) (fun _ _ s18 _ => SS.length - (intOf s18).toNat)
  case atStart => exact ⟨0, -1, _, _, _, _, rfl, rfl, rfl, Nat.zero_le _, by rw [List.drop_zero]; exact HOK.out, by omega, by omega, HO5.out, HB5.out, by rw [List.drop_zero]; exact HHV.out⟩
  case round =>
    clear HO5 HB5 HHV HOK
    obtain ⟨i, base, A, N, C, B, rfl, rfl, rfl, hi, hok, hb0, hb1, ho, hb, hB⟩ := hrel
    have hnB := ho.len
    rw [bytesV_length] at hnB
    subst hnB
    by_cases hlt : i < SS.length
    · have hs9 := HS.out.below hb (Nat.le_refl _)
      obtain ⟨g, rfl, _, _, hc⟩ := hs9.at_ i hlt
      rw [List.drop_eq_getElem_cons hlt] at hok hB
      obtain ⟨x, hx⟩ : ∃ x, SS[i] = x := ⟨_, rfl⟩
      rw [hx] at hc hok hB
      obtain ⟨la, dc, at_, sz⟩ := x
      obtain ⟨o1, o2, o3, o4⟩ := hok
      simp only at o1 o2 o3 o4
      have c0 : wr.cell? ⟨g, i * 4, none⟩ = some (.int .i64 la) := hc 0 _ rfl
      have c1 : wr.cell? ⟨g, i * 4 + 1, none⟩ = some (.int .i64 (dc : Nat)) := hc 1 _ rfl
      have c2 : wr.cell? ⟨g, i * 4 + 2, none⟩ = some (.int .i64 (at_ : Nat)) := hc 2 _ rfl
      have c3 : wr.cell? ⟨g, i * 4 + 3, none⟩ = some (.int .i64 (sz : Nat)) := hc 3 _ rfl
      have i1 : (i : Int) < (SS.length : Int) := by omega
      rw [hdS] at hB
      simp only at hB
      have hBl : B.length ≤ HV.length := by rw [← hB, List.length_append]; omega
      obtain ⟨m, hm⟩ : ∃ m, (la - base - 1).toNat = m := ⟨_, rfl⟩
      rw [hm] at hB
      obtain ⟨D2, hD2⟩ : ∃ D2, IntKind.i64.wrap (la - base) = D2 := ⟨_, rfl⟩
      have s1 := hD2
      have s2 : IntKind.i64.wrap (D2 - 1) = (m : Int) := by rw [← hD2, IntKind.wrap_i64, IntKind.wrap_i64]; omega
      have hmb : m ≤ 2147483647 := by omega
      have u3 := (uvar_le m (by omega)).2
      have u4 := (uvar_le sz (by omega)).2
      have hbA := hb.alloc hb.size (.cells #[.int .i64 la, .int .i64 (dc : Nat), .int .i64 (at_ : Nat), .int .i64 (sz : Nat)] 117)
      have e1 := heap_alloc_new wr (.cells #[.int .i64 la, .int .i64 (dc : Nat), .int .i64 (at_ : Nat), .int .i64 (sz : Nat)] 117)
      have hoA := ho.alloc (.cells #[.int .i64 la, .int .i64 (dc : Nat), .int .i64 (at_ : Nat), .int .i64 (sz : Nat)] 117)
      have HBA := Lib.hid hbA
      have HE1 := Lib.hid e1
      have HOA := Lib.hid hoA
      have HB9 := Lib.hid hB
      have HOK := Lib.hid o4
      clear hbA e1 hoA hB o4 ho hb hs9 hc hx hm hD2
      go_upto_region 6 with fail
      generalize wr.alloc (.cells #[.int .i64 la, .int .i64 (dc : Nat), .int .i64 (at_ : Nat), .int .i64 (sz : Nat)] 117) = W at HBA HE1 HOA ⊢
      generalize wr.heap.size = GS at HE1 ⊢
      clear c0 c1 c2 c3
      have c0 := blk_cell HE1.out 0
      have c3 := blk_cell HE1.out 3
      have E1 := rnum_any m W (by omega)
      go_wp2_with fail
      with_reducible refine E1.mono ?_
      rintro e w4 ⟨v4, rfl, ho4, hb4⟩
      clear E1 s1 s2 c0 c3
      obtain ⟨A6, N6, K6, rfl⟩ := own_sl ho4
      have e4 := (hb4.block _ (lt_of_heap HE1.out)).trans HE1.out
      have hoB := HOA.out.below hb4 (Nat.le_refl _)
      have hbB := HBA.out.trans (hb4.mono HBA.out.size)
      have hz4 := hbB.size
      have hl4 : (bytesV B).length + (bytesV (uvar m)).length < 1000000000001 := by rw [bytesV_length, bytesV_length]; omega
      have hfar : ∀ k, (Value.slice A B.length C).ownBlock = some k → k ≠ GS := fun k hk e => hoB.ne_type e4 (by decide) (e ▸ hk)
      have HFAR := Lib.hid hfar
      have HO4 := Lib.hid hoB
      have HRD4 := Lib.hid ho4.rd
      have H1A := Lib.hid (bytesV_one (uvar m))
      have HL4 := Lib.hid hl4
      have HB4 := Lib.hid hbB
      have HE4 := Lib.hid e4
      clear hoB hbB ho4 hb4 hl4 e4 hfar HE1 HOA HBA
      go_wp2_with (at_builtin; with_reducible refine apN elBytes HO4.out HRD4.out H1A.out HL4.out hz4 rfl _ _ rfl rfl rfl ?_)
      intro v5 w5 k1 k2 k3 k4
      have e5 := (k4.block _ (lt_of_heap HE4.out) (fun e => HFAR.out _ e.symm rfl)).trans HE4.out
      have hb5 := HB4.out.grown k4 hz4 (fun k hk => (HO4.out.lt k hk).1)
      rw [← bytesV_append] at k1
      obtain ⟨A7, N7, K7, rfl⟩ := own_sl k1
      have c0 := blk_cell e5 0
      have c3 := blk_cell e5 3
      have HO5 := Lib.hid k1
      have HB5 := Lib.hid hb5
      have HE5 := Lib.hid e5
      clear k1 k2 k3 k4 hb5 e5 HO4 HB4 HE4 HRD4 H1A hz4 HL4 HFAR
      have E2 := rnum_any sz w5 (by omega)
      go_wp2_with fail
      with_reducible refine E2.mono ?_
      rintro e w6 ⟨v6, rfl, ho6, hb6⟩
      clear E2 c0 c3
      obtain ⟨A8, N8, K8, rfl⟩ := own_sl ho6
      have e6 := (hb6.block _ (lt_of_heap HE5.out)).trans HE5.out
      have hoB := HO5.out.below hb6 (Nat.le_refl _)
      have hbB := HB5.out.trans (hb6.mono HB5.out.size)
      have hz6 := hbB.size
      have hl6 : (bytesV (B ++ uvar m)).length + (bytesV (uvar sz)).length < 1000000000001 := by rw [bytesV_length, bytesV_length, List.length_append]; omega
      have hfar : ∀ k, (Value.slice A7 N7 K7).ownBlock = some k → k ≠ GS := fun k hk e => hoB.ne_type e6 (by decide) (e ▸ hk)
      have HFAR := Lib.hid hfar
      have HO6 := Lib.hid hoB
      have HRD6 := Lib.hid ho6.rd
      have H1A := Lib.hid (bytesV_one (uvar sz))
      have HL6 := Lib.hid hl6
      have HB6 := Lib.hid hbB
      have HE6 := Lib.hid e6
      clear hoB hbB ho6 hb6 hl6 e6 hfar HE5 HO5 HB5
      go_wp2_with (at_builtin; with_reducible refine apN elBytes HO6.out HRD6.out H1A.out HL6.out hz6 rfl _ _ rfl rfl rfl ?_)
      intro v7 w7 k1 k2 k3 k4
      have e7 := (k4.block _ (lt_of_heap HE6.out) (fun e => HFAR.out _ e.symm rfl)).trans HE6.out
      have hb7 := HB6.out.grown k4 hz6 (fun k hk => (HO6.out.lt k hk).1)
      rw [← bytesV_append, List.append_assoc] at k1
      obtain ⟨A9, N9, K9, rfl⟩ := own_sl k1
      have c0 := blk_cell e7 0
      have hB10 := HB9.out
      rw [← List.append_assoc] at hB10
      have HO7 := Lib.hid k1
      have HB7 := Lib.hid hb7
      have HB10 := Lib.hid hB10
      clear k1 k2 k3 k4 hb7 e7 HO6 HB6 HE6 HRD6 H1A hz6 HL6 HFAR hB10 HB9
      go_wp2
      go_roundw
      case rel => exact ⟨i + 1, la, A9, N9, K9, B ++ (uvar m ++ uvar sz), rfl, rfl, by go_num, by omega, HOK.out, by omega, by omega, HO7.out, HB7.out, HB10.out⟩
      case measure => simp [intOf]; omega
    · obtain rfl : i = SS.length := by omega
      have i1 : ¬ ((SS.length : Int) < (SS.length : Int)) := by omega
      rw [List.drop_length] at hB
      have hB9 : B = HV := by rw [← hB]; simp [hdS]
      subst hB9
      have HO := Lib.hid ho
      have HB := Lib.hid hb
      clear ho hb hB hok hb0 hb1
      go_wp2
      go_ret
      exact ⟨_, rfl, HO.out, HB.out⟩
end Go.Proofs.YtaijepjhmjjecaaDoor

/- posts, plain: the whole image read; what is read makes the same bytes again, and what is made is read. No program occurs here. -/
namespace Go.Proofs.YtaijepjhmjjecaaDoor
set_option linter.unusedVariables false

/-- The entries in the head, their places not told yet. -/
def entV (len : Nat) : Nat → Int → Nat → List UInt8 → Option (List SkV × List UInt8)
  | 0, _, _, l => some ([], l)
  | m + 1, base, n, l => match getUpto 2147483647 l with
    | .error _ => none
    | .ok (gap, j) => if 2147483647 - base - 1 ≤ (gap : Int) then none else match getUpto len (l.drop j) with
      | .error _ => none
      | .ok (size, j2) => match entV len m (base + gap + 1) (n - 16) ((l.drop j).drop j2) with
        | none => none
        | some (r, l') => some (⟨base + gap + 1, min 16 n, 0, size⟩ :: r, l')
/-- The places told. -/
def fillV (len : Nat) : Nat → List SkV → Option (List SkV)
  | at_, [] => if at_ = len then some [] else none
  | at_, s :: r => if (len : Int) - at_ < s.size then none else match fillV len (at_ + s.size) r with
    | none => none
    | some r' => some (⟨s.last, s.docs, at_, s.size⟩ :: r')
/-- The blocks. -/
def blkV (b : List UInt8) : Int → List SkV → Option (List (List PostV))
  | _, [] => some []
  | base, s :: r => match unpV base s.docs ((b.drop s.at_).take s.size) with
    | none => none
    | some ps => if lastV base ps ≠ s.last then none else match blkV b s.last r with
      | none => none
      | some q => some (ps :: q)
structure OpenR where
  n : Nat
  t : Nat
  sk : List SkV
  bl : List (List PostV)
/-- What heads reads. -/
def headsV (b : List UInt8) : Option (Nat × Nat × List SkV) := match getU b with
  | .error _ => none
  | .ok (n, j) => if b.length < n / 16 then none else match getU (b.drop j) with
    | .error _ => none
    | .ok (t, j2) => if b.length < t then none else match entV b.length ((n + 15) / 16) (-1) n ((b.drop j).drop j2) with
      | none => none
      | some (S, l') => match fillV b.length (b.length - l'.length) S with
        | none => none
        | some S2 => some (n, t, S2)
def openV (b : List UInt8) : Option OpenR := match headsV b with
  | none => none
  | some (n, t, S) => match blkV b (-1) S with
    | none => none
    | some bl => if totalV bl.flatten = t then some ⟨n, t, S, bl⟩ else none
def putAt : Nat → List SkV → List SkV
  | _, [] => []
  | at_, s :: r => ⟨s.last, s.docs, at_, s.size⟩ :: putAt (at_ + s.size) r
def sizesV (S : List SkV) : Nat := (S.map SkV.size).sum
theorem fill_form {len : Nat} : ∀ {S S2 : List SkV} {at_ : Nat}, fillV len at_ S = some S2 → S2 = putAt at_ S ∧ at_ + sizesV S = len
  | [], S2, at_, h => by
    rw [fillV] at h
    split at h
    · injection h with h; subst h
      exact ⟨rfl, by simpa [sizesV]⟩
    · cases h
  | s :: r, S2, at_, h => by
    rw [fillV] at h
    split at h
    · cases h
    · cases hr : fillV len (at_ + s.size) r with
      | none => rw [hr] at h; cases h
      | some r' =>
        rw [hr] at h
        injection h with h
        subst h
        obtain ⟨h1, h2⟩ := fill_form hr
        exact ⟨by rw [putAt, h1], by unfold sizesV at h2 ⊢; rw [List.map_cons, List.sum_cons]; omega⟩
theorem fill_of {len : Nat} : ∀ (S : List SkV) (at_ : Nat), at_ + sizesV S = len → fillV len at_ S = some (putAt at_ S)
  | [], at_, h => by rw [fillV, if_pos (by simpa [sizesV] using h)]; rfl
  | s :: r, at_, h => by
    unfold sizesV at h
    rw [List.map_cons, List.sum_cons] at h
    rw [fillV, if_neg (by omega), fill_of r (at_ + s.size) (by unfold sizesV; omega)]
    rfl
/-- How many documents the blocks have. -/
def dcs : Nat → Nat → List Nat
  | 0, _ => []
  | m + 1, n => min 16 n :: dcs m (n - 16)
theorem ent_form {len : Nat} : ∀ (m : Nat) (base : Int) (n : Nat) (l : List UInt8) (S : List SkV) (l' : List UInt8), -1 ≤ base → entV len m base n l = some (S, l') → hdS base S ++ l' = l ∧ S.map SkV.docs = dcs m n
  | 0, base, n, l, S, l', hb, h => by
    rw [entV] at h; injection h with h; injection h with h1 h2; subst h1 h2
    exact ⟨rfl, rfl⟩
  | m + 1, base, n, l, S, l', hb, h => by
    rw [entV] at h
    cases h1 : getUpto 2147483647 l with
    | error e => rw [h1] at h; cases h
    | ok y =>
      obtain ⟨gap, j⟩ := y
      rw [h1] at h
      simp only at h
      split at h
      · cases h
      · next hg =>
        cases h2 : getUpto len (l.drop j) with
        | error e => rw [h2] at h; cases h
        | ok y =>
          obtain ⟨size, j2⟩ := y
          rw [h2] at h
          simp only at h
          cases h3 : entV len m (base + gap + 1) (n - 16) ((l.drop j).drop j2) with
          | none => rw [h3] at h; cases h
          | some y =>
            obtain ⟨r, l2⟩ := y
            rw [h3] at h
            injection h with h
            injection h with e1 e2
            subst e1 e2
            obtain ⟨i1, i2⟩ := ent_form m (base + gap + 1) (n - 16) _ r l2 (by omega) h3
            have f1 := (formU (getUpto_len h1).1).1
            have f2 := (formU (getUpto_len h2).1).1
            refine ⟨?_, by rw [List.map_cons, i2]; rfl⟩
            rw [hdS]
            simp only
            rw [show (base + (gap : Int) + 1 - base - 1).toNat = gap by omega, List.append_assoc, List.append_assoc, i1, ← f1, ← f2, List.take_append_drop, List.take_append_drop]
def zAt (s : SkV) : SkV := ⟨s.last, s.docs, 0, s.size⟩
theorem ent_of {len : Nat} (hlen : len < 2 ^ 63) : ∀ (S : List SkV) (base : Int) (n : Nat) (t : List UInt8), -1 ≤ base → skOk base S → (∀ s ∈ S, s.size ≤ len) → S.map SkV.docs = dcs S.length n →
    entV len S.length base n (hdS base S ++ t) = some (S.map zAt, t)
  | [], base, n, t, _, _, _, _ => rfl
  | s :: r, base, n, t, hb, ok, hs, hd => by
    obtain ⟨h1, h2, h3, h4⟩ := ok
    rw [List.map_cons, List.length_cons, dcs] at hd
    injection hd with hd1 hd2
    have hsz := hs s (List.mem_cons_self ..)
    have ih := ent_of hlen r s.last (n - 16) t (by omega) h4 (fun x hx => hs x (List.mem_cons_of_mem _ hx)) hd2
    have e1 := gp_upto 2147483647 (s.last - base - 1).toNat (by omega) (by omega) (uvar s.size ++ (hdS s.last r ++ t))
    have e2 := gp_upto len s.size (by omega) (by omega) (hdS s.last r ++ t)
    rw [List.length_cons, entV, hdS, List.append_assoc, List.append_assoc, e1]
    simp only
    rw [if_neg (by omega), List.drop_left, e2]
    simp only
    rw [List.drop_left, show base + ((s.last - base - 1).toNat : Nat) + 1 = s.last by omega, ih, ← hd1]
    rfl
theorem blk_form {b : List UInt8} : ∀ (S : List SkV) (base : Int) (at_ : Nat) (bl : List (List PostV)), -1 ≤ base → at_ + sizesV S = b.length → blkV b base (putAt at_ S) = some bl →
    putAt at_ S = skV base at_ bl ∧ bodyV (blksV base bl) = b.drop at_ ∧ okV base bl.flatten ∧ bl.map List.length = S.map SkV.docs ∧ ∀ p ∈ bl.flatten, asc (-1) p.pos
  | [], base, at_, bl, hb, hsz, h => by
    rw [putAt, blkV] at h; injection h with h; subst h
    refine ⟨rfl, ?_, rfl, rfl, fun p hp => by cases hp⟩
    rw [List.drop_of_length_le (by simp [sizesV] at hsz; omega)]; rfl
  | s :: r, base, at_, bl, hb, hsz, h => by
    unfold sizesV at hsz
    rw [List.map_cons, List.sum_cons] at hsz
    rw [putAt, blkV] at h
    simp only at h
    cases hu : unpV base s.docs ((b.drop at_).take s.size) with
    | none => rw [hu] at h; cases h
    | some ps =>
      rw [hu] at h
      simp only at h
      split at h
      · cases h
      · next hla =>
        have hla := Decidable.not_not.1 hla
        cases hr : blkV b s.last (putAt (at_ + s.size) r) with
        | none => rw [hr] at h; cases h
        | some q =>
          rw [hr] at h
          injection h with h
          subst h
          obtain ⟨u1, u2, u3, u4⟩ := unpV_form hb hu
          have hbl := okV_ge u1 hb
          rw [hla] at hbl
          obtain ⟨i1, i2, i3, i4, i5⟩ := blk_form r s.last (at_ + s.size) q hbl (by unfold sizesV; omega) hr
          have hlen : (blockB base ps).length = s.size := by rw [u2, List.length_take, List.length_drop]; omega
          refine ⟨?_, ?_, ?_, ?_, ?_⟩
          · rw [putAt, skV, hlen, hla, u3, i1]
          · rw [blksV, hla]
            show blockB base ps ++ bodyV (blksV s.last q) = _
            rw [i2, u2, ← List.drop_drop, List.take_append_drop]
          · rw [List.flatten_cons]
            exact okV_join u1 (by rw [hla]; exact i3)
          · rw [List.map_cons, List.map_cons, i4, u3]
          · intro p hp
            rw [List.flatten_cons] at hp
            rcases List.mem_append.1 hp with hp | hp
            · exact u4 p hp
            · exact i5 p hp
theorem blk_of {b : List UInt8} : ∀ (bl : List (List PostV)) (base : Int) (at_ : Nat), -1 ≤ base → okV base bl.flatten → FitP bl.flatten → (∀ c ∈ bl, c.length ≤ 16) → b.drop at_ = bodyV (blksV base bl) →
    blkV b base (skV base at_ bl) = some bl
  | [], base, at_, _, _, _, _, _ => rfl
  | c :: r, base, at_, hb, ok, hf, hl, hd => by
    rw [List.flatten_cons] at ok hf
    obtain ⟨o1, o2⟩ := okV_append ok
    rw [blksV] at hd
    have hd : b.drop at_ = blockB base c ++ bodyV (blksV (lastV base c) r) := hd
    have hu := unpV_of hb o1 hf.left (hl c (List.mem_cons_self ..))
    have ih := blk_of r (lastV base c) (at_ + (blockB base c).length) (okV_ge o1 hb) o2 hf.right (fun x hx => hl x (List.mem_cons_of_mem _ hx)) (by rw [← List.drop_drop, hd, List.drop_left])
    rw [skV, blkV]
    simp only
    rw [hd, List.take_left, hu]
    simp only
    rw [if_neg (by simp), ih]
theorem chp_of : ∀ (m n : Nat) (bl : List (List PostV)), m = (n + 15) / 16 → bl.map List.length = dcs m n → chp bl.flatten = bl ∧ bl.flatten.length = n
  | 0, n, bl, hm, h => by
    have hn : n = 0 := by omega
    have : bl = [] := by cases bl with
      | nil => rfl
      | cons c r => simp [dcs] at h
    subst this hn
    exact ⟨chp_nil, rfl⟩
  | m + 1, n, bl, hm, h => by
    cases bl with
    | nil => simp [dcs] at h
    | cons c r =>
      rw [List.map_cons, dcs] at h
      injection h with h1 h2
      obtain ⟨i1, i2⟩ := chp_of m (n - 16) r (by omega) h2
      have hc : 0 < c.length := by omega
      have hne : c ++ r.flatten ≠ [] := fun e => by rw [(List.append_eq_nil_iff.1 e).1] at hc; simp at hc
      rw [List.flatten_cons, chp_cons hne, List.length_append]
      refine ⟨?_, by omega⟩
      by_cases h16 : n ≤ 16
      · have hr0 : r.flatten = [] := List.eq_nil_of_length_eq_zero (by omega)
        rw [hr0] at i1 ⊢
        rw [chp_nil] at i1
        rw [List.append_nil, List.take_of_length_le (by omega), List.drop_of_length_le (by omega), chp_nil, ← i1]
      · have hc16 : c.length = 16 := by omega
        rw [show (16 : Nat) = c.length from hc16.symm, List.take_left, List.drop_left, i1]
theorem chp_flat : ∀ (n : Nat) (l : List PostV), l.length ≤ n → (chp l).flatten = l ∧ (chp l).map List.length = dcs ((l.length + 15) / 16) l.length ∧ (∀ c ∈ chp l, c.length ≤ 16) ∧ (chp l).length = (l.length + 15) / 16
  | 0, l, hl => by
    have : l = [] := List.eq_nil_of_length_eq_zero (by omega)
    subst this
    rw [chp_nil]; exact ⟨rfl, rfl, (fun c hc => by cases hc), rfl⟩
  | n + 1, l, hl => by
    by_cases h0 : l = []
    · subst h0; rw [chp_nil]; exact ⟨rfl, rfl, (fun c hc => by cases hc), rfl⟩
    · have hlp : 0 < l.length := List.length_pos_iff.2 h0
      obtain ⟨i1, i2, i3, i4⟩ := chp_flat n (l.drop 16) (by rw [List.length_drop]; omega)
      rw [List.length_drop] at i2 i4
      rw [chp_cons h0, show (l.length + 15) / 16 = (l.length - 16 + 15) / 16 + 1 by omega]
      refine ⟨by rw [List.flatten_cons, i1, List.take_append_drop], ?_, ?_, by rw [List.length_cons, i4]⟩
      · rw [List.map_cons, i2, dcs, List.length_take]
      · intro c hc
        rcases List.mem_cons.1 hc with rfl | hc
        · rw [List.length_take]; omega
        · exact i3 c hc
theorem skV_docs : ∀ (base : Int) (q : Nat) (cs : List (List PostV)), (skV base q cs).map SkV.docs = cs.map List.length
  | _, _, [] => rfl
  | base, q, c :: r => by rw [skV, List.map_cons, skV_docs, List.map_cons]
theorem skV_len : ∀ (base : Int) (q : Nat) (cs : List (List PostV)), (skV base q cs).length = cs.length
  | _, _, [] => rfl
  | base, q, c :: r => by rw [skV, List.length_cons, skV_len, List.length_cons]
theorem skV_put : ∀ (base : Int) (q q' : Nat) (cs : List (List PostV)), putAt q ((skV base q' cs).map zAt) = skV base q cs
  | _, _, _, [] => rfl
  | base, q, q', c :: r => by
    rw [skV, List.map_cons, putAt, skV]
    show _ :: putAt (q + (blockB base c).length) _ = _
    rw [skV_put]
    rfl
theorem skV_sizes : ∀ (base : Int) (q : Nat) (cs : List (List PostV)), sizesV ((skV base q cs).map zAt) = (bodyV (blksV base cs)).length ∧ ∀ s ∈ skV base q cs, s.size ≤ (bodyV (blksV base cs)).length
  | _, _, [] => ⟨rfl, fun s hs => by cases hs⟩
  | base, q, c :: r => by
    obtain ⟨i1, i2⟩ := skV_sizes (lastV base c) (q + (blockB base c).length) r
    have hd : (bodyV (blksV base (c :: r))).length = (blockB base c).length + (bodyV (blksV (lastV base c) r)).length := by
      rw [← List.length_append]; rfl
    unfold sizesV at i1 ⊢
    rw [hd, skV, List.map_cons, List.map_cons, List.sum_cons, i1]
    refine ⟨rfl, fun s hs => ?_⟩
    rcases List.mem_cons.1 hs with rfl | hs
    · show (blockB base c).length ≤ _; omega
    · have := i2 s hs; omega
theorem putAt_hd : ∀ (base : Int) (q : Nat) (S : List SkV), hdS base (putAt q S) = hdS base S
  | _, _, [] => rfl
  | base, q, s :: r => by rw [putAt, hdS, hdS, putAt_hd]
/-- How long the head is. -/
def headL (ps : List PostV) : Nat := ((uvar ps.length ++ uvar (totalV ps)) ++ headV (blksV (-1) (chp ps))).length
theorem openV_form {b : List UInt8} {r : OpenR} (h : openV b = some r) : ∃ ps, okV (-1) ps ∧ (∀ p ∈ ps, asc (-1) p.pos) ∧ b = imageV ps ∧ r = ⟨ps.length, totalV ps, skV (-1) (headL ps) (chp ps), chp ps⟩ := by
  unfold openV at h
  cases hh : headsV b with
  | none => rw [hh] at h; cases h
  | some y =>
    obtain ⟨n, t, S2⟩ := y
    rw [hh] at h
    simp only at h
    unfold headsV at hh
    cases h1 : getU b with
    | error e => rw [h1] at hh; cases hh
    | ok y =>
      obtain ⟨n', j⟩ := y
      rw [h1] at hh
      simp only at hh
      split at hh
      · cases hh
      · next hn =>
        cases h2 : getU (b.drop j) with
        | error e => rw [h2] at hh; cases hh
        | ok y =>
          obtain ⟨t', j2⟩ := y
          rw [h2] at hh
          simp only at hh
          split at hh
          · cases hh
          · next ht =>
            cases h3 : entV b.length ((n' + 15) / 16) (-1) n' ((b.drop j).drop j2) with
            | none => rw [h3] at hh; cases hh
            | some y =>
              obtain ⟨S, l'⟩ := y
              rw [h3] at hh
              simp only at hh
              cases h4 : fillV b.length (b.length - l'.length) S with
              | none => rw [h4] at hh; cases hh
              | some S3 =>
                rw [h4] at hh
                injection hh with hh
                injection hh with e1 hh
                injection hh with e2 e3
                subst e1 e2 e3
                cases h5 : blkV b (-1) S3 with
                | none => rw [h5] at h; cases h
                | some bl =>
                  rw [h5] at h
                  simp only at h
                  split at h
                  · next htt =>
                    injection h with h
                    subst h
                    obtain ⟨f1, f2⟩ := fill_form h4
                    obtain ⟨g1, g2⟩ := ent_form _ _ _ _ _ _ (by omega) h3
                    subst f1
                    obtain ⟨i1, i2, i3, i4, i5⟩ := blk_form S (-1) (b.length - l'.length) bl (by omega) f2 h5
                    obtain ⟨c1, c2⟩ := chp_of ((n' + 15) / 16) n' bl rfl (i4.trans g2)
                    have k1 := (formU h1).1
                    have k2 := (formU h2).1
                    have hb : b = uvar n' ++ (uvar t' ++ (hdS (-1) S ++ l')) := by rw [g1, ← k1, ← k2, List.take_append_drop, List.take_append_drop]
                    have hll : b.length = (uvar n' ++ uvar t' ++ hdS (-1) S).length + l'.length := by
                      have := congrArg List.length hb
                      rw [this]; simp only [List.length_append]; omega
                    have hd : b.drop (b.length - l'.length) = l' := by
                      rw [show b.length - l'.length = (uvar n' ++ uvar t' ++ hdS (-1) S).length by omega]
                      conv => lhs; rw [hb]
                      rw [← List.append_assoc, ← List.append_assoc, List.drop_left]
                    have hh1 : hdS (-1) S = headV (blksV (-1) bl) := by rw [← putAt_hd _ (b.length - l'.length), i1, hdS_sk]
                    have hq : b.length - l'.length = headL bl.flatten := by
                      unfold headL
                      rw [c1, c2, htt, ← hh1]
                      omega
                    refine ⟨bl.flatten, i3, i5, ?_, ?_⟩
                    · unfold imageV
                      rw [c1, c2, htt, i2, hd, ← hh1, List.append_assoc]
                      exact hb
                    · rw [c1, c2, htt, i1, hq]
                  · cases h
theorem openV_of {ps : List PostV} (ok : okV (-1) ps) (hf : FitP ps) (hl : ps.length ≤ 31000000) (hT : totalV ps ≤ 31000000) : openV (imageV ps) = some ⟨ps.length, totalV ps, skV (-1) (headL ps) (chp ps), chp ps⟩ := by
  have him := image_le hf ok hl hT
  obtain ⟨q1, q2, q3, q4⟩ := chp_flat _ ps (Nat.le_refl _)
  have hsk := sk_ok _ (-1) (headL ps) ps (Nat.le_refl _) hf ok (by omega) hT
  obtain ⟨z1, z2⟩ := skV_sizes (-1) (headL ps) (chp ps)
  have hlen : (imageV ps).length = headL ps + (bodyV (blksV (-1) (chp ps))).length := by
    unfold imageV headL
    simp only [List.length_append]; omega
  have hbody : totalV ps ≤ (bodyV (blksV (-1) (chp ps))).length ∧ 2 * ((ps.length + 15) / 16) ≤ (bodyV (blksV (-1) (chp ps))).length := by
    have hg : ∀ (cs : List (List PostV)) (base : Int), okV base cs.flatten → totalV cs.flatten ≤ (bodyV (blksV base cs)).length ∧ 2 * cs.length ≤ (bodyV (blksV base cs)).length := by
      intro cs
      induction cs with
      | nil => intro base _; simp [totalV, blksV, bodyV]
      | cons c r ih =>
        intro base hok
        rw [List.flatten_cons] at hok
        obtain ⟨o1, o2⟩ := okV_append hok
        obtain ⟨g1, g2⟩ := ih _ o2
        obtain ⟨g3, g4⟩ := blockB_ge o1
        have hd : (bodyV (blksV base (c :: r))).length = (blockB base c).length + (bodyV (blksV (lastV base c) r)).length := by
          rw [← List.length_append]; rfl
        rw [List.flatten_cons, totalV_append, hd, List.length_cons]
        omega
    have := hg (chp ps) (-1) (by rw [q1]; exact ok)
    rw [q1, q4] at this
    exact this
  unfold openV headsV
  have e1 : imageV ps = uvar ps.length ++ (uvar (totalV ps) ++ (hdS (-1) (skV (-1) (headL ps) (chp ps)) ++ bodyV (blksV (-1) (chp ps)))) := by
    rw [hdS_sk]; unfold imageV; simp only [List.append_assoc]
  have hdrop : (imageV ps).drop (headL ps) = bodyV (blksV (-1) (chp ps)) := by
    unfold headL imageV
    rw [← List.append_assoc, List.drop_left]
  have g1 := getU_uvar ps.length (by omega) (uvar (totalV ps) ++ (hdS (-1) (skV (-1) (headL ps) (chp ps)) ++ bodyV (blksV (-1) (chp ps))))
  have g2 := getU_uvar (totalV ps) (by omega) (hdS (-1) (skV (-1) (headL ps) (chp ps)) ++ bodyV (blksV (-1) (chp ps)))
  rw [← e1] at g1
  rw [g1]
  simp only
  have hd1 : (imageV ps).drop (uvar ps.length).length = uvar (totalV ps) ++ (hdS (-1) (skV (-1) (headL ps) (chp ps)) ++ bodyV (blksV (-1) (chp ps))) := by
    rw [e1, List.drop_left]
  rw [if_neg (by omega), hd1, g2]
  simp only
  rw [if_neg (by omega), List.drop_left]
  have hen := ent_of (len := (imageV ps).length) (by omega) (skV (-1) (headL ps) (chp ps)) (-1) ps.length (bodyV (blksV (-1) (chp ps))) (by omega) hsk (fun s hs => by have := z2 s hs; omega) (by rw [skV_docs, skV_len, q2, q4])
  rw [skV_len, q4] at hen
  rw [hen]
  simp only
  have hfi := fill_of (len := (imageV ps).length) ((skV (-1) (headL ps) (chp ps)).map zAt) (headL ps) (by omega)
  rw [show (imageV ps).length - (bodyV (blksV (-1) (chp ps))).length = headL ps by omega, hfi, skV_put]
  simp only
  have hbk := blk_of (b := imageV ps) (chp ps) (-1) (headL ps) (by omega) (by rw [q1]; exact ok) (by rw [q1]; exact hf) q3 hdrop
  rw [hbk]
  simp only
  rw [q1, if_pos rfl]
theorem openV_none {b : List UInt8} (h : openV b = none) (ps : List PostV) (ok : okV (-1) ps) (hf : FitP ps) (hl : ps.length ≤ 31000000) (hT : totalV ps ≤ 31000000) : b ≠ imageV ps := fun e => by
  rw [e, openV_of ok hf hl hT] at h; cases h
end Go.Proofs.YtaijepjhmjjecaaDoor
