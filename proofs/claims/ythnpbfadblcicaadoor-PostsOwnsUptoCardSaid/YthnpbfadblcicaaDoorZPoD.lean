/- PostsOwns: the law's decoded. -/
import Derived.Test.YthnpbfadblcicaaDoorZPoN
import Derived.Test.YthnpbfadblcicaaDoorZG18
import Derived.Test.YthnpbfadblcicaaDoorZG18
import Derived.Test.YthnpbfadblcicaaDoorZG17
import Derived.Test.YthnpbfadblcicaaDoorZG17
namespace Go.Proofs.YthnpbfadblcicaaDoor
set_option linter.unusedVariables false
open Go.ChangeShapes Go.WideShapes Go.ChangeAt Go.RowKit

/-- Decode of an image. -/
theorem dec_img (X : World) (a : Option Addr) (nb cb : Nat) (ps : List PostV) (hr : Rd X (.slice a nb cb) (bytesV (imageV ps))) (ok : okV (-1) ps) (hf : FitP ps) (hl : ps.length ≤ 1048576) (hT : totalV ps ≤ 1048576) (EA : Nat → Addr) (hS : Sent6 X EA) :
    Calls Tryd.prog 22 #[.slice a nb cb] X fun e X' => ∃ A C vs, e = .returned (.tuple #[.slice A ps.length C, .nilIface]) ∧ RowP X' X.heap.size (.slice A ps.length C) ps vs ∧ Below X.heap.size X X' := by
  have him := image_le31 hf ok hl hT
  have hop := openV_of ok hf (by omega) (by omega)
  have hfl : (chp ps).flatten = ps := (chp_flat _ ps (Nat.le_refl _)).1
  refine (dec_any X a nb cb (imageV ps) hr (by omega) (fun r h => by
    rw [hop] at h
    injection h with h
    subst h
    rw [show (⟨ps.length, totalV ps, skV (-1) (headL ps) (chp ps), chp ps⟩ : OpenR).bl.flatten = ps from hfl]
    omega) EA hS).mono fun e X' hp => ?_
  obtain ⟨h1, _, h3⟩ := hp
  obtain ⟨A, N, C, vs, he, hrow⟩ := h1 _ hop
  have e9 : (⟨ps.length, totalV ps, skV (-1) (headL ps) (chp ps), chp ps⟩ : OpenR).bl.flatten = ps := hfl
  rw [e9] at hrow
  obtain ⟨_, _, e8, _⟩ := hrow.sl
  injection e8 with _ e8 _
  subst e8
  exact ⟨A, C, vs, he, hrow, h3⟩
theorem rd_takeB {w : World} {a : Option Addr} {n c : Nat} {B : Nat} {bs : List UInt8} (h : Own w B 5 (.slice a n c) (bytesV bs)) (k : Nat) (hk : k ≤ bs.length) : Own w B 5 (.slice a k c) (bytesV (bs.take k)) := by
  have h9 := own_takeN h k (by rw [bytesV_length]; exact hk)
  have e : (bytesV bs).take k = bytesV (bs.take k) := by unfold bytesV; exact List.map_take.symm
  rwa [e] at h9
set_option maxRecDepth 100000 in
set_option maxHeartbeats 16000000 in
theorem decoded_any (w : World) (a : Option Addr) (nb cb : Nat) (al : Option Addr) (cl : Nat) (ps : List PostV) (hr : Rd w (.slice a nb cb) (bytesV (imageV ps))) (hL : RdPost w al ps.length ps) (ok : okV (-1) ps) (hf : FitP ps) (hl : ps.length ≤ 1048576) (hT : totalV ps ≤ 1048576) (EA : Nat → Addr) (hS : Sent6 w EA) :
    Calls Tryd.prog 28 #[.slice a nb cb, .slice al ps.length cl] w fun e w' => e = .returned (.bool true) ∧ Below w.heap.size w w' := by
  have him := image_le31 hf ok hl hT
  obtain ⟨IM, hIM⟩ : ∃ IM, imageV ps = IM := ⟨_, rfl⟩
  have C1 := spare_any w a nb cb (imageV ps) hr (by omega)
  have hnb : nb = (imageV ps).length := (rd_bytes hr).1
  subst hnb
  have CD := fun (X : World) (A : Option Addr) (C : Nat) (h : Rd X (.slice A (imageV ps).length C) (bytesV (imageV ps))) (hS : Sent6 X EA) => dec_img X A (imageV ps).length C ps h ok hf hl hT EA hS
  have CS := fun (X : World) (A : Option Addr) (C : Nat) (h : RdPost X A ps.length ps) (hL : RdPost X al ps.length ps) => same8_any X A al ps.length ps.length C cl ps h hL (by omega) (fun p hp => by have := (hf p hp).2.2; omega)
  have hpl : ∀ k, (pp ps k).length ≤ 31000000 := fun k => by
    unfold pp
    by_cases h : k < ps.length
    · rw [getD_at ps pz h]; exact (hf _ (List.getElem_mem h)).2.2
    · rw [show ps.getD k pz = pz by simp [List.getD, List.getElem?_eq_none (Nat.le_of_not_lt h)]]; simp [pz]
  have HC1 := Lib.hid C1
  have HCD := Lib.hid CD
  have HCS := Lib.hid CS
  have HPL := Lib.hid hpl
  have HLW := Lib.hid (show ∀ X, Below w.heap.size w X → RdPost X al ps.length ps from fun X h => hL.below h (Nat.le_refl _))
  have HRW := Lib.hid (show ∀ X, Below w.heap.size w X → Rd X (.slice a (imageV ps).length cb) (bytesV (imageV ps)) from fun X h => hr.below h (Nat.le_refl _))
  have HSW := Lib.hid (show ∀ X, Below w.heap.size w X → Sent6 X EA from fun X h => hS.below h)
  rw [hIM] at him HC1 HCD HRW
  rw [hIM]
  clear hr hL ok hf C1 CD CS hpl hS hIM
  go_enter Tryd.func28, Tryd.ntmps28
  go_wp2_with fail
  with_reducible refine HC1.out.mono ?_
  rintro e w1 ⟨A1, C1, rfl, ho1, hb1⟩
  have hoA := rd_takeB ho1 IM.length (by rw [List.length_append]; omega)
  rw [List.take_left] at hoA
  have HOF := Lib.hid ho1
  have HOA := Lib.hid hoA
  have HB1 := Lib.hid hb1
  clear ho1 hoA hb1 HC1
  have Q2 := HCD.out w1 A1 C1 HOA.out.rd (HSW.out _ HB1.out)
  go_wp2_with fail
  with_reducible refine Q2.mono ?_
  rintro e w2 ⟨A2, C2, va, rfl, hra, hb2⟩
  have hw12 := HB1.out.size
  have HB2 := Lib.hid (HB1.out.trans (hb2.mono hw12))
  have HOA2 := Lib.hid (HOA.out.below hb2 (Nat.le_refl _))
  have HOF2 := Lib.hid (HOF.out.below hb2 (Nat.le_refl _))
  have HRA := Lib.hid hra
  have hz12 : w1.heap.size ≤ w2.heap.size := hb2.size
  have HLO := Lib.hid (show ∀ k, (Value.slice A1 IM.length C1).ownBlock = some k → w.heap.size ≤ k ∧ k < w1.heap.size from HOA.out.lt)
  clear Q2 hra hb2 HOA HOF
  have Q3 := HCD.out w2 A1 C1 HOA2.out.rd (HSW.out _ HB2.out)
  go_wp2_with fail
  with_reducible refine Q3.mono ?_
  rintro e w3 ⟨A3, C3, vb, rfl, hrb, hb3⟩
  have HB3 := Lib.hid (HB2.out.trans (hb3.mono HB2.out.size))
  have HOA3 := Lib.hid (HOA2.out.below hb3 (Nat.le_refl _))
  have HOF3 := Lib.hid (HOF2.out.below hb3 (Nat.le_refl _))
  have HRA3 := Lib.hid (HRA.out.below hb3 (Nat.le_refl _))
  have HRB3 := Lib.hid hrb
  have HRB9 := Lib.hid (show ∀ k, (Value.slice A3 ps.length C3).ownBlock = some k → w2.heap.size ≤ k from fun k hk => (hrb.lt k hk).1)
  have hz23 : w2.heap.size ≤ w3.heap.size := hb3.size
  have HLA := Lib.hid (show ∀ k, RowB (.slice A2 ps.length C2) ps.length va k → w1.heap.size ≤ k ∧ k < w2.heap.size from HRA.out.ge)
  clear Q3 hrb hb3 HOA2 HOF2 HRA
  have S1 := HCS.out w3 A2 C2 HRA3.out.rd (HLW.out _ HB3.out)
  have S2 := fun d => HCS.out (w3.drewN d) A3 C3 (show RdPost (w3.drewN d) _ _ _ from HRB3.out.rd) (HLW.out _ (below_drewN HB3.out d))
  have S3 := fun d => kept_any (w3.drewN d) A1 (IM.length + 80) C1 a IM.length cb IM (show Rd (w3.drewN d) _ _ from HOF3.out.rd) (HRW.out _ (below_drewN HB3.out d)) (by omega)
  have HS1 := Lib.hid S1
  have HS2 := Lib.hid S2
  have HS3 := Lib.hid S3
  clear S1 S2 S3
  go_wp2_with fail
  with_reducible refine HS1.out.mono ?_
  rintro e w4 ⟨rfl, d4, rfl⟩
  go_wp2_with fail
  with_reducible refine (HS2.out _).mono ?_
  rintro e w5 ⟨rfl, d5, hx5⟩
  rw [World.drewN_drewN] at hx5
  subst hx5
  go_wp2_with fail
  with_reducible refine (HS3.out _).mono ?_
  rintro e w6 ⟨rfl, d6, hx6⟩
  rw [World.drewN_drewN] at hx6
  subst hx6
  clear HS1 HS2 HS3 HOF3
  have hbd := below_drewN (Below.refl w3.heap.size w3) (d4 + d5 + d6)
  have HB4 := Lib.hid (HB3.out.trans (hbd.mono HB3.out.size))
  have HOA4 := Lib.hid (HOA3.out.below hbd (Nat.le_refl _))
  have HRA4 := Lib.hid (HRA3.out.below hbd (Nat.le_refl _))
  have HRB4 := Lib.hid ((HRB3.out.below hbd (Nat.le_refl _)))
  have hz34 : w3.heap.size ≤ (w3.drewN (d4 + d5 + d6)).heap.size := hbd.size
  clear hbd HOA3 HRA3 HRB3 HB3
  generalize w3.drewN (d4 + d5 + d6) = w4 at HB4 HOA4 HRA4 HRB4 hz34 ⊢
  have Q6 := positions_any w4 _ A2 ps.length C2 ps va HRA4.out (by omega)
  go_wp2_with fail
  with_reducible refine Q6.mono ?_
  rintro e w5 ⟨P1, K1, rfl, hp1, hb5⟩
  have HB5 := Lib.hid (HB4.out.trans (hb5.mono HB4.out.size))
  have HOA5 := Lib.hid (HOA4.out.below hb5 (Nat.le_refl _))
  have HRA5 := Lib.hid (HRA4.out.below hb5 (Nat.le_refl _))
  have HRB5 := Lib.hid (HRB4.out.below hb5 (Nat.le_refl _))
  have HP1 := Lib.hid hp1
  have hz45 : w4.heap.size ≤ w5.heap.size := hb5.size
  clear Q6 hp1 hb5 HB4 HOA4 HRA4 HRB4
  have Q7 := positions_any w5 _ A3 ps.length C3 ps vb HRB5.out (by omega)
  go_wp2_with fail
  with_reducible refine Q7.mono ?_
  rintro e w6 ⟨P2, K2, rfl, hp2, hb6⟩
  have HB6 := Lib.hid (HB5.out.trans (hb6.mono HB5.out.size))
  have HOA6 := Lib.hid (HOA5.out.below hb6 (Nat.le_refl _))
  have HRA6 := Lib.hid (HRA5.out.below hb6 (Nat.le_refl _))
  have HRB6 := Lib.hid ((HRB5.out.below hb6 (Nat.le_refl _)).mono hz12)
  have HP6 := Lib.hid (HP1.out.below hb6 (Nat.le_refl _))
  have HP2 := Lib.hid hp2.rd
  have HLB := Lib.hid (show ∀ k b, k < ps.length → (vb k).ownBlock = some b → w2.heap.size ≤ b from fun k b hk hb => ((HRB5.out.own k hk).lt b hb).1)
  have hz56 : w5.heap.size ≤ w6.heap.size := hb6.size
  have hl6 : ((List.range ps.length).map va).length + ((List.range ps.length).map vb).length < 1000000000001 := by simp; omega
  have HON := Lib.hid (show ∀ u ∈ (List.range ps.length).map vb, u.oneCell' = true from fun u hu => by
    obtain ⟨k, hk, rfl⟩ := List.mem_map.1 hu
    exact own_oneCell (HRB5.out.own k (List.mem_range.1 hk)))
  have HL6 := Lib.hid hl6
  have hz46 : w4.heap.size ≤ w6.heap.size := Nat.le_trans hz45 hz56
  clear Q7 hp2 hb6 HB5 HOA5 HRA5 HRB5 HP1 hl6
  go_wp2_with (at_builtin; with_reducible refine apN elLL9 HP6.out HP2.out HON.out HL6.out hz46 rfl _ _ rfl rfl rfl ?_)
  intro v7 w7 k1 k2 k3 k4
  have e67 : Eff (fun q => (Value.slice P1 ps.length K1).ownBlock = some q) w6 w7 := (Eff.refl _ w6).grown k4 (fun q hq _ => hq)
  have hb7 := HB6.out.grown k4 HB6.out.size (fun q hq => by have := (HP6.out.lt q hq).1; have := HB6.out.size; have := HB2.out.size; omega)
  have ha7 := HRA6.out.eff e67 (fun b hb f => by
    rcases hb with hb | ⟨k, hk, hb⟩
    · exact row_ne_own HRA6.out.row HP6.out (by decide) hb f
    · exact own_types (HRA6.out.own k hk) HP6.out (by decide) hb f)
  have hb7' := HRB6.out.eff e67 (fun b hb f => by
    rcases hb with hb | ⟨k, hk, hb⟩
    · exact row_ne_own HRB6.out.row HP6.out (by decide) hb f
    · exact own_types (HRB6.out.own k hk) HP6.out (by decide) hb f)
  have how := ha7.lists.join hb7'.lists (fun k l b hk hl' hb h9 => by
    have h1 := (HLA.out b (.inr ⟨k, hk, hb⟩)).2
    have h2 := HLB.out l b hl' h9
    omega)
  have hz7 : w6.heap.size ≤ w7.heap.size := k4.size
  have hoa7 := HOA6.out.eff e67 (fun q hq f => own_types HOA6.out HP6.out (by decide) hq f)
  rw [← range_app] at k1
  obtain ⟨A7, C7, hv7⟩ := own_slice k1
  rw [List.length_map, List.length_range] at hv7
  subst hv7
  have hap : ∀ b o, A7 = some ⟨b, o, none⟩ → ¬ FvI (ps.length + ps.length) (fun k => if k < ps.length then va k else vb (k - ps.length)) b := fun b o e9 ⟨k, hk, hb⟩ => by
    have e8 : (Value.slice A7 (ps.length + ps.length) C7).ownBlock = some b := by rw [e9]; rfl
    exact own_types (how.own k hk) k1 (by decide) hb e8
  have C8 := owni_any w7 w1.heap.size A7 (ps.length + ps.length) C7 (ps.length + ps.length) _ _ k1.rd how (by omega) (by omega) (fun k => by
    by_cases e : k < ps.length
    · simp only [if_pos e]; exact Nat.le_trans (HPL.out k) (by decide)
    · simp only [if_neg e]; exact Nat.le_trans (HPL.out (k - ps.length)) (by decide)) hap
  have HC8 := Lib.hid C8
  have HOW := Lib.hid how
  have HR7A := Lib.hid ha7.row
  have HR7B := Lib.hid hb7'.row
  have HOA7 := Lib.hid hoa7
  have HB7 := Lib.hid hb7
  clear k1 k2 k3 k4 e67 hb7 ha7 hb7' how hoa7 hap C8 HB6 HOA6 HRA6 HRB6 HP6 HP2 HON HL6
  go_wp2_with fail
  with_reducible refine HC8.out.mono ?_
  rintro e w8 ⟨rfl, e78⟩
  have hra8 := row_lists9 HR7A.out HOW.out e78
  have hrb8 := row_lists9 HR7B.out HOW.out e78
  have hoa8 := HOA7.out.eff e78 (fun q hq ⟨k, hk, hb⟩ => own_types HOA7.out (HOW.out.own k hk) (by decide) hq hb)
  have hb8 := HB7.out.trans (e78.below (fun q ⟨k, hk, hb⟩ => by have := ((HOW.out.own k hk).lt q hb).1; omega) HB7.out.size)
  have HB8 := Lib.hid hb8
  have HRA8 := Lib.hid (show RwA w8 w1.heap.size ps.length (.slice A2 ps.length C2) from ⟨_, hra8⟩)
  have HRB8 := Lib.hid hrb8
  have HOA8 := Lib.hid hoa8
  have hz78 : w7.heap.size ≤ w8.heap.size := e78.size
  have HLB2 := Lib.hid (show ∀ k, (Value.slice A3 ps.length C3).ownBlock = some k → w2.heap.size ≤ k from HRB9.out)
  clear e78 hra8 hrb8 hoa8 hb8 HC8 HOW HR7A HR7B HOA7 HB7
  go_wp2
  go_loopw [11, 64] (fun s11 s64 wr => ∃ (i : Nat) (t11 : Value), s11 = t11 ∧ s64 = .int .i64 i ∧ i ≤ ps.length ∧ RowKit.Hid (RwA wr w1.heap.size ps.length (.slice A2 ps.length C2)) ∧ RowKit.Hid (Eff (fun k => (Value.slice A2 ps.length C2).ownBlock = some k) w8 wr)) (fun _ s64 _ => ps.length - (intOf s64).toNat)
  case atStart => exact ⟨0, _, rfl, rfl, Nat.zero_le _, HRA8, Lib.hid (Eff.refl _ _)⟩
  case round =>
    clear HRA8
    obtain ⟨i, t11, rfl, rfl, hi, HRW2, HEF⟩ := hrel
    by_cases hlt : i < ps.length
    · as_aux_lemma =>
      have hA2 : ∃ g, A2 = some ⟨g, 0, none⟩ ∧ (∀ j, wr.frozen? ⟨g, j, none⟩ = false) ∧ ∀ t, t < ps.length → ∃ u, wr.cell? ⟨g, 2 * t, none⟩ = some u := by
        obtain ⟨a, c, e, _, hg⟩ := HRW2.out.at_
        injection e with e1 _ _
        obtain ⟨g, h1, _, _, h2, h3⟩ := hg (by omega)
        exact ⟨g, e1.trans h1, h2, h3⟩
      obtain ⟨g, rfl, hfz, hcl⟩ := hA2
      obtain ⟨u, c0⟩ := hcl i hlt
      have f0 := hfz (i * 2)
      rw [show 2 * i = i * 2 by omega] at c0
      have i1 : (i : Int) < (ps.length : Int) := by omega
      have s1 : IntKind.i64.wrap (-(i : Int)) = -(i : Int) := by rw [IntKind.wrap_i64]; omega
      have HN := Lib.hid (HRW2.out.set (i * 2) (.int .i64 (-(i : Int))))
      have HE2 := Lib.hid (HEF.out.setCell (p := ⟨g, i * 2, none⟩) (fun _ => rfl) (.int .i64 (-(i : Int))))
      clear hfz hcl HRW2 HEF
      go_wp2
      go_roundw
      case rel => exact ⟨i + 1, _, rfl, by go_num, by omega, HN, HE2⟩
      case measure => simp [intOf]; omega
    · obtain rfl : i = ps.length := by omega
      have i1 : ¬ ((ps.length : Int) < (ps.length : Int)) := by omega
      have hb9 := HB8.out.trans (HEF.out.below (fun q hq => by have := (HLA.out q (.inl hq)).1; omega) HB8.out.size)
      have hrb9 := row_eff HRB8.out HEF.out (fun q hq f => by
        have h1 := HLB2.out q hq
        have h2 := (HLA.out q (.inl f)).2
        omega)
      have hoa9 := HOA8.out.eff HEF.out (fun q hq f => by
        have h1 := (HLO.out q hq).2
        have h2 := (HLA.out q (.inl f)).1
        omega)
      have HB9 := Lib.hid hb9
      have HRB9' := Lib.hid hrb9
      have HOA9 := Lib.hid hoa9
      clear hb9 hrb9 hoa9 HEF HRW2 HB8 HRB8 HOA8
      obtain ⟨w9, rfl⟩ : ∃ w9 : World, w9 = wr := ⟨_, rfl⟩
      go_wp2
      go_loopw [12, 76] (fun s12 s76 wr => ∃ (i d : Nat) (t12 : Value), s12 = t12 ∧ s76 = .int .i64 i ∧ i ≤ ps.length ∧ wr = w9.drewN d) (fun _ s76 _ => ps.length - (intOf s76).toNat)
      case atStart => exact ⟨0, 0, _, rfl, rfl, Nat.zero_le _, rfl⟩
      case round =>
        obtain ⟨i, d, t12, rfl, rfl, hi, rfl⟩ := hrel
        by_cases hlt : i < ps.length
        · as_aux_lemma =>
          have hA3 : ∃ g, A3 = some ⟨g, 0, none⟩ ∧ w9.cell? ⟨g, i * 2, none⟩ = some (.int .i64 ps[i].doc) := by
            obtain ⟨a, c, e, _, hg⟩ := row_at9 HRB9'.out
            injection e with e1 _ _
            obtain ⟨g, h1, _, _, _, h3⟩ := hg (by omega)
            have h9 := h3 (i * 2) _ (pcells_get ps vb (i * 2) (by omega))
            rw [if_pos (by omega), show i * 2 / 2 = i by omega, getD_at _ _ hlt] at h9
            exact ⟨g, e1.trans h1, h9⟩
          obtain ⟨g, rfl, c0⟩ := hA3
          obtain ⟨bl, ol, rfl, hg⟩ := (HLW.out _ HB9.out).2 (by omega)
          have c1 := (hg i hlt).1
          obtain ⟨dc, hdc⟩ : ∃ d, ps[i].doc = d := ⟨_, rfl⟩
          rw [hdc] at c0 c1
          have i1 : (i : Int) < (ps.length : Int) := by omega
          have t1 : ((dc : Int) != dc) = false := by simp
          clear hg hdc
          go_wp2
          go_quiet (fail)
          go_wp2
          go_roundw
          case rel => exact ⟨i + 1, d + nq, _, rfl, by go_num, by omega, by first | rfl | trivial | rw [World.drewN_drewN]⟩
          case measure => simp [intOf]; omega
        · obtain rfl : i = ps.length := by omega
          have i1 : ¬ ((ps.length : Int) < (ps.length : Int)) := by omega
          have hbd := below_drewN (Below.refl w9.heap.size w9) d
          have HB10 := Lib.hid (HB9.out.trans (hbd.mono HB9.out.size))
          have HOA10 := Lib.hid (HOA9.out.below hbd (Nat.le_refl _))
          clear hbd HB9 HOA9 HRB9'
          generalize w9.drewN d = w10 at HB10 HOA10 ⊢
          have Q9 := HCD.out w10 A1 C1 HOA10.out.rd (HSW.out _ HB10.out)
          go_wp2_with fail
          with_reducible refine Q9.mono ?_
          rintro e w11 ⟨A5, C5, vc, rfl, hrc, hb11⟩
          have HB11 := Lib.hid (HB10.out.trans (hb11.mono HB10.out.size))
          have HOA11 := Lib.hid (HOA10.out.below hb11 (Nat.le_refl _))
          have HRC := Lib.hid hrc
          have hz10 : w.heap.size ≤ w10.heap.size := HB10.out.size
          have HLO2 := Lib.hid (show ∀ k, (Value.slice A1 IM.length C1).ownBlock = some k → k < w10.heap.size from fun k hk => (HOA10.out.lt k hk).2)
          clear Q9 hrc hb11 HB10 HOA10
          have S4 := HCS.out w11 A5 C5 HRC.out.rd (HLW.out _ HB11.out)
          have HS4 := Lib.hid S4
          clear S4
          go_wp2_with fail
          with_reducible refine HS4.out.mono ?_
          rintro e w12 ⟨rfl, d12, rfl⟩
          have hbd := below_drewN (Below.refl w11.heap.size w11) d12
          have HB12 := Lib.hid (HB11.out.trans (hbd.mono HB11.out.size))
          have HOA12 := Lib.hid (HOA11.out.below hbd (Nat.le_refl _))
          have HRC12 := Lib.hid (HRC.out.below hbd (Nat.le_refl _))
          clear hbd HB11 HOA11 HRC HS4
          generalize w11.drewN d12 = w12 at HB12 HOA12 HRC12 ⊢
          have HZ0 := Lib.hid (show Own w12 w.heap.size 5 (.slice A1 IM.length C1) (bytesV (List.replicate 0 0 ++ IM.drop 0)) from HOA12.out)
          clear HOA12
          go_wp2
          go_loopw [14, 106] (fun s14 s106 wr => ∃ (i : Nat) (t14 : Value), s14 = t14 ∧ s106 = .int .i64 i ∧ i ≤ IM.length ∧ RowKit.Hid (Own wr w.heap.size 5 (.slice A1 IM.length C1) (bytesV (List.replicate i 0 ++ IM.drop i))) ∧ RowKit.Hid (Eff (fun k => (Value.slice A1 IM.length C1).ownBlock = some k) w12 wr)) (fun _ s106 _ => IM.length - (intOf s106).toNat)
          case atStart => exact ⟨0, _, rfl, rfl, Nat.zero_le _, HZ0, Lib.hid (Eff.refl _ _)⟩
          case round =>
            clear HZ0
            obtain ⟨i, t14, rfl, rfl, hi, HZ, HEF⟩ := hrel
            by_cases hlt : i < IM.length
            · as_aux_lemma =>
              have hlz : (bytesV (List.replicate i 0 ++ IM.drop i)).length = IM.length := by rw [bytesV_length, List.length_append, List.length_replicate, List.length_drop]; omega
              have hz0 := HZ.out
              obtain ⟨g, hg⟩ := hz0.someAt (by omega)
              subst hg
              have hx : (bytesV (List.replicate i 0 ++ IM.drop i))[i]? = some (.int .u8 (IM[i].toNat : Nat)) := by
                unfold bytesV
                rw [List.map_append, List.getElem?_append_right (by simp), List.length_map, List.length_replicate, Nat.sub_self, List.drop_eq_getElem_cons hlt]
                rfl
              have k1 := hz0.get hx
              have f1 := hz0.frozen i
              have hst : Own (wr.setCell ⟨g, i, none⟩ (.int .u8 0)) w.heap.size 5 (.slice (some ⟨g, 0, none⟩) IM.length C1) (bytesV (List.replicate (i + 1) 0 ++ IM.drop (i + 1))) := by
                refine own_to (hz0.set i (.int .u8 0)) ?_
                have e1 : List.replicate (i + 1) (0 : UInt8) ++ IM.drop (i + 1) = (List.replicate i (0 : UInt8) ++ IM.drop i).set i 0 := by
                  rw [List.set_append_right _ _ (by simp), List.length_replicate, Nat.sub_self, List.drop_eq_getElem_cons hlt, List.set_cons_zero, List.replicate_succ', List.append_assoc]
                  rfl
                rw [e1]
                simp [bytesV, List.map_set]
              have HST := Lib.hid hst
              have HE2 := Lib.hid (HEF.out.setCell (p := ⟨g, i, none⟩) (fun _ => rfl) (.int .u8 0))
              have i1 : (i : Int) < (IM.length : Int) := by omega
              obtain ⟨x, hxe⟩ : ∃ x, IM[i].toNat = x := ⟨_, rfl⟩
              rw [hxe] at k1
              clear hlz hz0 hx hst hxe HZ HEF
              go_wp2
              go_roundw
              case rel => exact ⟨i + 1, _, rfl, by go_num, by omega, HST, HE2⟩
              case measure => simp [intOf]; omega
            · obtain rfl : i = IM.length := by omega
              have i1 : ¬ ((IM.length : Int) < (IM.length : Int)) := by omega
              have hz9 := HZ.out
              rw [List.drop_length, List.append_nil] at hz9
              have hb13 := HB12.out.trans (HEF.out.below (fun q hq => (HLO.out q hq).1) HB12.out.size)
              have hrc13 := HRC12.out.eff HEF.out (fun b hb f => by
                have h1 := (HRC12.out.ge b hb).1
                have h2 := HLO2.out b f
                omega)
              obtain ⟨ZS, hZS⟩ : ∃ ZS : List UInt8, List.replicate IM.length 0 = ZS := ⟨_, rfl⟩
              have hZl : ZS.length = IM.length := by rw [← hZS, List.length_replicate]
              have hop2 : IM.length = 2 → openV ZS = some ⟨0, 0, [], []⟩ := fun h => by rw [← hZS, h]; exact open_zeros_two
              have hopn : IM.length ≠ 2 → openV ZS = none := fun h => by rw [← hZS]; exact open_zeros_no h
              rw [hZS] at hz9
              have Q10 := dec_any wr A1 IM.length C1 ZS hz9.rd (by omega) (fun r h => by
                by_cases e : IM.length = 2
                · rw [hop2 e] at h; injection h with h; subst h; simp
                · rw [hopn e] at h; cases h) EA (HSW.out _ hb13)
              have HQ := Lib.hid Q10
              have HB13 := Lib.hid hb13
              have HRC13 := Lib.hid hrc13
              have HO2 := Lib.hid hop2
              have HON2 := Lib.hid hopn
              clear Q10 hz9 hb13 hrc13 hop2 hopn hZS hZl HZ HEF HB12 HRC12
              go_wp2_with fail
              with_reducible refine HQ.out.mono ?_
              rintro e w14 ⟨h1, h2, hb14⟩
              have hb144 := HB13.out.trans (hb14.mono HB13.out.size)
              have S5 := HCS.out w14 A5 C5 (HRC13.out.below hb14 (Nat.le_refl _)).rd (HLW.out _ hb144)
              have HS5 := Lib.hid S5
              have HB14 := Lib.hid hb144
              clear S5 hb14 hb144 HQ HB13 HRC13
              by_cases hl2 : IM.length = 2
              · obtain ⟨A6, N6, C6, vs6, rfl, hr6⟩ := h1 _ (HO2.out hl2)
                have hn6 : N6 = 0 := by
                  obtain ⟨_, _, e6, _⟩ := hr6.sl
                  injection e6
                subst hn6
                have t2 : ((IM.length : Int) == 2) = true := by simp; omega
                clear h1 h2 hr6 hl2
                go_wp2_with fail
                with_reducible refine HS5.out.mono ?_
                rintro e w15 ⟨rfl, d15, rfl⟩
                have HB15 := Lib.hid (below_drewN HB14.out d15)
                go_wp2
                go_ret
                exact ⟨rfl, HB15.out⟩
              · obtain rfl := h2 (HON2.out hl2)
                unfold errV
                have t2 : ((IM.length : Int) == 2) = false := by simp; omega
                clear h1 h2 hl2
                go_wp2_with fail
                with_reducible refine HS5.out.mono ?_
                rintro e w15 ⟨rfl, d15, rfl⟩
                have HB15 := Lib.hid (below_drewN HB14.out d15)
                go_wp2
                go_ret
                exact ⟨rfl, HB15.out⟩
end Go.Proofs.YthnpbfadblcicaaDoor
