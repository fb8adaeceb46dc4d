/- CursorPhraseRules: the walk. -/
import Derived.Test.YtaijepjhmjjecaaDoorZG24
import Derived.Test.YtaijepjhmjjecaaDoorZG24
import Derived.Deep.CutBlock
import Derived.Deep.RegionHeld3
namespace Go.Proofs.YtaijepjhmjjecaaDoor
set_option linter.unusedVariables false
open Go.ChangeShapes Go.WideShapes Go.ChangeAt Go.RowKit

set_option maxRecDepth 100000 in
set_option maxHeartbeats 16000000 in
theorem cursorRules_walk (w : World) (a : Option Addr) (n0 c : Nat) (ls0 : List (List Int)) (hL : RdLL w a n0 ls0) (hnc : n0 ≤ c) (a2 : Option Addr) (n2 c2 : Nat) (os0 : List Int) (hO : Rd w (.slice a2 n2 c2) (intL os0)) (slop by_ : Int)
    (hsum : sumL ls0 ≤ 2000000) (hln : ls0.length ≤ 2000000) (hol : os0.length ≤ 2000000) (EA : Nat → Addr) (hS : Sent6 w EA) :
    Calls Tryd.prog 4 #[.slice a n0 c, .slice a2 n2 c2, .int .i64 slop, .int .i64 by_] w fun e w' => e = .returned (.bool true) ∧ Below w.heap.size w w' := by
  have C1 := fixed_any w EA hS
  obtain rfl := hL.1
  obtain ⟨rfl, -⟩ := rd_il hO
  have hoc : os0.length ≤ c2 := by
    obtain ⟨A, c', h, h1, _⟩ := hO
    injection h with _ _ e3
    rw [intL_length] at h1
    omega
  obtain ⟨n, hn⟩ : ∃ n, n = min ls0.length os0.length := ⟨_, rfl⟩
  have hn1 : n ≤ ls0.length := by omega
  have hn2 : n ≤ os0.length := by omega
  obtain ⟨ls, hls⟩ : ∃ ls, ls = ls0.take n := ⟨_, rfl⟩
  obtain ⟨os, hos⟩ : ∃ os, os = os0.take n := ⟨_, rfl⟩
  have hL2 : RdLL w a n ls := by rw [hls]; exact rdll_take hL n hn1
  have hO2 : Rd w (.slice a2 n c2) (intL os) := by rw [hos]; exact rd_takeI hO n hn2
  have hlsn : ls.length = n := by rw [hls, List.length_take]; omega
  have hosn : os.length = n := by rw [hos, List.length_take]; omega
  have hsl : sumL ls ≤ 2000000 := by rw [hls]; have := sumL_take_le ls0 n; omega
  have HL := Lib.hid hL2
  have HO := Lib.hid hO2
  have hs := modI_in 19 slop
  have hk := modI_in 49 by_
  obtain ⟨s, hse⟩ : ∃ s, modI 19 slop = s := ⟨_, rfl⟩
  obtain ⟨k, hke⟩ : ∃ k, modI 49 by_ = k := ⟨_, rfl⟩
  rw [hse] at hs
  rw [hke] at hk
  have sm1 : IntKind.u64.wrap slop = slop % 18446744073709551616 := IntKind.wrap_u64 slop
  have sm2 : IntKind.u64.wrap by_ = by_ % 18446744073709551616 := IntKind.wrap_u64 by_
  obtain ⟨X, hX⟩ : ∃ X, slop % 18446744073709551616 = X := ⟨_, rfl⟩
  obtain ⟨Y, hY⟩ : ∃ Y, by_ % 18446744073709551616 = Y := ⟨_, rfl⟩
  rw [hX] at sm1
  rw [hY] at sm2
  have sm3 : IntKind.i64.wrap (X.tmod 20) = s := by
    have h1 : X.tmod 20 = s := by rw [Int.tmod_eq_emod_of_nonneg (by omega), ← hse, ← hX]; unfold modI; rfl
    rw [h1, IntKind.wrap_i64]; omega
  have sm4 : IntKind.i64.wrap (Y.tmod 50) = k := by
    have h1 : Y.tmod 50 = k := by rw [Int.tmod_eq_emod_of_nonneg (by omega), ← hke, ← hY]; unfold modI; rfl
    rw [h1, IntKind.wrap_i64]; omega
  have sm5 : IntKind.u64.wrap (X.tmod 20) = s := by
    have h1 : X.tmod 20 = s := by rw [Int.tmod_eq_emod_of_nonneg (by omega), ← hse, ← hX]; unfold modI; rfl
    rw [h1, IntKind.wrap_u64]; omega
  have sm6 : IntKind.u64.wrap (Y.tmod 50) = k := by
    have h1 : Y.tmod 50 = k := by rw [Int.tmod_eq_emod_of_nonneg (by omega), ← hke, ← hY]; unfold modI; rfl
    rw [h1, IntKind.wrap_u64]; omega
  have hnc1 : n ≤ c := by omega
  have hnc2 : n ≤ c2 := by omega
  have HTB := Lib.hid hn
  have HSM1 := Lib.hid sm1
  have HSM2 := Lib.hid sm2
  have HSM3 := Lib.hid sm3
  have HSM4 := Lib.hid sm4
  clear hL hO hL2 hO2 hn hls hos hS hoc hse hke hX hY sm1 sm2 sm3 sm4 sm5 sm6
  go_enter Tryd.func4, Tryd.ntmps4
  go_wp2_with fail
  with_reducible refine C1.mono ?_
  rintro e w1 ⟨rfl, hb1⟩
  have HB1 := Lib.hid hb1
  clear C1 hb1
  go_upto_if 35 with fail
  go_cut [9] (fun s9 wx => w1 = wx ∧ s9 = .int .i64 (n : Nat))
  case first =>
    go_wp2
    all_goals go_meet
    all_goals rename_i h
    all_goals exact ⟨rfl, congrArg (fun k : Nat => Value.int IntKind.i64 (k : Int)) (by have := HTB.out; omega)⟩
  case rest =>
  obtain ⟨rfl, rfl⟩ := hcut
  clear HTB
  have HL1 := Lib.hid (HL.out.below HB1.out (Nat.le_refl _))
  have HO1 := Lib.hid (HO.out.below HB1.out (Nat.le_refl _))
  clear HL HO
  go_wp2
  go_loopw [10, 12, 42] (fun s10 s12 s42 wr => ∃ (i : Nat) (A : Option Addr) (C : Nat) (t12 : Value), s10 = .slice A i C ∧ s12 = t12 ∧ s42 = .int .i64 i ∧ i ≤ n ∧ RowKit.Hid (∃ vs, MvS wr w1.heap.size (.slice A i C) vs ((ls.take i).map (modL 60))) ∧ RowKit.Hid (Below w1.heap.size w1 wr)) (fun _ _ s42 _ => n - (intOf s42).toNat)
  case atStart => exact ⟨0, none, 0, _, rfl, rfl, rfl, Nat.zero_le _, Lib.hid ⟨[], own_nil _ _ _, rfl, fun k h => by simp at h⟩, Lib.hid (Below.refl _ _)⟩
  case round =>
    obtain ⟨i, A, C, t12, rfl, rfl, rfl, hi, HM, HB⟩ := hrel
    by_cases hlt : i < n
    · have hlt2 : i < ls.length := by omega
      obtain ⟨b, o, hae, hcl⟩ := HL1.out.2 (by omega)
      obtain ⟨A1, C1, k1, k2⟩ := hcl i hlt2
      have k1 := (HB.out.cell (World.block_lt_of_cell? w1 _ k1)).trans k1
      have k2 := k2.below HB.out (Nat.le_refl _)
      have hmt := map_take_succ (modL 60) ls hlt2
      have hlb := sumL_get hlt2
      obtain ⟨l, hle⟩ : ∃ l, ls[i] = l := ⟨_, rfl⟩
      simp only [hle] at k1 k2 hmt hlb
      have C2 := ints_any wr A1 l.length C1 l k2 (by omega) 60 (by omega)
      rw [show ((60 : Nat) : Int) = 60 from rfl] at C2
      have i1 : (i : Int) < (n : Int) := by omega
      have HMT := Lib.hid hmt
      have HC2 := Lib.hid C2
      clear hcl k2 hmt hle C2 hlt
      subst hae
      go_wp2_with fail
      with_reducible refine HC2.out.mono ?_
      rintro e w2 ⟨A2, C2, rfl, ho2, hb2⟩
      obtain ⟨vs, hm⟩ := HM.out
      have hz := HB.out.size
      have hm2 := hm.below hb2 (Nat.le_refl _)
      have ho3 := own_base ho2 hz
      have hl9 : vs.length < 1000000000000 := by have := hm.top.len; omega
      have hz2 : w1.heap.size ≤ w2.heap.size := Nat.le_trans hz hb2.size
      have HTOP := Lib.hid hm2.top
      have HM2 := Lib.hid hm2
      have HO3 := Lib.hid ho3
      have HB2 := Lib.hid (HB.out.trans (hb2.mono hz))
      have HLV := Lib.hid hl9
      clear hm hm2 ho2 ho3 hb2 hl9 HC2 HM HB hz k1
      go_wp2_with (at_builtin; with_reducible refine ap1' elLL rfl HTOP.out HLV.out hz2 rfl _ _ rfl rfl rfl ?_)
      intro v' w3 g1 g2 g3 g4
      have hb3 := HB2.out.grown g4 hz2 (fun k hk => (HTOP.out.lt k hk).1)
      have hm3 := HM2.out.snoc HO3.out g1 g4
      have hms : (ls.take (i + 1)).map (modL 60) = (ls.take i).map (modL 60) ++ [modL 60 l] := HMT.out
      rw [← hms] at hm3
      obtain ⟨A3, C3, hv⟩ := own_slice g1
      have hln : (vs ++ [Value.slice A2 l.length C2]).length = i + 1 := by
        have h1 := hm3.len
        rw [List.length_map, List.length_take] at h1
        omega
      rw [hln] at hv
      subst hv
      have HM3 := Lib.hid (show ∃ vs, MvS w3 w1.heap.size (.slice A3 (i + 1) C3) vs ((ls.take (i + 1)).map (modL 60)) from ⟨_, hm3⟩)
      have HB3 := Lib.hid hb3
      clear g1 g2 g3 g4 hb3 hm3 hms hln HTOP HM2 HO3 HB2 HLV HMT
      go_wp2
      go_roundw
      case rel => exact ⟨i + 1, A3, C3, _, rfl, rfl, by go_num, by omega, HM3, HB3⟩
      case measure => simp [intOf]; omega
    · obtain rfl : i = n := by omega
      have i1 : ¬ ((i : Int) < (i : Int)) := by omega
      have htk : ls.take i = ls := by rw [← hlsn]; exact List.take_length
      rw [htk] at HM
      obtain ⟨vs, hm⟩ := HM.out
      have HM1 := Lib.hid hm
      have C3 := ints_any wr a2 i c2 os (HO1.out.below HB.out (Nat.le_refl _)) (by omega) 9 (by omega)
      rw [show ((9 : Nat) : Int) = 9 from rfl, hosn] at C3
      have HC3 := Lib.hid C3
      clear hm HM HL1 HO1 C3 hlt htk
      go_wp2_with fail
      with_reducible refine HC3.out.mono ?_
      rintro e w2 ⟨A2, C2, rfl, ho2, hb2⟩
      have hz := HB.out.size
      have HM2 := Lib.hid (HM1.out.below hb2 (Nat.le_refl _))
      have HO2 := Lib.hid (own_base ho2 hz)
      have HB2 := Lib.hid (HB.out.trans (hb2.mono hz))
      have hb2z := hb2.size
      clear ho2 hb2 HC3 HB HM1
      have e1 := HSM1.out
      have e2 := HSM2.out
      have e3 := HSM3.out
      have e4 := HSM4.out
      go_upto_region 14 with fail
      have HK := Lib.hid hk
      have HSS := Lib.hid hs
      by_cases h0 : i = 0
      · subst h0
        have t0 : (((0 : Nat) : Int) == 0) = true := rfl
        have hnil : ls.map (modL 60) = [] := by rw [List.map_eq_nil_iff]; exact List.eq_nil_of_length_eq_zero hlsn
        have hnil2 : modL 9 os = [] := by unfold modL; rw [List.map_eq_nil_iff]; exact List.eq_nil_of_length_eq_zero hosn
        have hm := HM2.out
        have ho := HO2.out
        rw [hnil] at hm
        rw [hnil2] at ho
        have C4 := ph_any w2 A 0 C [] hm.rdll A2 0 C2 [] ho.rd s (by decide) (by decide) (by decide)
        have e9 : phV [] [] s = 0 := by
          have : phOk [] [] s = false := by
            rw [Bool.eq_false_iff]
            intro h9
            unfold phOk at h9
            simp at h9
          unfold phV; rw [if_neg (by rw [this]; decide)]
        rw [e9] at C4
        have HC4 := Lib.hid C4
        clear hm ho hnil hnil2 C4 e9 HM2 HO2
        go_wp2_with fail
        with_reducible refine HC4.out.mono ?_
        rintro e w3 ⟨rfl, hb3⟩
        have HB3 := Lib.hid (HB1.out.trans ((HB2.out.trans (hb3.mono (Nat.le_trans hz hb2z))).mono HB1.out.size))
        clear hb3
        go_wp2
        go_ret
        exact ⟨rfl, HB3.out⟩
      · have t0 : ((i : Int) == 0) = false := beq_false_of_ne (by omega)
        have hpi := phIn_mod (ls := ls) (os := os) (by omega) (by omega)
        obtain ⟨L, hLe⟩ : ∃ L, ls.map (modL 60) = L := ⟨_, rfl⟩
        obtain ⟨O, hOe⟩ : ∃ O, modL 9 os = O := ⟨_, rfl⟩
        have hLn : L.length = i := by rw [← hLe, List.length_map]; exact hlsn
        have hOn : O.length = i := by rw [← hOe, modL_length]; exact hosn
        have hLs : sumL L ≤ 2000000 := by rw [← hLe, sumL_modL]; exact hsl
        have hm := HM2.out
        have ho := HO2.out
        rw [hLe] at hm hpi
        rw [hOe] at ho hpi
        have hk2 := HK.out
        have hs2 := HSS.out
        have C4 := fun (W : World) (r : RdLL W A i L) (q : Rd W (.slice A2 i C2) (intL O)) => ph_any W A i C L r A2 i C2 O q s (by omega) (by omega) (by omega)
        have C5 := fun (W : World) (r : RdLL W A i L) (q : Rd W (.slice A2 i C2) (intL O)) => ph_any W A i C L r A2 i C2 O q (s + 1) (by omega) (by omega) (by omega)
        have hmono := phV_mono (ls := L) (os := O) (s := s) (by omega) (by omega)
        obtain ⟨F, hF⟩ : ∃ F, phV L O s = F := ⟨_, rfl⟩
        obtain ⟨F1, hF1⟩ : ∃ F, phV L O (s + 1) = F := ⟨_, rfl⟩
        have hback := phV_rev L O s
        have hshift := hpi.shift (s := s) (k := k) (by omega) (by omega) (by omega) (by omega)
        have hone := hpi.one (s := s) (by omega) (by omega) (by omega)
        have hlaid := hpi.laid (k := k) (by omega) (by omega)
        rw [hF] at C4 hmono hback hshift
        rw [hF1] at C5 hmono
        have t1 : decide ((F : Int) < 0) = false := decide_eq_false (by omega)
        have t2 : decide (F1 < F) = false := decide_eq_false (by omega)
        have s1 : IntKind.i64.wrap (s + 1) = s + 1 := by rw [IntKind.wrap_i64]; omega
        have HPI := Lib.hid hpi
        have HC4 := Lib.hid C4
        have HC5 := Lib.hid C5
        have HBACK := Lib.hid hback
        have HSHIFT := Lib.hid hshift
        have HONE := Lib.hid hone
        have HLAID := Lib.hid hlaid
        have HM3 := Lib.hid hm
        have HO3 := Lib.hid ho
        clear hm ho hpi C4 C5 hmono hF hF1 hback hshift hone hlaid hk2 hs2 hk hs HM2 HO2 e1 e2 e3 e4 hLe hOe
        go_wp2_with fail
        with_reducible refine (HC4.out _ HM3.out.rdll HO3.out.rd).mono ?_
        rintro e w3 ⟨rfl, hb3⟩
        have HM4 := Lib.hid (HM3.out.below hb3 (Nat.le_refl _))
        have HO4 := Lib.hid (HO3.out.below hb3 (Nat.le_refl _))
        have HB4 := Lib.hid (HB2.out.trans (hb3.mono (Nat.le_trans hz hb2z)))
        have hz4 := hb3.size
        clear hb3 HM3 HO3
        go_wp2_with fail
        with_reducible refine (HC5.out _ HM4.out.rdll HO4.out.rd).mono ?_
        rintro e w4 ⟨rfl, hb4⟩
        have HM5 := Lib.hid (HM4.out.below hb4 (Nat.le_refl _))
        have HO5 := Lib.hid (HO4.out.below hb4 (Nat.le_refl _))
        have HB5 := Lib.hid (HB4.out.trans (hb4.mono HB4.out.size))
        clear hb4 HM4 HO4 HB4 HC5 s1 hz4
        go_upto_region 19 with fail
        obtain ⟨B, hB⟩ : ∃ B, w4.heap.size = B := ⟨_, rfl⟩
        have hvsl : vs.length = i := by rw [HM5.out.len]; exact hLn
        obtain ⟨g, rfl⟩ : ∃ g, A = some ⟨g, 0, none⟩ := HM5.out.top.someAt (by omega)
        obtain ⟨g2, rfl⟩ : ∃ g, A2 = some ⟨g, 0, none⟩ := HO5.out.someAt (by omega)
        have hcl : ∀ j (h : j < vs.length), w4.cell? ⟨g, j, none⟩ = some vs[j] := fun j h => HM5.out.top.get (List.getElem?_eq_getElem h)
        have hco : ∀ j (h : j < O.length), w4.cell? ⟨g2, j, none⟩ = some (.int .i64 O[j]) := fun j h => HO5.out.get (intL_get _ j h)
        have HCL := Lib.hid hcl
        have HCO := Lib.hid hco
        obtain ⟨Ok, hOk⟩ : ∃ Ok, Ok = O.map (· + k) := ⟨_, rfl⟩
        have hOkl : Ok.length = i := by rw [hOk, List.length_map]; exact hOn
        have HOK := Lib.hid hOk
        have hBk : BkS w4 w4 B (.slice none 0 0) (.slice none 0 0) (.slice none 0 0) vs O Ok i i := by
          refine ⟨Below.refl _ _, ?_, ?_, ?_, fun b hb => by simp [Value.ownBlock] at hb⟩
          · rw [List.drop_of_length_le (by omega)]; exact own_nil _ _ _
          · rw [List.drop_of_length_le (by omega)]; exact own_nil _ _ _
          · rw [Nat.sub_self]; exact own_nil _ _ _
        have HBK := Lib.hid hBk
        have hgl : g < B ∧ g2 < B := by
          have h1 := (HM5.out.top.lt g rfl).2
          have h2 := (HO5.out.lt g2 rfl).2
          omega
        have sI : IntKind.i64.wrap ((i : Int) - 1) = (i : Int) - 1 := by rw [IntKind.wrap_i64]; omega
        have HSI := Lib.hid sI
        have hiz : ((i : Int) - 1) = (i : Int) - 1 := rfl
        clear hcl hco hBk hiz hOk
        go_wp2
        go_loopw [17, 18, 19, 20] (fun s17 s18 s19 s20 wr => ∃ (m : Nat) (iv : Int), s20 = .int .i64 iv ∧ iv = (m : Int) - 1 ∧ m ≤ i ∧ RowKit.Hid (BkS w4 wr B s17 s18 s19 vs O Ok i m)) (fun _ _ _ s20 _ => (intOf s20 + 1).toNat)
        case atStart => exact ⟨i, _, rfl, rfl, Nat.le_refl _, HBK⟩
        case round =>
          clear sI HBK
          obtain ⟨m, iv, rfl, hiv, hm, HBK⟩ := hrel
          by_cases hm0 : m = 0
          · subst hm0
            obtain rfl : iv = -1 := by omega
            have hbel := HBK.out.bel
            have o1 := HBK.out.o1
            have o2 := HBK.out.o2
            have o3 := HBK.out.o3
            rw [List.drop_zero] at o1 o2
            have etk : Ok.take (i - 0) = Ok := by rw [Nat.sub_zero, ← hOkl]; exact List.take_length
            rw [etk] at o3
            obtain ⟨q1, p1, h17⟩ := own_slice o1
            obtain ⟨q2, p2, h18⟩ := own_slice o2
            obtain ⟨q3, p3, h19⟩ := own_slice o3
            rw [List.length_reverse, hvsl] at h17
            rw [intL_length, List.length_reverse, hOn] at h18
            rw [intL_length, hOkl] at h19
            subst h17 h18 h19
            have r1 := rdll_rev HM5.out hbel (by omega) o1
            have C6 := ph_any wr q1 i p1 L.reverse r1 q2 i p2 O.reverse o2.rd s (by rw [sumL_rev]; omega) (by rw [List.length_reverse]; omega) (by rw [List.length_reverse]; omega)
            rw [HBACK.out] at C6
            have HC6 := Lib.hid C6
            have hsh := HSHIFT.out
            rw [← HOK.out] at hsh
            have C7 := fun (W : World) (hb : Below wr.heap.size wr W) => ph_any W _ i C L (((HM5.out.below hbel (by omega)).below hb (Nat.le_refl _)).rdll) q3 i p3 Ok (o3.below hb (Nat.le_refl _)).rd s (by omega) (by omega) (by omega)
            rw [hsh] at C7
            have HC7 := Lib.hid C7
            have HB6 := Lib.hid hbel
            clear hiv HBK hbel o1 o2 o3 etk r1 C6 hsh C7
            go_wp2_with fail
            with_reducible refine HC6.out.mono ?_
            rintro e w6 ⟨rfl, hb6⟩
            have HB7 := Lib.hid hb6
            clear hb6 HC6
            go_wp2_with fail
            with_reducible refine (HC7.out _ HB7.out).mono ?_
            rintro e w7 ⟨rfl, hb7⟩
            have hbw : Below B w4 w7 := HB6.out.trans ((HB7.out.trans (hb7.mono HB7.out.size)).mono (by have := HB6.out.size; omega))
            have HM7 := Lib.hid (HM5.out.below hbw (by omega))
            have HO7 := Lib.hid (HO5.out.below hbw (by omega))
            have HBW := Lib.hid hbw
            clear hb7 hbw HC7 HB6 HB7
            go_upto_region 29 with fail
            have hL0 : 0 < L.length := by omega
            have hv0 : 0 < vs.length := by omega
            have c0 := HM7.out.top.get (List.getElem?_eq_getElem hv0)
            obtain ⟨A9, C9, hv9⟩ := own_slice (HM7.out.own 0 hv0 hL0)
            have hr9 := (HM7.out.own 0 hv0 hL0).rd
            obtain ⟨l0, hl0⟩ : ∃ l0, L[0] = l0 := ⟨_, rfl⟩
            have hone := HONE.out
            have hlb := sumL_get hL0
            simp only [hl0] at hv9 hr9 hone hlb
            rw [intL_length] at hv9
            rw [hv9] at c0 hr9
            obtain ⟨-, hc9⟩ := rd_il hr9
            have hrl := riseOf_len_le l0
            obtain ⟨U, hU⟩ : ∃ U, (riseOf l0).length = U := ⟨_, rfl⟩
            rw [hU] at hone hrl
            have HONE2 := Lib.hid hone
            have HC9 := Lib.hid hc9
            have HU := Lib.hid hU
            clear hv9 hr9 hl0 hone hc9 hU HONE
            go_wp2
            go_loopw [21, 22, 23, 24, 25, 136] (fun s21 s22 s23 s24 s25 s136 wr => ∃ (i : Nat) (t22 t23 t24 t25 : Value), s21 = .int .i64 ((riseOf (l0.take i)).length : Nat) ∧ s22 = t22 ∧ s23 = t23 ∧ s24 = t24 ∧ s25 = t25 ∧ s136 = .int .i64 i ∧ i ≤ l0.length ∧ wr = w7) (fun _ _ _ _ _ s136 _ => l0.length - (intOf s136).toNat)
            case atStart => exact ⟨0, _, _, _, _, by simp [riseOf], rfl, rfl, rfl, rfl, rfl, Nat.zero_le _, rfl⟩
            case round =>
              obtain ⟨p, t22, t23, t24, t25, rfl, rfl, rfl, rfl, rfl, rfl, hp, rfl⟩ := hrel
              by_cases hlt : p < l0.length
              · obtain ⟨b9, o9, rfl, hc9⟩ := HC9.out (by omega)
                have c9 := hc9 p hlt
                have hrc := rise_count l0 hlt
                obtain ⟨x, hx⟩ : ∃ x, l0[p] = x := ⟨_, rfl⟩
                rw [hx] at c9 hrc
                have hrl2 := riseOf_len_le (l0.take p)
                rw [List.length_take] at hrl2
                obtain ⟨R, hR⟩ : ∃ R, (riseOf (l0.take p)).length = R := ⟨_, rfl⟩
                rw [hR] at hrc hrl2 ⊢
                have i1 : (p : Int) < (l0.length : Int) := by omega
                have HRC := Lib.hid hrc
                have HC9' := Lib.hid hc9
                have sR : IntKind.i64.wrap ((R : Int) + 1) = ((R + 1 : Nat) : Int) := by rw [IntKind.wrap_i64]; omega
                clear hrc hc9 hx hR
                go_wp2
                go_loopw [24, 25] (fun s24 s25 wx => ∃ j : Nat, s24 = .bool (isNew (l0.take j) x) ∧ s25 = .int .i64 j ∧ j ≤ p ∧ wx = wr) (fun _ s25 _ => p - (intOf s25).toNat)
                case atStart => exact ⟨0, by rfl, rfl, Nat.zero_le _, rfl⟩
                case round =>
                  obtain ⟨j, rfl, rfl, hj, rfl⟩ := hrel
                  by_cases hlt2 : j < p
                  · have hjl : j < l0.length := by omega
                    have cj := HC9'.out j hjl
                    have hnew : isNew (l0.take (j + 1)) x = (isNew (l0.take j) x && !(l0[j] == x)) := by rw [List.take_succ_eq_append_getElem hjl, isNew_snoc]
                    obtain ⟨y, hy⟩ : ∃ y, l0[j] = y := ⟨_, rfl⟩
                    rw [hy] at cj hnew
                    obtain ⟨f, hf⟩ : ∃ f, isNew (l0.take j) x = f := ⟨_, rfl⟩
                    rw [hf] at hnew ⊢
                    have j1 : (j : Int) < (p : Int) := by omega
                    have j2 : (j : Int) < (l0.length : Int) := by omega
                    clear hf hy
                    by_cases hyx : y = x
                    · subst hyx
                      have hnew : isNew (l0.take (j + 1)) y = false := by rw [hnew]; simp
                      have HNEW := Lib.hid hnew
                      clear hnew
                      go_wp2
                      go_roundw
                      case rel => exact ⟨j + 1, by rw [HNEW.out], by go_num, by omega, trivial⟩
                      case measure => simp [intOf]; omega
                    · have t3 : (y == x) = false := beq_false_of_ne hyx
                      have hnew : isNew (l0.take (j + 1)) x = f := by rw [hnew, t3]; simp
                      have HNEW := Lib.hid hnew
                      clear hnew
                      go_wp2
                      go_roundw
                      case rel => exact ⟨j + 1, by rw [HNEW.out], by go_num, by omega, trivial⟩
                      case measure => simp [intOf]; omega
                  · obtain rfl : j = p := by omega
                    have j1 : ¬ ((j : Int) < (j : Int)) := by omega
                    cases hf : isNew (l0.take j) x with
                    | true =>
                      have hrc := HRC.out
                      rw [hf] at hrc
                      have HRC2 := Lib.hid (show (riseOf (l0.take (j + 1))).length = R + 1 by rw [hrc]; rfl)
                      clear hf hrc HRC HC9'
                      go_wp2
                      go_roundw
                      case rel => exact ⟨j + 1, _, _, _, _, by rw [HRC2.out] <;> first | rfl | go_num, rfl, rfl, rfl, rfl, by go_num, by omega, trivial⟩
                      case measure => simp [intOf]; omega
                    | false =>
                      have hrc := HRC.out
                      rw [hf] at hrc
                      have HRC2 := Lib.hid (show (riseOf (l0.take (j + 1))).length = R by rw [hrc]; rfl)
                      clear hf hrc HRC HC9'
                      go_wp2
                      go_roundw
                      case rel => exact ⟨j + 1, _, _, _, _, by rw [HRC2.out] <;> first | rfl | go_num, rfl, rfl, rfl, rfl, by go_num, by omega, trivial⟩
                      case measure => simp [intOf]; omega
              · obtain rfl : p = l0.length := by omega
                rw [List.take_length, HU.out]
                have i1 : ¬ ((l0.length : Int) < (l0.length : Int)) := by omega
                have hcapA := (own_cap HM7.out.top).1
                have hcapB := (own_cap HO7.out).1
                have cA : 1 ≤ C := by omega
                have cB : 1 ≤ C2 := by omega
                have hs1 := sumL_take1 L
                have C8 := fun (W : World) (hb : Below wr.heap.size wr W) => ph_any W _ 1 C (L.take 1) (rdll_take (HM7.out.below hb (Nat.le_refl _)).rdll 1 (by omega)) _ 1 C2 (O.take 1) (rd_takeI (HO7.out.below hb (Nat.le_refl _)).rd 1 (by omega)) s (by omega) (by rw [List.length_take]; omega) (by rw [List.length_take]; omega)
                rw [HONE2.out] at C8
                have HC8 := Lib.hid C8
                clear hlt hcapA hcapB hs1 C8 HC9 HU HONE2 c0
                go_upto_region 42 with fail
                go_cut [165] (fun s165 wx => s165 = .bool false ∧ RowKit.Hid (Below wr.heap.size wr wx))
                case first =>
                  go_region_with (go_at_call 10; (with_reducible refine (HC8.out _ (Below.refl wr.heap.size wr).drew).mono ?_); rintro e w8 ⟨rfl, hb8⟩)
                  all_goals have HB9 := Lib.hid ((Below.refl wr.heap.size wr).drew.trans hb8)
                  all_goals clear hb8
                  all_goals go_wp2
                  all_goals go_meet
                  all_goals exact ⟨rfl, HB9⟩
                case rest =>
                obtain ⟨rfl, HB9⟩ := hcut
                clear HC8
                have HM9 := Lib.hid (HM7.out.below HB9.out (Nat.le_refl _))
                have HO9 := Lib.hid (HO7.out.below HB9.out (Nat.le_refl _))
                go_wp2
                go_loopw [26, 27, 168] (fun s26 s27 s168 wx => ∃ (j : Nat) (A9 : Option Addr) (C9 : Nat) (t27 : Value), s26 = .slice A9 j C9 ∧ s27 = t27 ∧ s168 = .int .i64 j ∧ j ≤ i ∧ RowKit.Hid (∃ ws, MvS wx wc.heap.size (.slice A9 j C9) ws (laidL k (L.take j) (O.take j))) ∧ RowKit.Hid (Below wc.heap.size wc wx)) (fun _ _ s168 _ => i - (intOf s168).toNat)
                case atStart => exact ⟨0, none, 0, _, rfl, rfl, rfl, Nat.zero_le _, Lib.hid ⟨[], own_nil _ _ _, rfl, fun k h => by simp at h⟩, Lib.hid (Below.refl _ _)⟩
                case round =>
                  obtain ⟨j, A9, C9, t27, rfl, rfl, rfl, hj, HM, HB⟩ := hrel
                  by_cases hlt : j < i
                  · have hjl : j < L.length := by omega
                    have hjo : j < O.length := by omega
                    have hjv : j < vs.length := by omega
                    have c8 := HM9.out.top.get (List.getElem?_eq_getElem hjv)
                    obtain ⟨A8, C8, hv8⟩ := own_slice (HM9.out.own j hjv hjl)
                    have hr8 := (HM9.out.own j hjv hjl).rd
                    have co := HO9.out.get (intL_get _ j hjo)
                    have hlt2 := laidL_take k L O j hjl hjo
                    have hlb := sumL_get hjl
                    have hyb := HPI.out.ho O[j] (List.getElem_mem hjo)
                    obtain ⟨l, hle⟩ : ∃ l, L[j] = l := ⟨_, rfl⟩
                    obtain ⟨y, hye⟩ : ∃ y, O[j] = y := ⟨_, rfl⟩
                    simp only [hle, hye] at hv8 hr8 co hlt2 hlb hyb
                    rw [intL_length] at hv8
                    rw [hv8] at c8 hr8
                    obtain ⟨Z, hZ⟩ : ∃ Z, 100 + k + y = Z := ⟨_, rfl⟩
                    obtain ⟨K1, hK1⟩ : ∃ K1, 100 + k = K1 := ⟨_, rfl⟩
                    have hk2 := HK.out
                    rw [hZ] at hlt2
                    have s1 : IntKind.i64.wrap (100 + k) = K1 := by rw [IntKind.wrap_i64]; omega
                    have s2 : IntKind.i64.wrap (K1 + y) = Z := by rw [IntKind.wrap_i64]; omega
                    have hgc : g < wc.heap.size := (HM9.out.top.lt g rfl).2
                    have hgd : g2 < wc.heap.size := (HO9.out.lt g2 rfl).2
                    have hwz := HB.out.size
                    have hsx : ∀ X, Below wr.heap.size wr X → X.cell? ⟨g, j, none⟩ = some (.slice A8 l.length C8) ∧ X.cell? ⟨g2, j, none⟩ = some (.int .i64 y) := fun X hX => by
                      have h1 := HB.out.trans (hX.mono hwz)
                      exact ⟨(h1.cell (p := ⟨g, j, none⟩) hgc).trans c8, (h1.cell (p := ⟨g2, j, none⟩) hgd).trans co⟩
                    have hbc : ∀ X, Below wc.heap.size wc X → True := fun _ _ => trivial
                    have hrl : ∀ X, Below wr.heap.size wr X → Rd X (.slice A8 l.length C8) (intL l) := fun X hX => hr8.below (HB.out.trans (hX.mono hwz)) (Nat.le_refl _)
                    have hS0 := hsx wr.drew (Below.refl _ _).drew
                    have i1 : (j : Int) < (i : Int) := by omega
                    obtain ⟨ws, hm⟩ := HM.out
                    have hwl : ws.length = j := by
                      rw [hm.len, laidL_length k _ _ (by rw [List.length_take, List.length_take]; omega), List.length_take]; omega
                    have hl1 : ([] : List Value).length + (intL l).length < 1000000000001 := by rw [intL_length]; simp; omega
                    have hl2 : ([] ++ intL l).length + [Value.int .i64 Z].length < 1000000000001 := by rw [List.nil_append, intL_length]; simp; omega
                    have hl3 : ws.length < 1000000000000 := by omega
                    have HSX := Lib.hid (show ∀ X, Below wr.heap.size wr X ∨ Below wc.heap.size wc X → X.cell? ⟨g, j, none⟩ = some (.slice A8 l.length C8) ∧ X.cell? ⟨g2, j, none⟩ = some (.int .i64 y) from fun X hX => by
                      rcases hX with hX | hX
                      · exact hsx X hX
                      · exact ⟨(hX.cell (p := ⟨g, j, none⟩) hgc).trans c8, (hX.cell (p := ⟨g2, j, none⟩) hgd).trans co⟩)
                    have HRL := Lib.hid hrl
                    have HWL := Lib.hid hwl
                    have HL1 := Lib.hid hl1
                    have HL2 := Lib.hid hl2
                    have HL3 := Lib.hid hl3
                    have HLT := Lib.hid hlt2
                    clear HM
                    have HM := Lib.hid hm
                    clear hm hsx hbc hrl hwl hl1 hl2 hl3 hlt2 c8 co hr8 hv8 hle hye hZ hK1 hk2 hyb hgc hgd hlt
                    go_upto_block 9 with fail
                    go_cut [26] (fun s26 wx => ∃ (A9 : Option Addr) (C9 : Nat), s26 = .slice A9 (j + 1) C9 ∧ RowKit.Hid (∃ ws, MvS wx wc.heap.size (.slice A9 (j + 1) C9) ws (laidL k (L.take (j + 1)) (O.take (j + 1)))) ∧ RowKit.Hid (Below wc.heap.size wc wx))
                    case first =>
                      go_upto_region 48 with fail
                      -- ARM
                      refine wp_region_noPanic ?_
                      refine wp_region_held_drew (S := fun W => W.cell? ⟨g, j, none⟩ = some (.slice A8 l.length C8) ∧ W.cell? ⟨g2, j, none⟩ = some (.int .i64 y)) (by kernel_rfl) hS0 (fun hHeld => ?_)
                      clear hS0
                      refine wpAnyH_take (i := 0) (v := ?_) rfl (by kernel_rfl) (by kernel_rfl) (by kernel_rfl) (fun _ _ _ h => h) (Or.inl ⟨by kernel_rfl, ?_⟩) hHeld ?_
                      rotate_left
                      · intro w hSw
                        obtain ⟨z1, z2⟩ := hSw
                        go_simp
                        try with_reducible rfl
                      refine wpAnyH_take (i := 2) (v := ?_) rfl (by kernel_rfl) (by kernel_rfl) (by kernel_rfl) (fun _ _ _ h => h) (Or.inl ⟨by kernel_rfl, ?_⟩) hHeld ?_
                      rotate_left
                      · intro w hSw
                        obtain ⟨z1, z2⟩ := hSw
                        go_simp
                        try with_reducible rfl
                      refine wpAnyH_take (i := 3) (v := ?_) rfl (by kernel_rfl) (by kernel_rfl) (by kernel_rfl) (fun _ _ _ h => h) (Or.inl ⟨by kernel_rfl, ?_⟩) hHeld ?_
                      rotate_left
                      · intro w hSw
                        obtain ⟨z1, z2⟩ := hSw
                        go_simp
                        try with_reducible rfl
                      refine wpAnyH_take (i := 4) (v := ?_) rfl (by kernel_rfl) (by kernel_rfl) (by kernel_rfl) (fun _ _ _ h => h) (Or.inl ⟨by kernel_rfl, ?_⟩) hHeld ?_
                      rotate_left
                      · intro w hSw
                        obtain ⟨z1, z2⟩ := hSw
                        go_simp
                        try with_reducible rfl
                      refine wpAnyH_take (i := 5) (v := ?_) rfl (by kernel_rfl) (by kernel_rfl) (by kernel_rfl) (fun _ _ _ h => h) (Or.inl ⟨by kernel_rfl, ?_⟩) hHeld ?_
                      rotate_left
                      · intro w hSw
                        obtain ⟨z1, z2⟩ := hSw
                        go_simp
                        try with_reducible rfl
                      refine wpAnyH_take (i := 7) (v := ?_) rfl (by kernel_rfl) (by kernel_rfl) (by kernel_rfl) (fun _ _ _ h => h) (Or.inl ⟨by kernel_rfl, ?_⟩) hHeld ?_
                      rotate_left
                      · intro w hSw
                        obtain ⟨z1, z2⟩ := hSw
                        go_simp
                        try with_reducible rfl
                      refine wpAnyH_take (i := 8) (v := ?_) rfl (by kernel_rfl) (by kernel_rfl) (by kernel_rfl) (fun _ _ _ h => h) (Or.inl ⟨by kernel_rfl, ?_⟩) hHeld ?_
                      rotate_left
                      · intro w hSw
                        obtain ⟨z1, z2⟩ := hSw
                        go_simp
                        try with_reducible rfl
                      refine wpAnyH_take (i := 9) (v := ?_) rfl (by kernel_rfl) (by kernel_rfl) (by kernel_rfl) (fun _ _ _ h => h) (Or.inl ⟨by kernel_rfl, ?_⟩) hHeld ?_
                      rotate_left
                      · intro w hSw
                        obtain ⟨z1, z2⟩ := hSw
                        go_simp
                        try with_reducible rfl
                      refine wpAnyH_take (i := 10) (v := ?_) rfl (by kernel_rfl) (by kernel_rfl) (by kernel_rfl) (fun _ _ _ h => h) (Or.inl ⟨by kernel_rfl, ?_⟩) hHeld ?_
                      rotate_left
                      · intro w hSw
                        obtain ⟨z1, z2⟩ := hSw
                        go_simp
                        try with_reducible rfl
                      refine wpAnyH_take (i := 11) (v := ?_) rfl (by kernel_rfl) (by kernel_rfl) (by kernel_rfl) (fun _ _ _ h => h) (Or.inl ⟨by kernel_rfl, ?_⟩) hHeld ?_
                      rotate_left
                      · intro w hSw
                        obtain ⟨z1, z2⟩ := hSw
                        go_simp
                        try with_reducible rfl
                      refine wpAnyH_take (i := 12) (v := ?_) rfl (by kernel_rfl) (by kernel_rfl) (by kernel_rfl) (fun _ _ _ h => h) (Or.inl ⟨by kernel_rfl, ?_⟩) hHeld ?_
                      rotate_left
                      · intro w hSw
                        obtain ⟨z1, z2⟩ := hSw
                        go_simp
                        try with_reducible rfl
                      refine wpAnyH_take (i := 13) (v := ?_) rfl (by kernel_rfl) (by kernel_rfl) (by kernel_rfl) (fun _ _ _ h => h) (Or.inl ⟨by kernel_rfl, ?_⟩) hHeld ?_
                      rotate_left
                      · intro w hSw
                        obtain ⟨z1, z2⟩ := hSw
                        go_simp
                        try with_reducible rfl
                      clear hHeld
                      obtain ⟨X0, hX0⟩ : ∃ X0, X0 = wr.drew := ⟨_, rfl⟩
                      rw [← hX0]
                      have HBX := Lib.hid (show Below wr.heap.size wr X0 by rw [hX0]; exact (Below.refl _ _).drew)
                      clear hX0
                      refine wpAnyH_ready (rs := [1, 14]) (by kernel_rfl) (by simp) ?_
                      refine AllReadyH.cons rfl (fun KK hKK => ?_) ?_
                      · rw [if_pos (by kernel_rfl)]
                        go_simp
                        have hE := own_empty X0 wr.heap.size 3 HBX.out.size
                        have hbn := HBX.out.alloc HBX.out.size (.cells #[] 3)
                        refine hKK.out _ _ (HSX.out _ (.inl hbn)) (fun hHeld => ?_)
                        clear hKK KK hHeld HBX
                        generalize X0.alloc (.cells #[] 3) = X1 at hE hbn ⊢
                        generalize X0.heap.size = e9 at hE ⊢
                        have HE := Lib.hid hE
                        have HBX := Lib.hid hbn
                        clear hE hbn
                        refine wpAnyH_ready (rs := [6, 14]) (by kernel_rfl) (by simp) ?_
                        refine AllReadyH.cons rfl (fun KK hKK => ?_) ?_
                        · refine step_apN elI9 HE.out (HRL.out _ HBX.out) (intL_one l) HL1.out HBX.out.size rfl (.tmp 172) (.tmp 176) rfl rfl rfl ?_
                          intro v1 X2 k1 k2 k3 k4
                          have hbn := HBX.out.grown k4 HBX.out.size (fun q hq => (HE.out.lt q hq).1)
                          obtain ⟨a1, n1, c1, rfl⟩ := own_sl k1
                          refine hKK.out _ _ (HSX.out _ (.inl hbn)) (fun hHeld => ?_)
                          have HV := Lib.hid k1
                          clear hKK KK hHeld HBX HE k1 k2 k3 k4
                          have HBX := Lib.hid hbn
                          clear hbn
                          refine wpAnyH_ready (rs := [14]) (by kernel_rfl) (by simp) ?_
                          refine AllReadyH.cons rfl (fun KK hKK => ?_) ?_
                          · rw [if_pos (by kernel_rfl)]
                            go_simp
                            have hY := own_one X2 wr.heap.size 3 (.int .i64 Z) HBX.out.size
                            have hbn := HBX.out.alloc HBX.out.size (.cells #[.int .i64 Z] 3)
                            have hV := HV.out.alloc (.cells #[.int .i64 Z] 3)
                            refine hKK.out _ _ (HSX.out _ (.inl hbn)) (fun hHeld => ?_)
                            clear hKK KK hHeld HBX HV
                            generalize X2.alloc (.cells #[.int .i64 Z] 3) = X3 at hY hbn hV ⊢
                            generalize X2.heap.size = y9 at hY ⊢
                            have HY := Lib.hid hY
                            have HBX := Lib.hid hbn
                            clear hY hbn
                            have HV := Lib.hid hV
                            clear hV
                            refine wpAnyH_ready (rs := [15]) (by kernel_rfl) (by simp) ?_
                            refine AllReadyH.cons rfl (fun KK hKK => ?_) ?_
                            · refine step_apN elI9 HV.out HY.out.rd (by intro u hu; rw [List.mem_singleton.1 hu]; rfl) HL2.out HBX.out.size rfl (.tmp 177) (.tmp 185) rfl rfl rfl ?_
                              intro v2 Xf k1 k2 k3 k4
                              have hbn := HBX.out.grown k4 HBX.out.size (fun q hq => (HV.out.lt q hq).1)
                              obtain ⟨a2, n2', c2', rfl⟩ := own_sl k1
                              have hv2 : Own Xf wr.heap.size 3 (.slice a2 n2' c2') (intL (l ++ [Z])) := own_to k1 (by rw [intL_snoc9]; rfl)
                              refine hKK.out _ _ (HSX.out _ (.inl hbn)) (fun hHeld => ?_)
                              have HV2 := Lib.hid hv2
                              have HBF := Lib.hid hbn
                              clear k1 k2 k3 k4 hbn hv2 hKK KK hHeld HBX HV HY
                              refine wpAnyH_ready (rs := [16]) (by kernel_rfl) (by simp) ?_
                              refine AllReadyH.cons rfl (fun KK hKK => ?_) ?_
                              · rw [if_pos (by kernel_rfl)]
                                go_simp
                                have hbn := HBF.out.alloc HBF.out.size (.cells #[.slice a2 n2' c2'] 23)
                                refine hKK.out _ _ (HSX.out _ (.inl hbn)) (fun hHeld => ?_)
                                clear hKK KK hHeld hbn
                                refine wpAnyH_ready (rs := [17]) (by kernel_rfl) (by simp) ?_
                                refine AllReadyH.cons rfl (fun KK hKK => ?_) ?_
                                · have hmX := HM.out.below HBF.out (Nat.le_refl _)
                                  have hzX := Nat.le_trans hwz HBF.out.size
                                  refine step_ap1' elLL rfl hmX.top HL3.out hzX rfl (.tmp 171) (.tmp 187) rfl rfl rfl ?_
                                  intro v3 Xg k1 k2 k3 k4
                                  have hbg := (HB.out.trans (HBF.out.mono hwz)).grown k4 hzX (fun q hq => (hmX.top.lt q hq).1)
                                  have hmg := hmX.snoc (own_base HV2.out hwz) k1 k4
                                  rw [← HLT.out] at hmg
                                  obtain ⟨A4, C4, hv4⟩ := own_slice hmg.top
                                  have hln : (ws ++ [Value.slice a2 n2' c2']).length = j + 1 := by rw [List.length_append, HWL.out]; rfl
                                  rw [hln] at hv4
                                  subst hv4
                                  refine hKK.out _ _ (HSX.out _ (.inr hbg)) (fun hHeld => ?_)
                                  have HFIN := Lib.hid (show (∃ ws, MvS Xg wc.heap.size (.slice A4 (j + 1) C4) ws (laidL k (L.take (j + 1)) (O.take (j + 1)))) ∧ Below wc.heap.size wc Xg from ⟨⟨_, hmg⟩, hbg⟩)
                                  clear k1 k2 k3 k4 hmX hbg hmg hln hKK KK
                                  refine wpAnyH_take (i := 18) (v := ?_) rfl (by kernel_rfl) (by kernel_rfl) (by kernel_rfl) (fun _ _ _ h => h) (Or.inl ⟨by kernel_rfl, ?_⟩) hHeld ?_
                                  rotate_left
                                  · intro w hSw
                                    go_simp
                                    try with_reducible rfl
                                  clear hHeld
                                  refine wpAnyH_done (by kernel_rfl) ?_ _
                                  refine NoPanic.normal ?_
                                  go_wp2
                                  go_meet
                                  exact ⟨A4, C4, rfl, Lib.hid HFIN.out.1, Lib.hid HFIN.out.2⟩
                                exact AllReadyH.nil
                              exact AllReadyH.nil
                            exact AllReadyH.nil
                          exact AllReadyH.nil
                        refine AllReadyH.cons rfl (fun KK hKK => ?_) ?_
                        · rw [if_pos (by kernel_rfl)]
                          go_simp
                          have hY := own_one X1 wr.heap.size 3 (.int .i64 Z) HBX.out.size
                          have hbn := HBX.out.alloc HBX.out.size (.cells #[.int .i64 Z] 3)
                          have hE := HE.out.alloc (.cells #[.int .i64 Z] 3)
                          have hne : e9 < X1.heap.size := (HE.out.lt e9 rfl).2
                          refine hKK.out _ _ (HSX.out _ (.inl hbn)) (fun hHeld => ?_)
                          clear hKK KK hHeld HBX HE
                          generalize X1.alloc (.cells #[.int .i64 Z] 3) = X2 at hY hbn hE ⊢
                          generalize X1.heap.size = y9 at hY hne ⊢
                          have HY := Lib.hid hY
                          have HBX := Lib.hid hbn
                          clear hY hbn
                          have HNE := Lib.hid (show e9 ≠ y9 by omega)
                          have HE := Lib.hid hE
                          clear hE hne
                          refine wpAnyH_ready (rs := [6]) (by kernel_rfl) (by simp) ?_
                          refine AllReadyH.cons rfl (fun KK hKK => ?_) ?_
                          · refine step_apN elI9 HE.out (HRL.out _ HBX.out) (intL_one l) HL1.out HBX.out.size rfl (.tmp 172) (.tmp 176) rfl rfl rfl ?_
                            intro v1 X3 k1 k2 k3 k4
                            have hbn := HBX.out.grown k4 HBX.out.size (fun q hq => (HE.out.lt q hq).1)
                            obtain ⟨a1, n1, c1, rfl⟩ := own_sl k1
                            have hY := HY.out.kept k4 (.inr (fun e => HNE.out (by simpa [Value.ownBlock] using e.symm)))
                            refine hKK.out _ _ (HSX.out _ (.inl hbn)) (fun hHeld => ?_)
                            have HV := Lib.hid k1
                            clear hKK KK hHeld HBX HE k1 k2 k3 k4 HY HNE
                            have HBX := Lib.hid hbn
                            clear hbn
                            have HY := Lib.hid hY
                            clear hY
                            refine wpAnyH_ready (rs := [15]) (by kernel_rfl) (by simp) ?_
                            refine AllReadyH.cons rfl (fun KK hKK => ?_) ?_
                            · refine step_apN elI9 HV.out HY.out.rd (by intro u hu; rw [List.mem_singleton.1 hu]; rfl) HL2.out HBX.out.size rfl (.tmp 177) (.tmp 185) rfl rfl rfl ?_
                              intro v2 Xf k1 k2 k3 k4
                              have hbn := HBX.out.grown k4 HBX.out.size (fun q hq => (HV.out.lt q hq).1)
                              obtain ⟨a2, n2', c2', rfl⟩ := own_sl k1
                              have hv2 : Own Xf wr.heap.size 3 (.slice a2 n2' c2') (intL (l ++ [Z])) := own_to k1 (by rw [intL_snoc9]; rfl)
                              refine hKK.out _ _ (HSX.out _ (.inl hbn)) (fun hHeld => ?_)
                              have HV2 := Lib.hid hv2
                              have HBF := Lib.hid hbn
                              clear k1 k2 k3 k4 hbn hv2 hKK KK hHeld HBX HV HY
                              refine wpAnyH_ready (rs := [16]) (by kernel_rfl) (by simp) ?_
                              refine AllReadyH.cons rfl (fun KK hKK => ?_) ?_
                              · rw [if_pos (by kernel_rfl)]
                                go_simp
                                have hbn := HBF.out.alloc HBF.out.size (.cells #[.slice a2 n2' c2'] 23)
                                refine hKK.out _ _ (HSX.out _ (.inl hbn)) (fun hHeld => ?_)
                                clear hKK KK hHeld hbn
                                refine wpAnyH_ready (rs := [17]) (by kernel_rfl) (by simp) ?_
                                refine AllReadyH.cons rfl (fun KK hKK => ?_) ?_
                                · have hmX := HM.out.below HBF.out (Nat.le_refl _)
                                  have hzX := Nat.le_trans hwz HBF.out.size
                                  refine step_ap1' elLL rfl hmX.top HL3.out hzX rfl (.tmp 171) (.tmp 187) rfl rfl rfl ?_
                                  intro v3 Xg k1 k2 k3 k4
                                  have hbg := (HB.out.trans (HBF.out.mono hwz)).grown k4 hzX (fun q hq => (hmX.top.lt q hq).1)
                                  have hmg := hmX.snoc (own_base HV2.out hwz) k1 k4
                                  rw [← HLT.out] at hmg
                                  obtain ⟨A4, C4, hv4⟩ := own_slice hmg.top
                                  have hln : (ws ++ [Value.slice a2 n2' c2']).length = j + 1 := by rw [List.length_append, HWL.out]; rfl
                                  rw [hln] at hv4
                                  subst hv4
                                  refine hKK.out _ _ (HSX.out _ (.inr hbg)) (fun hHeld => ?_)
                                  have HFIN := Lib.hid (show (∃ ws, MvS Xg wc.heap.size (.slice A4 (j + 1) C4) ws (laidL k (L.take (j + 1)) (O.take (j + 1)))) ∧ Below wc.heap.size wc Xg from ⟨⟨_, hmg⟩, hbg⟩)
                                  clear k1 k2 k3 k4 hmX hbg hmg hln hKK KK
                                  refine wpAnyH_take (i := 18) (v := ?_) rfl (by kernel_rfl) (by kernel_rfl) (by kernel_rfl) (fun _ _ _ h => h) (Or.inl ⟨by kernel_rfl, ?_⟩) hHeld ?_
                                  rotate_left
                                  · intro w hSw
                                    go_simp
                                    try with_reducible rfl
                                  clear hHeld
                                  refine wpAnyH_done (by kernel_rfl) ?_ _
                                  refine NoPanic.normal ?_
                                  go_wp2
                                  go_meet
                                  exact ⟨A4, C4, rfl, Lib.hid HFIN.out.1, Lib.hid HFIN.out.2⟩
                                exact AllReadyH.nil
                              exact AllReadyH.nil
                            exact AllReadyH.nil
                          exact AllReadyH.nil
                        exact AllReadyH.nil
                      refine AllReadyH.cons rfl (fun KK hKK => ?_) ?_
                      · rw [if_pos (by kernel_rfl)]
                        go_simp
                        have hY := own_one X0 wr.heap.size 3 (.int .i64 Z) HBX.out.size
                        have hbn := HBX.out.alloc HBX.out.size (.cells #[.int .i64 Z] 3)
                        refine hKK.out _ _ (HSX.out _ (.inl hbn)) (fun hHeld => ?_)
                        clear hKK KK hHeld HBX
                        generalize X0.alloc (.cells #[.int .i64 Z] 3) = X1 at hY hbn  ⊢
                        generalize X0.heap.size = y9 at hY ⊢
                        have HY := Lib.hid hY
                        have HBX := Lib.hid hbn
                        clear hY hbn
                        refine wpAnyH_ready (rs := [1]) (by kernel_rfl) (by simp) ?_
                        refine AllReadyH.cons rfl (fun KK hKK => ?_) ?_
                        · rw [if_pos (by kernel_rfl)]
                          go_simp
                          have hE := own_empty X1 wr.heap.size 3 HBX.out.size
                          have hbn := HBX.out.alloc HBX.out.size (.cells #[] 3)
                          have hY := HY.out.alloc (.cells #[] 3)
                          have hne : y9 < X1.heap.size := (HY.out.lt y9 rfl).2
                          refine hKK.out _ _ (HSX.out _ (.inl hbn)) (fun hHeld => ?_)
                          clear hKK KK hHeld HBX HY
                          generalize X1.alloc (.cells #[] 3) = X2 at hE hbn hY ⊢
                          generalize X1.heap.size = e9 at hE hne ⊢
                          have HE := Lib.hid hE
                          have HBX := Lib.hid hbn
                          clear hE hbn
                          have HNE := Lib.hid (show e9 ≠ y9 by omega)
                          have HY := Lib.hid hY
                          clear hY hne
                          refine wpAnyH_ready (rs := [6]) (by kernel_rfl) (by simp) ?_
                          refine AllReadyH.cons rfl (fun KK hKK => ?_) ?_
                          · refine step_apN elI9 HE.out (HRL.out _ HBX.out) (intL_one l) HL1.out HBX.out.size rfl (.tmp 172) (.tmp 176) rfl rfl rfl ?_
                            intro v1 X3 k1 k2 k3 k4
                            have hbn := HBX.out.grown k4 HBX.out.size (fun q hq => (HE.out.lt q hq).1)
                            obtain ⟨a1, n1, c1, rfl⟩ := own_sl k1
                            have hY := HY.out.kept k4 (.inr (fun e => HNE.out (by simpa [Value.ownBlock] using e.symm)))
                            refine hKK.out _ _ (HSX.out _ (.inl hbn)) (fun hHeld => ?_)
                            have HV := Lib.hid k1
                            clear hKK KK hHeld HBX HE k1 k2 k3 k4 HY HNE
                            have HBX := Lib.hid hbn
                            clear hbn
                            have HY := Lib.hid hY
                            clear hY
                            refine wpAnyH_ready (rs := [15]) (by kernel_rfl) (by simp) ?_
                            refine AllReadyH.cons rfl (fun KK hKK => ?_) ?_
                            · refine step_apN elI9 HV.out HY.out.rd (by intro u hu; rw [List.mem_singleton.1 hu]; rfl) HL2.out HBX.out.size rfl (.tmp 177) (.tmp 185) rfl rfl rfl ?_
                              intro v2 Xf k1 k2 k3 k4
                              have hbn := HBX.out.grown k4 HBX.out.size (fun q hq => (HV.out.lt q hq).1)
                              obtain ⟨a2, n2', c2', rfl⟩ := own_sl k1
                              have hv2 : Own Xf wr.heap.size 3 (.slice a2 n2' c2') (intL (l ++ [Z])) := own_to k1 (by rw [intL_snoc9]; rfl)
                              refine hKK.out _ _ (HSX.out _ (.inl hbn)) (fun hHeld => ?_)
                              have HV2 := Lib.hid hv2
                              have HBF := Lib.hid hbn
                              clear k1 k2 k3 k4 hbn hv2 hKK KK hHeld HBX HV HY
                              refine wpAnyH_ready (rs := [16]) (by kernel_rfl) (by simp) ?_
                              refine AllReadyH.cons rfl (fun KK hKK => ?_) ?_
                              · rw [if_pos (by kernel_rfl)]
                                go_simp
                                have hbn := HBF.out.alloc HBF.out.size (.cells #[.slice a2 n2' c2'] 23)
                                refine hKK.out _ _ (HSX.out _ (.inl hbn)) (fun hHeld => ?_)
                                clear hKK KK hHeld hbn
                                refine wpAnyH_ready (rs := [17]) (by kernel_rfl) (by simp) ?_
                                refine AllReadyH.cons rfl (fun KK hKK => ?_) ?_
                                · have hmX := HM.out.below HBF.out (Nat.le_refl _)
                                  have hzX := Nat.le_trans hwz HBF.out.size
                                  refine step_ap1' elLL rfl hmX.top HL3.out hzX rfl (.tmp 171) (.tmp 187) rfl rfl rfl ?_
                                  intro v3 Xg k1 k2 k3 k4
                                  have hbg := (HB.out.trans (HBF.out.mono hwz)).grown k4 hzX (fun q hq => (hmX.top.lt q hq).1)
                                  have hmg := hmX.snoc (own_base HV2.out hwz) k1 k4
                                  rw [← HLT.out] at hmg
                                  obtain ⟨A4, C4, hv4⟩ := own_slice hmg.top
                                  have hln : (ws ++ [Value.slice a2 n2' c2']).length = j + 1 := by rw [List.length_append, HWL.out]; rfl
                                  rw [hln] at hv4
                                  subst hv4
                                  refine hKK.out _ _ (HSX.out _ (.inr hbg)) (fun hHeld => ?_)
                                  have HFIN := Lib.hid (show (∃ ws, MvS Xg wc.heap.size (.slice A4 (j + 1) C4) ws (laidL k (L.take (j + 1)) (O.take (j + 1)))) ∧ Below wc.heap.size wc Xg from ⟨⟨_, hmg⟩, hbg⟩)
                                  clear k1 k2 k3 k4 hmX hbg hmg hln hKK KK
                                  refine wpAnyH_take (i := 18) (v := ?_) rfl (by kernel_rfl) (by kernel_rfl) (by kernel_rfl) (fun _ _ _ h => h) (Or.inl ⟨by kernel_rfl, ?_⟩) hHeld ?_
                                  rotate_left
                                  · intro w hSw
                                    go_simp
                                    try with_reducible rfl
                                  clear hHeld
                                  refine wpAnyH_done (by kernel_rfl) ?_ _
                                  refine NoPanic.normal ?_
                                  go_wp2
                                  go_meet
                                  exact ⟨A4, C4, rfl, Lib.hid HFIN.out.1, Lib.hid HFIN.out.2⟩
                                exact AllReadyH.nil
                              exact AllReadyH.nil
                            exact AllReadyH.nil
                          exact AllReadyH.nil
                        exact AllReadyH.nil
                      exact AllReadyH.nil
                      -- END ARM
                    case rest =>
                      obtain ⟨A4, C4, rfl, HM4, HB4⟩ := hcut
                      clear HSX HRL HWL HL1 HL2 HL3 HLT HM HB hwz s1 s2
                      go_wp2
                      go_roundw
                      case rel => exact ⟨j + 1, A4, C4, _, rfl, rfl, by go_num, by omega, HM4, HB4⟩
                      case measure => simp [intOf]; omega
                  · obtain rfl : j = i := by omega
                    have i1 : ¬ ((j : Int) < (j : Int)) := by omega
                    have e1 : L.take j = L := by rw [← hLn]; exact List.take_length
                    have e2 : O.take j = O := by rw [← hOn]; exact List.take_length
                    rw [e1, e2] at HM
                    obtain ⟨ws, hm⟩ := HM.out
                    have hos9 := (HO9.out.below HB.out (Nat.le_refl _)).rd
                    have hlsum : sumL (laidL k L O) ≤ 10000000 := by rw [laidL_sum k L O (by omega)]; omega
                    have hllen : (laidL k L O).length ≤ 10000000 := by rw [laidL_length k L O (by omega)]; omega
                    have D1 := ph_any wr A9 j C9 (laidL k L O) hm.rdll _ j C2 O hos9 0 hlsum hllen (by omega)
                    have D2 := fun (W : World) (hb : Below wr.heap.size wr W) => ph_any W _ j C L (((HM9.out.below HB.out (Nat.le_refl _)).below hb (Nat.le_refl _)).rdll) _ j C2 O (hos9.below hb (Nat.le_refl _)) 0 (by omega) (by omega) (by omega)
                    rw [HLAID.out] at D1
                    have hP0 : phV L O 0 ≤ 10000000 := phV_le L O 0 (by omega)
                    obtain ⟨P0, hP⟩ : ∃ P0, phV L O 0 = P0 := ⟨_, rfl⟩
                    rw [hP] at D1 D2 hP0
                    have s1 : IntKind.i64.wrap ((P0 : Int) + 1) = ((P0 + 1 : Nat) : Int) := by rw [IntKind.wrap_i64]; omega
                    have HD1 := Lib.hid D1
                    have HD2 := Lib.hid D2
                    clear hm hos9 hlsum hllen D1 D2 hP HM hlt e1 e2
                    go_wp2_with fail
                    with_reducible refine HD1.out.mono ?_
                    rintro e wy ⟨rfl, hby⟩
                    have HBY := Lib.hid hby
                    clear hby HD1
                    go_wp2_with fail
                    with_reducible refine (HD2.out _ HBY.out).mono ?_
                    rintro e wz ⟨rfl, hbz⟩
                    have hfin : Below w.heap.size w wz := by
                      have f1 := HB1.out
                      have f2 := HB5.out
                      have f3 := HBW.out
                      have f4 := HB9.out
                      have f5 := HB.out
                      have f6 := HBY.out
                      have g1 := f1.size
                      have g2 := f2.size
                      have g3 := f3.size
                      have g4 := f4.size
                      have g5 := f5.size
                      have g6 := f6.size
                      exact (((((f1.trans (f2.mono (by omega))).trans (f3.mono (by omega))).trans (f4.mono (by omega))).trans (f5.mono (by omega))).trans (f6.mono (by omega))).trans (hbz.mono (by omega))
                    have HFIN := Lib.hid hfin
                    clear hfin hbz HD2
                    go_wp2
                    go_ret
                    exact ⟨by simp, HFIN.out⟩
          · obtain ⟨m, rfl⟩ : ∃ m', m = m' + 1 := ⟨m - 1, by omega⟩
            obtain rfl : iv = (m : Int) := by omega
            have hmv : m < vs.length := by omega
            have hmo : m < O.length := by omega
            have hbel := HBK.out.bel
            have hwz : B ≤ wr.heap.size := by have := hbel.size; omega
            have c1 := (hbel.cell (p := ⟨g, m, none⟩) hgl.1).trans (HCL.out m hmv)
            obtain ⟨A8, C8, hv8⟩ := own_slice (HM5.out.own m hmv (by omega))
            have hdr := drop_rev vs hmv
            have hdo := drop_rev O hmo
            have hdt := take_map_snoc HOK.out hOn (show m < i by omega)
            have hlt3 : i - 1 - m < O.length := by omega
            have c2 := HCO.out m hmo
            have c3 := HCO.out _ hlt3
            obtain ⟨x2, hx2⟩ : ∃ x, O[m] = x := ⟨_, rfl⟩
            obtain ⟨x3, hx3⟩ : ∃ x, O[i - 1 - m] = x := ⟨_, rfl⟩
            have hxb := HPI.out.ho x3 (by rw [← hx3]; exact List.getElem_mem _)
            rw [hx2] at c2 hdo
            rw [hx3] at c3 hdt
            rw [hv8] at c1 hdr
            obtain ⟨l8, hl8⟩ : ∃ l, (intL (L[m]'(by omega))).length = l := ⟨_, rfl⟩
            rw [hl8] at c1 hdr
            obtain ⟨N1, hN1⟩ : ∃ N, i - 1 = N := ⟨_, rfl⟩
            obtain ⟨J, hJ⟩ : ∃ J, i - 1 - m = J := ⟨_, rfl⟩
            rw [hJ] at c3
            have hk2 := HK.out
            have sa : IntKind.i64.wrap ((i : Int) - 1) = (N1 : Int) := by rw [IntKind.wrap_i64]; omega
            have sb : IntKind.i64.wrap ((N1 : Int) - (m : Int)) = (J : Int) := by rw [IntKind.wrap_i64]; omega
            have sc : IntKind.i64.wrap (x3 + k) = x3 + k := by rw [IntKind.wrap_i64]; omega
            have i1 : (m : Int) < (i : Int) := by omega
            have i2 : (J : Int) < (i : Int) := by omega
            have SA := Lib.hid sa
            have SB := Lib.hid sb
            have SC := Lib.hid sc
            have HDR := Lib.hid hdr
            have HDO := Lib.hid hdo
            have HDT := Lib.hid hdt
            have HC2 := Lib.hid c2
            have HC3 := Lib.hid c3
            obtain ⟨q1, r1, p1, rfl⟩ := own_sl HBK.out.o1
            obtain ⟨q2, r2, p2, rfl⟩ := own_sl HBK.out.o2
            obtain ⟨q3, r3, p3, rfl⟩ := own_sl HBK.out.o3
            have hq1 : (vs.drop (m + 1)).reverse.length < 1000000000000 := by rw [List.length_reverse, List.length_drop]; omega
            have hq2 : (intL (O.drop (m + 1)).reverse).length < 1000000000000 := by rw [intL_length, List.length_reverse, List.length_drop]; omega
            have hq3 : (intL (Ok.take (i - (m + 1)))).length < 1000000000000 := by rw [intL_length, List.length_take]; omega
            have HO1 := Lib.hid HBK.out.o1
            have HQ1 := Lib.hid hq1
            have HQ2 := Lib.hid hq2
            have HQ3 := Lib.hid hq3
            clear hdr hdo hdt c2 c3 hx2 hx3 hv8 hl8 hN1 hJ hk2 hq1 hq2 hq3 hlt3 hiv hmv hmo hxb sa sb sc hm0 hbel
            go_wp2_with (at_builtin; with_reducible refine ap1' elLL rfl HO1.out HQ1.out hwz rfl _ _ rfl rfl rfl ?_)
            intro v6 w6 k1 k2 k3 k4
            obtain ⟨bel6, o26, o36⟩ := HBK.out.put1 hwz k1 k4
            rw [← HDR.out] at k1
            obtain ⟨q4, r4, p4, rfl⟩ := own_sl k1
            have hsep := HBK.out.sep
            have hz6 : B ≤ w6.heap.size := Nat.le_trans hwz k4.size
            have c2 := (bel6.cell (p := ⟨g2, m, none⟩) hgl.2).trans HC2.out
            have HK1 := Lib.hid k1
            have HO26 := Lib.hid o26
            have HO36 := Lib.hid o36
            have HSEP := Lib.hid hsep
            have HB6 := Lib.hid bel6
            clear k1 k2 k3 k4 bel6 o26 o36 hsep HBK HO1 HDR HQ1 c1
            go_wp2_with (at_builtin; with_reducible refine ap1' elI9 rfl HO26.out HQ2.out hz6 rfl _ _ rfl rfl rfl ?_)
            intro v7 w7 k1 k2 k3 k4
            have bel7 := HB6.out.grown k4 hz6 (fun q hq => (HO26.out.lt q hq).1)
            have o17 := HK1.out.kept k4 (kept_types HK1.out HO26.out (by decide))
            have o37 := HO36.out.kept k4 (kept_sep (fun b hb h9 => HSEP.out b h9 hb))
            rw [← intL_snoc9, ← HDO.out] at k1
            have hsep7 : ∀ b, v7.ownBlock = some b → (Value.slice q3 r3 p3).ownBlock ≠ some b := fun b hb h9 => by
              rcases k3 with k3 | ⟨k3, -⟩
              · exact HSEP.out b (k3 ▸ hb) h9
              · have h8 := (HO36.out.lt b h9).2
                rw [k3] at hb
                injection hb with hb
                omega
            obtain ⟨q5, r5, p5, rfl⟩ := own_sl k1
            have hz7 : B ≤ w7.heap.size := Nat.le_trans hz6 k4.size
            have c3 := (bel7.cell (p := ⟨g2, J, none⟩) hgl.2).trans HC3.out
            have sa := SA.out
            have sb := SB.out
            have sc := SC.out
            have HK17 := Lib.hid o17
            have HK27 := Lib.hid k1
            have HK37 := Lib.hid o37
            have HSEP7 := Lib.hid hsep7
            have HB7 := Lib.hid bel7
            clear k1 k2 k3 k4 bel7 o17 o37 hsep7 HK1 HO26 HO36 HSEP HB6 HDO HQ2 c2
            go_wp2_with (at_builtin; with_reducible refine ap1' elI9 rfl HK37.out HQ3.out hz7 rfl _ _ rfl rfl rfl ?_)
            intro v8 w8 k1 k2 k3 k4
            have bel8 := HB7.out.grown k4 hz7 (fun q hq => (HK37.out.lt q hq).1)
            have o18 := HK17.out.kept k4 (kept_types HK17.out HK37.out (by decide))
            have o28 := HK27.out.kept k4 (kept_sep HSEP7.out)
            rw [← intL_snoc9, ← HDT.out] at k1
            have hsep8 : ∀ b, (Value.slice q5 r5 p5).ownBlock = some b → v8.ownBlock ≠ some b := fun b hb h9 => by
              rcases k3 with k3 | ⟨k3, -⟩
              · exact HSEP7.out b hb (k3 ▸ h9)
              · have h8 := (HK27.out.lt b hb).2
                rw [k3] at h9
                injection h9 with h9
                omega
            obtain ⟨q6, r6, p6, rfl⟩ := own_sl k1
            have HN := Lib.hid (show BkS w4 w8 B (.slice q4 r4 p4) (.slice q5 r5 p5) (.slice q6 r6 p6) vs O Ok i m from ⟨bel8, o18, o28, k1, hsep8⟩)
            have sd : IntKind.i64.wrap ((m : Int) - 1) = (m : Int) - 1 := by rw [IntKind.wrap_i64]; omega
            clear k1 k2 k3 k4 bel8 o18 o28 hsep8 HK17 HK27 HK37 HSEP7 HB7 HDT HQ3 c3 sa sb sc
            go_wp2
            go_roundw
            case rel => exact ⟨m, _, rfl, rfl, by omega, HN⟩
            case measure => simp [intOf]; try omega
end Go.Proofs.YtaijepjhmjjecaaDoor
