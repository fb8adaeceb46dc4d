/- cursor: begins. -/
import Derived.Test.YtaijepjhmjjecaaDoorZRPh
namespace Go.Proofs.YtaijepjhmjjecaaDoor
set_option linter.unusedVariables false
open Go.ChangeShapes Go.WideShapes Go.ChangeAt Go.RowKit

theorem madeN8 (n : Nat) : madeCells #[.int .i64 0] n = (intL (List.replicate n 0)).toArray := by
  refine Array.ext (by rw [size_madeCells]; simp [intL]) fun i h1 h2 => ?_
  simp [madeCells, intL, Nat.mod_one]
/-- The places that go along. -/
structure BegS (w wr : World) (g N : Nat) (ats : List Nat) (ms : List (List Int)) (b : Int) : Prop where
  own : Own wr w.heap.size 3 (.slice (some ⟨g, 0, none⟩) N N) (intL (ats.map fun k : Nat => (k : Int)))
  below : Below w.heap.size w wr
  len : ats.length = ms.length
  at_ : ∀ (i : Nat) (h : i < ats.length) (h2 : i < ms.length), AtS ms[i] b ats[i]
theorem BegS.mono {w wr : World} {g N : Nat} {ats : List Nat} {ms : List (List Int)} {b c : Int} (h : BegS w wr g N ats ms b) (hbc : b ≤ c) : BegS w wr g N ats ms c :=
  ⟨h.own, h.below, h.len, fun i h1 h2 => (h.at_ i h1 h2).mono hbc⟩
theorem BegS.drewN {w wr : World} {g N : Nat} {ats : List Nat} {ms : List (List Int)} {b : Int} (h : BegS w wr g N ats ms b) (d : Nat) : BegS w (wr.drewN d) g N ats ms b :=
  ⟨h.own.drewN d, below_drewN h.below d, h.len, h.at_⟩
theorem BegS.cell {w wr : World} {g N : Nat} {ats : List Nat} {ms : List (List Int)} {b : Int} (h : BegS w wr g N ats ms b) {i : Nat} (hi : i < ats.length) : wr.cell? ⟨g, i, none⟩ = some (.int .i64 (ats[i] : Nat)) := by
  refine h.own.get ?_
  rw [intL_get _ i (by simpa using hi)]
  simp
theorem BegS.up {w wr : World} {g N : Nat} {ats : List Nat} {ms : List (List Int)} {b : Int} (h : BegS w wr g N ats ms b) {i : Nat} (hi : i < ats.length) (hm : i < ms.length) (hk : ats[i] < ms[i].length) (hlt : ms[i][ats[i]] < b) :
    BegS w (wr.setCell ⟨g, i, none⟩ (.int .i64 ((ats[i] + 1 : Nat) : Int))) g N (ats.set i (ats[i] + 1)) ms b := by
  have hg : w.heap.size ≤ g := (h.own.lt g rfl).1
  refine ⟨?_, h.below.setCell (p := ⟨g, i, none⟩) hg _, by rw [List.length_set]; exact h.len, fun j h1 h2 => ?_⟩
  · have h9 := h.own.set i (.int .i64 ((ats[i] + 1 : Nat) : Int))
    refine own_to h9 ?_
    simp [intL, List.map_set]
  · by_cases e : j = i
    · subst e
      simp only [List.getElem_set_self]
      exact (h.at_ j hi hm).up hk hlt
    · rw [List.getElem_set_ne (fun e2 => e e2.symm)]
      exact h.at_ j (by rwa [List.length_set] at h1) h2
theorem BegS.up' {w wr : World} {g N : Nat} {ats : List Nat} {ms : List (List Int)} {b : Int} (h : BegS w wr g N ats ms b) {i : Nat} (hm : i < ms.length) {m : List Int} (he : ms[i] = m) (hi : i < ats.length) (hk : ats[i] < m.length) (hlt : m[ats[i]] < b) :
    BegS w (wr.setCell ⟨g, i, none⟩ (.int .i64 ((ats[i] + 1 : Nat) : Int))) g N (ats.set i (ats[i] + 1)) ms b := by
  subst he; exact h.up hi hm hk hlt
theorem BegS.at' {w wr : World} {g N : Nat} {ats : List Nat} {ms : List (List Int)} {b : Int} (h : BegS w wr g N ats ms b) {i : Nat} (hm : i < ms.length) {m : List Int} (he : ms[i] = m) (hi : i < ats.length) : AtS m b ats[i] := by
  subst he; exact h.at_ i hi hm
set_option maxRecDepth 100000 in
set_option maxHeartbeats 16000000 in
theorem beg_any (w : World) (a : Option Addr) (n c : Nat) (S : List Int) (hS : Rd w (.slice a n c) (intL S)) (rS : Rise S) (a2 : Option Addr) (n2 c2 : Nat) (ms : List (List Int)) (hM : RdLL w a2 n2 ms) (hs : ∀ (k : Nat) (h : k < ms.length), ms[k].Pairwise (· ≤ ·) ∧ ms[k].length ≤ 10000000)
    (slop : Int) (hs0 : 0 ≤ slop) (hs1 : slop ≤ 2147483647) (hSb : ∀ z ∈ S, -4294967296 ≤ z ∧ z ≤ 4294967296) (hSl : S.length ≤ 10000000) (hml : ms.length ≤ 10000000) :
    Calls Tryd.prog 37 #[.slice a n c, .slice a2 n2 c2, .int .i64 slop] w fun e w' => e = .returned (.int .i64 (cntV S ms slop : Nat)) ∧ Below w.heap.size w w' := by
  obtain ⟨rfl, hc⟩ := rd_il hS
  obtain rfl := hM.1
  have hmk := make_row (P := Tryd.prog) elIL rfl ms.length (by omega) (ms.length : Int) rfl
  have hst0 : ∀ b, BegS w (w.alloc (.cells (madeCells #[.int .i64 0] ms.length) 3)) w.heap.size ms.length (List.replicate ms.length 0) ms b := fun b => by
    refine ⟨?_, (Below.refl _ _).alloc (Nat.le_refl _) _, by simp, fun i h1 h2 => by rw [List.getElem_replicate]; exact AtS.zero _ _⟩
    have h9 := own_lit w w.heap.size 3 (intL (List.replicate ms.length 0)) (Nat.le_refl _) (by rw [intL_length, List.length_replicate]; unfold maxLen; omega)
    rw [← madeN8, intL_length, List.length_replicate] at h9
    refine own_to h9 ?_
    simp
  have HS := Lib.hid hS
  have HM := Lib.hid hM
  have RS := Lib.hid rS
  have HSO := Lib.hid hs
  have HSB := Lib.hid hSb
  have HST0 := Lib.hid hst0
  clear hS hM rS hs hSb hst0 hc
  go_enter Tryd.func37, Tryd.ntmps37
  go_upto_region 2 with fail
  generalize w.alloc (.cells (madeCells #[.int .i64 0] ms.length) 3) = w1 at HST0 ⊢
  clear hmk
  generalize w.heap.size = g at HST0 ⊢
  go_wp2
  go_loopw [8, 10, 11, 12, 13, 19] (fun s8 s10 s11 s12 s13 s19 wr => ∃ (k cn : Nat) (ats : List Nat) (t10 t11 t12 t13 : Value), s8 = .int .i64 (cn : Nat) ∧ s10 = t10 ∧ s11 = t11 ∧ s12 = t12 ∧ s13 = t13 ∧ s19 = .int .i64 (k : Nat) ∧ k ≤ S.length ∧ RowKit.Hid (cn = cntV (S.take k) ms slop) ∧ cn ≤ k ∧ RowKit.Hid (∀ (h : k < S.length), BegS w wr g ms.length ats ms S[k]) ∧ RowKit.Hid (Below w.heap.size w wr)) (fun _ _ _ _ _ s19 _ => S.length - (intOf s19).toNat)
  case atStart => exact ⟨0, 0, _, _, _, _, _, rfl, rfl, rfl, rfl, rfl, rfl, Nat.zero_le _, Lib.hid (by rw [List.take_zero]; rfl), Nat.le_refl _, Lib.hid (fun _ => HST0.out _), Lib.hid (HST0.out 0).below⟩
  case round =>
    clear HST0
    obtain ⟨k, cn, ats, t10, t11, t12, t13, rfl, rfl, rfl, rfl, rfl, rfl, hk, HC, hcn, HST, HB⟩ := hrel
    by_cases hkl : k < S.length
    · have k1 : (k : Int) < (S.length : Int) := by omega
      obtain ⟨bs, os_, rfl, hcs⟩ := (rd_il (HS.out.below HB.out (Nat.le_refl _))).2 (by omega)
      have cs := hcs k hkl
      have hbk := HSB.out S[k] (List.getElem_mem hkl)
      have hst := HST.out hkl
      have hcsn := cntV_snoc (S.take k) S[k] ms slop
      rw [← List.take_succ_eq_append_getElem hkl] at hcsn
      have hnx : ∀ (h : k + 1 < S.length), S[k] < S[k + 1] := fun h => List.pairwise_iff_getElem.1 RS.out k (k + 1) hkl h (by omega)
      obtain ⟨b, hb⟩ : ∃ b, S[k] = b := ⟨_, rfl⟩
      rw [hb] at cs hbk hst hcsn
      simp only [hb] at hnx
      have s1 : IntKind.i64.wrap (b + slop) = b + slop := by rw [IntKind.wrap_i64]; omega
      have HCS := Lib.hid hcsn
      have HST2 := Lib.hid hst
      have HNX := Lib.hid hnx
      clear hcs hst hcsn hb HST HB hnx
      go_wp2
      obtain ⟨wo, rfl⟩ : ∃ wo : World, wo = wr := ⟨_, rfl⟩
      clear cs
      go_loopw [11, 12, 13, 25] (fun s11 s12 s13 s25 wr => ∃ (i : Nat) (ats : List Nat) (t12 t13 : Value), s11 = .bool ((ms.take i).all fun l => hasIn l b (b + slop)) ∧ s12 = t12 ∧ s13 = t13 ∧ s25 = .int .i64 (i : Nat) ∧ i ≤ ms.length ∧ RowKit.Hid (BegS w wr g ms.length ats ms b)) (fun _ _ _ s25 _ => ms.length - (intOf s25).toNat)
      case atStart => exact ⟨0, ats, _, _, by rw [List.take_zero]; rfl, rfl, rfl, rfl, Nat.zero_le _, HST2⟩
      case round =>
        clear HST2
        obtain ⟨i, ats, t12, t13, rfl, rfl, rfl, rfl, hi, HST⟩ := hrel
        by_cases hil : i < ms.length
        · have i1 : (i : Int) < (ms.length : Int) := by omega
          obtain ⟨bm, om, rfl, hcm⟩ := HM.out.2 (by omega)
          obtain ⟨A8, C8, cm0, hrm⟩ := hcm i hil
          have cm := (HST.out.below.cell (p := ⟨bm, om + i, none⟩) (World.block_lt_of_cell? w _ cm0)).trans cm0
          have hso := HSO.out i hil
          have hat := all_take ms (fun l => hasIn l b (b + slop)) i hil
          obtain ⟨m, hm⟩ : ∃ m, ms[i] = m := ⟨_, rfl⟩
          rw [hm] at cm hrm hso hat
          have HM1 := Lib.hid hm
          have HAT := Lib.hid hat
          have HSO2 := Lib.hid hso
          have HR := Lib.hid hrm
          clear hcm hrm hso hat hm cm0
          go_wp2
          clear cm
          obtain ⟨wq, rfl⟩ : ∃ wq : World, wq = wr := ⟨_, rfl⟩
          go_loopw [47] (fun s47 wr => ∃ (ats : List Nat) (t47 : Value), s47 = t47 ∧ RowKit.Hid (BegS w wr g ms.length ats ms b)) (fun _ wr => m.length - (intOf ((wr.cell? ⟨g, i, none⟩).getD .nilIface)).toNat)
          case atStart => exact ⟨ats, _, rfl, HST⟩
          case round =>
            clear HST
            obtain ⟨ats, t47, rfl, HST⟩ := hrel
            have hia : i < ats.length := by rw [HST.out.len]; exact hil
            have ca := HST.out.cell hia
            have hA := HST.out.at' hil HM1.out hia
            obtain ⟨hm1, hm2⟩ := HSO2.out
            have hfr := HST.out.own.frozen i
            have hup := HST.out.up' hil HM1.out hia
            have hfin := hA.fin hm1 (hi := b + slop)
            have hle := hA.1
            obtain ⟨q, hq⟩ : ∃ q, ats[i] = q := ⟨_, rfl⟩
            by_cases hqm : q < m.length
            · obtain ⟨b8, o8, rfl, hcv⟩ := (rd_il (HR.out.below HST.out.below (Nat.le_refl _))).2 (by omega)
              have cy := hcv q hqm
              have i3 : (q : Int) < (m.length : Int) := by omega
              have t1 : decide (q < m.length) = true := decide_eq_true hqm
              obtain ⟨y, hy⟩ : ∃ y, m[q] = y := ⟨_, rfl⟩
              rw [hy] at cy
              by_cases hlt : y < b
              · have t2 : decide (y < b) = true := decide_eq_true hlt
                have hup2 := hup (by rw [hq]; exact hqm) (by simp only [hq]; rw [hy]; exact hlt)
                have hcell2 := hup2.cell (i := i) (by rw [List.length_set]; exact hia)
                simp only [List.getElem_set_self] at hcell2
                rw [hq] at ca hup2 hcell2
                have HUP := Lib.hid hup2
                have HC2 := Lib.hid hcell2
                have HCA := Lib.hid ca
                clear hup hup2 hcell2 hA hfin hy hq hcv hm1
                go_wp2
                go_roundw
                case rel => exact ⟨_, _, rfl, HUP⟩
                case measure =>
                  rw [HCA.out]
                  first
                    | (rw [HC2.out]; simp [intOf]; omega)
                    | (have h9 := HC2.out; simp at h9 ⊢; rw [h9]; simp [intOf]; omega)
              · have t2 : decide (y < b) = false := decide_eq_false hlt
                have hfin := hfin (fun hk => by simp only [hq]; rw [hy]; omega)
                rw [dif_pos (by rw [hq]; exact hqm)] at hfin
                simp only [hq] at hfin
                rw [hy] at hfin
                rw [hq] at ca
                clear hup hA hy hq hcv hm1
                have HAT2 := Lib.hid (show ((ms.take (i + 1)).all fun l => hasIn l b (b + slop)) = (((ms.take i).all fun l => hasIn l b (b + slop)) && decide (y ≤ b + slop)) by rw [HAT.out, hfin])
                clear hfin
                cases hok : ((ms.take i).all fun l => hasIn l b (b + slop)) with
                | true =>
                  have HW := Lib.hid (show ((ms.take (i + 1)).all fun l => hasIn l b (b + slop)) = decide (y ≤ b + slop) by rw [HAT2.out, hok, Bool.true_and])
                  clear hok HAT2
                  go_wp2
                  go_roundw
                  case rel => exact ⟨i + 1, ats, _, _, by rw [HW.out], rfl, rfl, by go_num, by omega, HST⟩
                  case measure => simp [intOf]; omega
                | false =>
                  have HW := Lib.hid (show ((ms.take (i + 1)).all fun l => hasIn l b (b + slop)) = false by rw [HAT2.out, hok, Bool.false_and])
                  clear hok HAT2
                  go_wp2
                  go_roundw
                  case rel => exact ⟨i + 1, ats, _, _, by rw [HW.out], rfl, rfl, by go_num, by omega, HST⟩
                  case measure => simp [intOf]; omega
            · have t1 : decide (q < m.length) = false := decide_eq_false hqm
              have hfin := hfin (fun hk => by rw [hq] at hk; exact absurd hk hqm)
              rw [dif_neg (by rw [hq]; exact hqm)] at hfin
              rw [hq] at ca
              clear hup hA hq hm1
              have HAT2 := Lib.hid (show ((ms.take (i + 1)).all fun l => hasIn l b (b + slop)) = (((ms.take i).all fun l => hasIn l b (b + slop)) && false) by rw [HAT.out, hfin])
              clear hfin
              cases hok : ((ms.take i).all fun l => hasIn l b (b + slop)) with
              | true =>
                have HW := Lib.hid (show ((ms.take (i + 1)).all fun l => hasIn l b (b + slop)) = false by rw [HAT2.out, hok, Bool.true_and])
                clear hok HAT2
                go_wp2
                go_roundw
                case rel => exact ⟨i + 1, ats, _, _, by rw [HW.out], rfl, rfl, by go_num, by omega, HST⟩
                case measure => simp [intOf]; omega
              | false =>
                have HW := Lib.hid (show ((ms.take (i + 1)).all fun l => hasIn l b (b + slop)) = false by rw [HAT2.out, hok, Bool.false_and])
                clear hok HAT2
                go_wp2
                go_roundw
                case rel => exact ⟨i + 1, ats, _, _, by rw [HW.out], rfl, rfl, by go_num, by omega, HST⟩
                case measure => simp [intOf]; omega
        · obtain rfl : i = ms.length := by omega
          have i1 : ¬ ((ms.length : Int) < (ms.length : Int)) := by omega
          rw [List.take_length]
          have hstn : RowKit.Hid (∀ (h : k + 1 < S.length), BegS w wr g ms.length ats ms S[k + 1]) := Lib.hid (fun h => HST.out.mono (Int.le_of_lt (HNX.out h)))
          have HB := Lib.hid HST.out.below
          clear HST
          cases hok : (ms.all fun l => hasIn l b (b + slop)) with
          | true =>
            have HC2 := Lib.hid (show cn + 1 = cntV (S.take (k + 1)) ms slop by rw [HCS.out, if_pos hok, ← HC.out])
            clear hok
            go_wp2
            go_roundw
            case rel => exact ⟨k + 1, cn + 1, ats, _, _, _, _, by go_num, rfl, rfl, rfl, rfl, by go_num, by omega, HC2, by omega, hstn, HB⟩
            case measure => simp [intOf]; omega
          | false =>
            have HC2 := Lib.hid (show cn = cntV (S.take (k + 1)) ms slop by rw [HCS.out, if_neg (by rw [hok]; decide), ← HC.out]; rfl)
            clear hok
            go_wp2
            go_roundw
            case rel => exact ⟨k + 1, cn, ats, _, _, _, _, rfl, rfl, rfl, rfl, rfl, by go_num, by omega, HC2, by omega, hstn, HB⟩
            case measure => simp [intOf]; omega
    · obtain rfl : k = S.length := by omega
      have k1 : ¬ ((S.length : Int) < (S.length : Int)) := by omega
      rw [List.take_length] at HC
      clear HST
      go_wp2
      go_ret
      exact ⟨by rw [HC.out]; rfl, HB.out⟩
end Go.Proofs.YtaijepjhmjjecaaDoor
