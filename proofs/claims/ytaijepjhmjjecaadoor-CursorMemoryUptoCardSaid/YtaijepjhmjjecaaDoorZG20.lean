/- Merged: Beg, Shelf, SortI, PhS. -/
import Derived.Test.YtaijepjhmjjecaaDoorZRPh
import Derived.Shelf.Sort.Plain
import Derived.Ground.Names2Prog
import Derived.Shelf.Slices.CompactI
import Derived.Shelf.Slices.In.SortNone
import Derived.Test.YtaijepjhmjjecaaDoorProg
import Derived.Test.YtaijepjhmjjecaaDoorZG17
import Derived.Test.YtaijepjhmjjecaaDoorZG1
import Derived.Sort.OwnSorted
/- cursor: begins. -/
namespace Go.Proofs.YtaijepjhmjjecaaDoor
set_option linter.unusedVariables false
open Go.ChangeShapes Go.WideShapes Go.ChangeAt Go.RowKit

theorem madeN8 (n : Nat) : madeCells #[.int .i64 0] n = (intL (List.replicate n 0)).toArray := by
  refine Array.ext (by rw [size_madeCells]; simp [intL]) fun i h1 h2 => ?_
  simp [madeCells, intL, Nat.mod_one]
/-- The places that go along. -/
structure BegS (w wr : World) (g N : Nat) (ats : List Nat) (ms : List (List Int)) (b : Int) : Prop where
  own : Own wr w.heap.size 3 (.slice (some ⟨g, 0, none⟩) N N) (intL (ats.map fun k : Nat => (k : Int)))
  below : Below w.heap.size w wr
  len : ats.length = ms.length
  at_ : ∀ (i : Nat) (h : i < ats.length) (h2 : i < ms.length), AtS ms[i] b ats[i]
theorem BegS.mono {w wr : World} {g N : Nat} {ats : List Nat} {ms : List (List Int)} {b c : Int} (h : BegS w wr g N ats ms b) (hbc : b ≤ c) : BegS w wr g N ats ms c :=
  ⟨h.own, h.below, h.len, fun i h1 h2 => (h.at_ i h1 h2).mono hbc⟩
theorem BegS.drewN {w wr : World} {g N : Nat} {ats : List Nat} {ms : List (List Int)} {b : Int} (h : BegS w wr g N ats ms b) (d : Nat) : BegS w (wr.drewN d) g N ats ms b :=
  ⟨h.own.drewN d, below_drewN h.below d, h.len, h.at_⟩
theorem BegS.cell {w wr : World} {g N : Nat} {ats : List Nat} {ms : List (List Int)} {b : Int} (h : BegS w wr g N ats ms b) {i : Nat} (hi : i < ats.length) : wr.cell? ⟨g, i, none⟩ = some (.int .i64 (ats[i] : Nat)) := by
  refine h.own.get ?_
  rw [intL_get _ i (by simpa using hi)]
  simp
theorem BegS.up {w wr : World} {g N : Nat} {ats : List Nat} {ms : List (List Int)} {b : Int} (h : BegS w wr g N ats ms b) {i : Nat} (hi : i < ats.length) (hm : i < ms.length) (hk : ats[i] < ms[i].length) (hlt : ms[i][ats[i]] < b) :
    BegS w (wr.setCell ⟨g, i, none⟩ (.int .i64 ((ats[i] + 1 : Nat) : Int))) g N (ats.set i (ats[i] + 1)) ms b := by
  have hg : w.heap.size ≤ g := (h.own.lt g rfl).1
  refine ⟨?_, h.below.setCell (p := ⟨g, i, none⟩) hg _, by rw [List.length_set]; exact h.len, fun j h1 h2 => ?_⟩
  · have h9 := h.own.set i (.int .i64 ((ats[i] + 1 : Nat) : Int))
    refine own_to h9 ?_
    simp [intL, List.map_set]
  · by_cases e : j = i
    · subst e
      simp only [List.getElem_set_self]
      exact (h.at_ j hi hm).up hk hlt
    · rw [List.getElem_set_ne (fun e2 => e e2.symm)]
      exact h.at_ j (by rwa [List.length_set] at h1) h2
theorem BegS.up' {w wr : World} {g N : Nat} {ats : List Nat} {ms : List (List Int)} {b : Int} (h : BegS w wr g N ats ms b) {i : Nat} (hm : i < ms.length) {m : List Int} (he : ms[i] = m) (hi : i < ats.length) (hk : ats[i] < m.length) (hlt : m[ats[i]] < b) :
    BegS w (wr.setCell ⟨g, i, none⟩ (.int .i64 ((ats[i] + 1 : Nat) : Int))) g N (ats.set i (ats[i] + 1)) ms b := by
  subst he; exact h.up hi hm hk hlt
theorem BegS.at' {w wr : World} {g N : Nat} {ats : List Nat} {ms : List (List Int)} {b : Int} (h : BegS w wr g N ats ms b) {i : Nat} (hm : i < ms.length) {m : List Int} (he : ms[i] = m) (hi : i < ats.length) : AtS m b ats[i] := by
  subst he; exact h.at_ i hi hm
set_option maxRecDepth 100000 in
set_option maxHeartbeats 16000000 in
theorem beg_any (w : World) (a : Option Addr) (n c : Nat) (S : List Int) (hS : Rd w (.slice a n c) (intL S)) (rS : Rise S) (a2 : Option Addr) (n2 c2 : Nat) (ms : List (List Int)) (hM : RdLL w a2 n2 ms) (hs : ∀ (k : Nat) (h : k < ms.length), ms[k].Pairwise (· ≤ ·) ∧ ms[k].length ≤ 10000000)
    (slop : Int) (hs0 : 0 ≤ slop) (hs1 : slop ≤ 2147483647) (hSb : ∀ z ∈ S, -4294967296 ≤ z ∧ z ≤ 4294967296) (hSl : S.length ≤ 10000000) (hml : ms.length ≤ 10000000) :
    Calls Tryd.prog 37 #[.slice a n c, .slice a2 n2 c2, .int .i64 slop] w fun e w' => e = .returned (.int .i64 (cntV S ms slop : Nat)) ∧ Below w.heap.size w w' := by
  obtain ⟨rfl, hc⟩ := rd_il hS
  obtain rfl := hM.1
  have hmk := make_row (P := Tryd.prog) elIL rfl ms.length (by omega) (ms.length : Int) rfl
  have hst0 : ∀ b, BegS w (w.alloc (.cells (madeCells #[.int .i64 0] ms.length) 3)) w.heap.size ms.length (List.replicate ms.length 0) ms b := fun b => by
    refine ⟨?_, (Below.refl _ _).alloc (Nat.le_refl _) _, by simp, fun i h1 h2 => by rw [List.getElem_replicate]; exact AtS.zero _ _⟩
    have h9 := own_lit w w.heap.size 3 (intL (List.replicate ms.length 0)) (Nat.le_refl _) (by rw [intL_length, List.length_replicate]; unfold maxLen; omega)
    rw [← madeN8, intL_length, List.length_replicate] at h9
    refine own_to h9 ?_
    simp
  have HS := Lib.hid hS
  have HM := Lib.hid hM
  have RS := Lib.hid rS
  have HSO := Lib.hid hs
  have HSB := Lib.hid hSb
  have HST0 := Lib.hid hst0
  clear hS hM rS hs hSb hst0 hc
  go_enter Tryd.func37, Tryd.ntmps37
  go_upto_region 2 with fail
  generalize w.alloc (.cells (madeCells #[.int .i64 0] ms.length) 3) = w1 at HST0 ⊢
  clear hmk
  generalize w.heap.size = g at HST0 ⊢
  go_wp2
  go_loopw [8, 10, 11, 12, 13, 19] (fun s8 s10 s11 s12 s13 s19 wr => ∃ (k cn : Nat) (ats : List Nat) (t10 t11 t12 t13 : Value), s8 = .int .i64 (cn : Nat) ∧ s10 = t10 ∧ s11 = t11 ∧ s12 = t12 ∧ s13 = t13 ∧ s19 = .int .i64 (k : Nat) ∧ k ≤ S.length ∧ RowKit.Hid (cn = cntV (S.take k) ms slop) ∧ cn ≤ k ∧ RowKit.Hid (∀ (h : k < S.length), BegS w wr g ms.length ats ms S[k]) ∧ RowKit.Hid (Below w.heap.size w wr)) (fun _ _ _ _ _ s19 _ => S.length - (intOf s19).toNat)
  case atStart => exact ⟨0, 0, _, _, _, _, _, rfl, rfl, rfl, rfl, rfl, rfl, Nat.zero_le _, Lib.hid (by rw [List.take_zero]; rfl), Nat.le_refl _, Lib.hid (fun _ => HST0.out _), Lib.hid (HST0.out 0).below⟩
  case round =>
    clear HST0
    obtain ⟨k, cn, ats, t10, t11, t12, t13, rfl, rfl, rfl, rfl, rfl, rfl, hk, HC, hcn, HST, HB⟩ := hrel
    by_cases hkl : k < S.length
    · have k1 : (k : Int) < (S.length : Int) := by omega
      obtain ⟨bs, os_, rfl, hcs⟩ := (rd_il (HS.out.below HB.out (Nat.le_refl _))).2 (by omega)
      have cs := hcs k hkl
      have hbk := HSB.out S[k] (List.getElem_mem hkl)
      have hst := HST.out hkl
      have hcsn := cntV_snoc (S.take k) S[k] ms slop
      rw [← List.take_succ_eq_append_getElem hkl] at hcsn
      have hnx : ∀ (h : k + 1 < S.length), S[k] < S[k + 1] := fun h => List.pairwise_iff_getElem.1 RS.out k (k + 1) hkl h (by omega)
      obtain ⟨b, hb⟩ : ∃ b, S[k] = b := ⟨_, rfl⟩
      rw [hb] at cs hbk hst hcsn
      simp only [hb] at hnx
      have s1 : IntKind.i64.wrap (b + slop) = b + slop := by rw [IntKind.wrap_i64]; omega
      have HCS := Lib.hid hcsn
      have HST2 := Lib.hid hst
      have HNX := Lib.hid hnx
      clear hcs hst hcsn hb HST HB hnx
      go_wp2
      obtain ⟨wo, rfl⟩ : ∃ wo : World, wo = wr := ⟨_, rfl⟩
      clear cs
      go_loopw [11, 12, 13, 25] (fun s11 s12 s13 s25 wr => ∃ (i : Nat) (ats : List Nat) (t12 t13 : Value), s11 = .bool ((ms.take i).all fun l => hasIn l b (b + slop)) ∧ s12 = t12 ∧ s13 = t13 ∧ s25 = .int .i64 (i : Nat) ∧ i ≤ ms.length ∧ RowKit.Hid (BegS w wr g ms.length ats ms b)) (fun _ _ _ s25 _ => ms.length - (intOf s25).toNat)
      case atStart => exact ⟨0, ats, _, _, by rw [List.take_zero]; rfl, rfl, rfl, rfl, Nat.zero_le _, HST2⟩
      case round =>
        clear HST2
        obtain ⟨i, ats, t12, t13, rfl, rfl, rfl, rfl, hi, HST⟩ := hrel
        by_cases hil : i < ms.length
        · have i1 : (i : Int) < (ms.length : Int) := by omega
          obtain ⟨bm, om, rfl, hcm⟩ := HM.out.2 (by omega)
          obtain ⟨A8, C8, cm0, hrm⟩ := hcm i hil
          have cm := (HST.out.below.cell (p := ⟨bm, om + i, none⟩) (World.block_lt_of_cell? w _ cm0)).trans cm0
          have hso := HSO.out i hil
          have hat := all_take ms (fun l => hasIn l b (b + slop)) i hil
          obtain ⟨m, hm⟩ : ∃ m, ms[i] = m := ⟨_, rfl⟩
          rw [hm] at cm hrm hso hat
          have HM1 := Lib.hid hm
          have HAT := Lib.hid hat
          have HSO2 := Lib.hid hso
          have HR := Lib.hid hrm
          clear hcm hrm hso hat hm cm0
          go_wp2
          clear cm
          obtain ⟨wq, rfl⟩ : ∃ wq : World, wq = wr := ⟨_, rfl⟩
          go_loopw [47] (fun s47 wr => ∃ (ats : List Nat) (t47 : Value), s47 = t47 ∧ RowKit.Hid (BegS w wr g ms.length ats ms b)) (fun _ wr => m.length - (intOf ((wr.cell? ⟨g, i, none⟩).getD .nilIface)).toNat)
          case atStart => exact ⟨ats, _, rfl, HST⟩
          case round =>
            clear HST
            obtain ⟨ats, t47, rfl, HST⟩ := hrel
            have hia : i < ats.length := by rw [HST.out.len]; exact hil
            have ca := HST.out.cell hia
            have hA := HST.out.at' hil HM1.out hia
            obtain ⟨hm1, hm2⟩ := HSO2.out
            have hfr := HST.out.own.frozen i
            have hup := HST.out.up' hil HM1.out hia
            have hfin := hA.fin hm1 (hi := b + slop)
            have hle := hA.1
            obtain ⟨q, hq⟩ : ∃ q, ats[i] = q := ⟨_, rfl⟩
            by_cases hqm : q < m.length
            · obtain ⟨b8, o8, rfl, hcv⟩ := (rd_il (HR.out.below HST.out.below (Nat.le_refl _))).2 (by omega)
              have cy := hcv q hqm
              have i3 : (q : Int) < (m.length : Int) := by omega
              have t1 : decide (q < m.length) = true := decide_eq_true hqm
              obtain ⟨y, hy⟩ : ∃ y, m[q] = y := ⟨_, rfl⟩
              rw [hy] at cy
              by_cases hlt : y < b
              · have t2 : decide (y < b) = true := decide_eq_true hlt
                have hup2 := hup (by rw [hq]; exact hqm) (by simp only [hq]; rw [hy]; exact hlt)
                have hcell2 := hup2.cell (i := i) (by rw [List.length_set]; exact hia)
                simp only [List.getElem_set_self] at hcell2
                rw [hq] at ca hup2 hcell2
                have HUP := Lib.hid hup2
                have HC2 := Lib.hid hcell2
                have HCA := Lib.hid ca
                clear hup hup2 hcell2 hA hfin hy hq hcv hm1
                go_wp2
                go_roundw
                case rel => exact ⟨_, _, rfl, HUP⟩
                case measure =>
                  rw [HCA.out]
                  first
                    | (rw [HC2.out]; simp [intOf]; omega)
                    | (have h9 := HC2.out; simp at h9 ⊢; rw [h9]; simp [intOf]; omega)
              · have t2 : decide (y < b) = false := decide_eq_false hlt
                have hfin := hfin (fun hk => by simp only [hq]; rw [hy]; omega)
                rw [dif_pos (by rw [hq]; exact hqm)] at hfin
                simp only [hq] at hfin
                rw [hy] at hfin
                rw [hq] at ca
                clear hup hA hy hq hcv hm1
                have HAT2 := Lib.hid (show ((ms.take (i + 1)).all fun l => hasIn l b (b + slop)) = (((ms.take i).all fun l => hasIn l b (b + slop)) && decide (y ≤ b + slop)) by rw [HAT.out, hfin])
                clear hfin
                cases hok : ((ms.take i).all fun l => hasIn l b (b + slop)) with
                | true =>
                  have HW := Lib.hid (show ((ms.take (i + 1)).all fun l => hasIn l b (b + slop)) = decide (y ≤ b + slop) by rw [HAT2.out, hok, Bool.true_and])
                  clear hok HAT2
                  go_wp2
                  go_roundw
                  case rel => exact ⟨i + 1, ats, _, _, by rw [HW.out], rfl, rfl, by go_num, by omega, HST⟩
                  case measure => simp [intOf]; omega
                | false =>
                  have HW := Lib.hid (show ((ms.take (i + 1)).all fun l => hasIn l b (b + slop)) = false by rw [HAT2.out, hok, Bool.false_and])
                  clear hok HAT2
                  go_wp2
                  go_roundw
                  case rel => exact ⟨i + 1, ats, _, _, by rw [HW.out], rfl, rfl, by go_num, by omega, HST⟩
                  case measure => simp [intOf]; omega
            · have t1 : decide (q < m.length) = false := decide_eq_false hqm
              have hfin := hfin (fun hk => by rw [hq] at hk; exact absurd hk hqm)
              rw [dif_neg (by rw [hq]; exact hqm)] at hfin
              rw [hq] at ca
              clear hup hA hq hm1
              have HAT2 := Lib.hid (show ((ms.take (i + 1)).all fun l => hasIn l b (b + slop)) = (((ms.take i).all fun l => hasIn l b (b + slop)) && false) by rw [HAT.out, hfin])
              clear hfin
              cases hok : ((ms.take i).all fun l => hasIn l b (b + slop)) with
              | true =>
                have HW := Lib.hid (show ((ms.take (i + 1)).all fun l => hasIn l b (b + slop)) = false by rw [HAT2.out, hok, Bool.true_and])
                clear hok HAT2
                go_wp2
                go_roundw
                case rel => exact ⟨i + 1, ats, _, _, by rw [HW.out], rfl, rfl, by go_num, by omega, HST⟩
                case measure => simp [intOf]; omega
              | false =>
                have HW := Lib.hid (show ((ms.take (i + 1)).all fun l => hasIn l b (b + slop)) = false by rw [HAT2.out, hok, Bool.false_and])
                clear hok HAT2
                go_wp2
                go_roundw
                case rel => exact ⟨i + 1, ats, _, _, by rw [HW.out], rfl, rfl, by go_num, by omega, HST⟩
                case measure => simp [intOf]; omega
        · obtain rfl : i = ms.length := by omega
          have i1 : ¬ ((ms.length : Int) < (ms.length : Int)) := by omega
          rw [List.take_length]
          have hstn : RowKit.Hid (∀ (h : k + 1 < S.length), BegS w wr g ms.length ats ms S[k + 1]) := Lib.hid (fun h => HST.out.mono (Int.le_of_lt (HNX.out h)))
          have HB := Lib.hid HST.out.below
          clear HST
          cases hok : (ms.all fun l => hasIn l b (b + slop)) with
          | true =>
            have HC2 := Lib.hid (show cn + 1 = cntV (S.take (k + 1)) ms slop by rw [HCS.out, if_pos hok, ← HC.out])
            clear hok
            go_wp2
            go_roundw
            case rel => exact ⟨k + 1, cn + 1, ats, _, _, _, _, by go_num, rfl, rfl, rfl, rfl, by go_num, by omega, HC2, by omega, hstn, HB⟩
            case measure => simp [intOf]; omega
          | false =>
            have HC2 := Lib.hid (show cn = cntV (S.take (k + 1)) ms slop by rw [HCS.out, if_neg (by rw [hok]; decide), ← HC.out]; rfl)
            clear hok
            go_wp2
            go_roundw
            case rel => exact ⟨k + 1, cn, ats, _, _, _, _, rfl, rfl, rfl, rfl, rfl, by go_num, by omega, HC2, by omega, hstn, HB⟩
            case measure => simp [intOf]; omega
    · obtain rfl : k = S.length := by omega
      have k1 : ¬ ((S.length : Int) < (S.length : Int)) := by omega
      rw [List.take_length] at HC
      clear HST
      go_wp2
      go_ret
      exact ⟨by rw [HC.out]; rfl, HB.out⟩
end Go.Proofs.YtaijepjhmjjecaaDoor

/-
  DERIVED: THE SHELF's CONTRACTS AT THIS DUMP, IN PLAIN WORDS (tools/lay-plain.mjs out of 'YtaijepjhmjjecaaDoorShelf.lean', which tools/lay-shelf.mjs wrote): THE SAME DECLARATIONS UNDER THE SAME NAMES: 'import', 'namespace', 'open', 'def', 'theorem' AND NOTHING ELSE: no command of the shelf's: FOR A HAND-IN. Each laying: the table of numbers ('.._ren') and one theorem, a field a fact of the dump's own or the kernel's comparison; each contract: ONE APPLICATION.
-/
namespace Go.Proofs
open Go.Shelf
def Tryd.lays189_ren : Go.Shelf.Ren := ⟨fun | 189 => 36 | 125 => 72 | 257 => 71 | 128 => 98 | 129 => 99 | 294 => 89 | 295 => 90 | 296 => 91 | 297 => 92 | 298 => 93 | 299 => 94 | 216 => 95 | 300 => 96 | 301 => 97 | 328 => 115 | 329 => 116 | 330 => 117 | 331 => 118 | 332 => 119 | 215 => 120 | 343 => 123 | n => n, fun | 28 => 23 | 3 => 3 | 46 => 28 | 0 => 0 | 51 => 140 | 53 => 104 | 4 => 4 | 183 => 133 | 182 => 132 | 131 => 137 | 5 => 5 | 9 => 9 | 218 => 165 | 222 => 169 | 228 => 173 | 229 => 174 | n => n, fun | n => n⟩
theorem Tryd.lays189 : Go.Proofs.Lays.n189 Tryd.prog Tryd.lays189_ren := {
  mixed := by kernel_rfl
  f125 := Tryd.func72.trans (congrArg some (by kernel_rfl))
  f128 := Tryd.func98.trans (congrArg some (by kernel_rfl))
  f129 := Tryd.func99.trans (congrArg some (by kernel_rfl))
  f189 := Tryd.func36.trans (congrArg some (by kernel_rfl))
  f215 := Tryd.func120.trans (congrArg some (by kernel_rfl))
  f216 := Tryd.func95.trans (congrArg some (by kernel_rfl))
  f257 := Tryd.func71.trans (congrArg some (by kernel_rfl))
  f294 := Tryd.func89.trans (congrArg some (by kernel_rfl))
  f295 := Tryd.func90.trans (congrArg some (by kernel_rfl))
  f296 := Tryd.func91.trans (congrArg some (by kernel_rfl))
  f297 := Tryd.func92.trans (congrArg some (by kernel_rfl))
  f298 := Tryd.func93.trans (congrArg some (by kernel_rfl))
  f299 := Tryd.func94.trans (congrArg some (by kernel_rfl))
  f300 := Tryd.func96.trans (congrArg some (by kernel_rfl))
  f301 := Tryd.func97.trans (congrArg some (by kernel_rfl))
  f328 := Tryd.func115.trans (congrArg some (by kernel_rfl))
  f329 := Tryd.func116.trans (congrArg some (by kernel_rfl))
  f330 := Tryd.func117.trans (congrArg some (by kernel_rfl))
  f331 := Tryd.func118.trans (congrArg some (by kernel_rfl))
  f332 := Tryd.func119.trans (congrArg some (by kernel_rfl))
  f343 := Tryd.func123.trans (congrArg some (by kernel_rfl))
  t0 := Tryd.underlying0
  a0 := Tryd.isAgg0
  z0 := Tryd.sizeOf0
  v0 := Tryd.zeroValue0
  t3 := Tryd.underlying3
  a3 := Tryd.isAgg3
  z3 := Tryd.sizeOf3
  v3 := Tryd.zeroValue3
  t4 := Tryd.underlying4
  a4 := Tryd.isAgg4
  z4 := Tryd.sizeOf4
  v4 := Tryd.zeroValue4
  t5 := Tryd.underlying5
  a5 := Tryd.isAgg5
  z5 := Tryd.sizeOf5
  v5 := Tryd.zeroValue5
  t9 := Tryd.underlying9
  a9 := Tryd.isAgg9
  z9 := Tryd.sizeOf9
  v9 := Tryd.zeroValue9
  t28 := Tryd.underlying23
  a28 := Tryd.isAgg23
  z28 := Tryd.sizeOf23
  v28 := Tryd.zeroValue23
  t46 := Tryd.underlying28
  a46 := Tryd.isAgg28
  z46 := Tryd.sizeOf28
  v46 := Tryd.zeroValue28
  t51 := Tryd.underlying140
  a51 := Tryd.isAgg140
  z51 := Tryd.sizeOf140
  v51 := Tryd.zeroValue140
  t53 := Tryd.underlying104
  a53 := Tryd.isAgg104
  z53 := Tryd.sizeOf104
  v53 := Tryd.zeroValue104
  t131 := Tryd.underlying137
  a131 := Tryd.isAgg137
  z131 := Tryd.sizeOf137
  v131 := Tryd.zeroValue137
  t182 := Tryd.underlying132
  a182 := Tryd.isAgg132
  z182 := Tryd.sizeOf132
  v182 := Tryd.zeroValue132
  t183 := Tryd.underlying133
  a183 := Tryd.isAgg133
  z183 := Tryd.sizeOf133
  v183 := Tryd.zeroValue133
  t218 := Tryd.underlying165
  a218 := Tryd.isAgg165
  z218 := Tryd.sizeOf165
  v218 := Tryd.zeroValue165
  t222 := Tryd.underlying169
  a222 := Tryd.isAgg169
  z222 := Tryd.sizeOf169
  v222 := Tryd.zeroValue169
  t228 := Tryd.underlying173
  a228 := Tryd.isAgg173
  z228 := Tryd.sizeOf173
  v228 := Tryd.zeroValue173
  t229 := Tryd.underlying174
  a229 := Tryd.isAgg174
  z229 := Tryd.sizeOf174
  v229 := Tryd.zeroValue174 }
open Go.Sort Go.RowKit in
theorem Tryd.slices_Sort_int (blk off cap : Nat) (zs : List Int) (w : World) (hH : Holds (Value.int .i64) w blk off zs.toArray) (hblk : blk < w.heap.size) (hsz : zs.length < 4611686018427387904) :
    Calls Tryd.prog 36 #[.slice (some ⟨blk, off, none⟩) zs.length cap] w fun e w' =>
      e = .returned (.tuple #[]) ∧ ∃ n os, w' = grow (putRow (Value.int .i64) (Sort.ahead w n) blk off (zs.mergeSort fun x y => decide (x ≤ y)).toArray) os := Any.slices_Sort_int Tryd.lays189 blk off cap zs w hH hblk hsz
def Tryd.laysNm220_ren : Go.Shelf.Ren := ⟨fun | 20 => 38 | n => n, fun | 22 => 23 | 3 => 3 | 4 => 4 | 0 => 0 | n => n, fun | n => n⟩
theorem Tryd.laysNm220 : Go.Proofs.Lays2.n20 Tryd.prog Tryd.laysNm220_ren := {
  mixed := by kernel_rfl
  f20 := Tryd.func38.trans (congrArg some (by kernel_rfl))
  t0 := Tryd.underlying0
  a0 := Tryd.isAgg0
  z0 := Tryd.sizeOf0
  v0 := Tryd.zeroValue0
  t3 := Tryd.underlying3
  a3 := Tryd.isAgg3
  z3 := Tryd.sizeOf3
  v3 := Tryd.zeroValue3
  t4 := Tryd.underlying4
  a4 := Tryd.isAgg4
  z4 := Tryd.sizeOf4
  v4 := Tryd.zeroValue4
  t22 := Tryd.underlying23
  a22 := Tryd.isAgg23
  z22 := Tryd.sizeOf23
  v22 := Tryd.zeroValue23
  i3 := by kernel_rfl }
open Go.RowKit Go.Lib Go.Sort in
/-- slices.Compact at []int, over an array: the library's two loops are walked. (LAID: no walk: one application.) -/
theorem Tryd.slices_Compact_int_arr (blk off cap : Nat) (d : Array Int) (w : World) (hH : Holds encI w blk off d) (hsz : d.size ≤ 9223372036854775807) (hcap : d.size ≤ cap) :
    Calls Tryd.prog 38 #[.slice (some ⟨blk, off, none⟩) d.size cap] w fun e w' => e = .returned (.slice (some ⟨blk, off, none⟩) (compactUpTo d d.size).length cap) ∧ ∃ q, w' = putRow encI (Sort.ahead w q) blk off (compactUpTo d d.size ++ List.replicate (d.size - (compactUpTo d d.size).length) 0).toArray := Any.slices_Compact_int_arr Tryd.laysNm220 blk off cap d w hH hsz hcap
open Go.RowKit Go.Lib Go.Sort in
/-- slices.Compact at []int: "Compact replaces consecutive runs of equal elements with a single copy. This is like the uniq command found on Unix. Compact modifies the contents of the slice s and returns the modified slice, which may have a smaller length. Compact zeroes the elements between the new length and the original length. The result preserves the nilness of s.": IT RETURNS THE SLICE CUT TO 'Lib.compact zs'; ITS CELLS HOLD 'Lib.compact zs', THEN ZERO VALUES up to the old length; all else is as it was, but for the count of draws. IN THE WORDS OF slices.Sort's CONTRACT ('Holds', 'putRow'): so the everyday 'slices.Sort(xs); xs = slices.Compact(xs)' goes from the one contract to the other. It asks 'zs.length ≤ cap' (every slice's: the reslicing 's[:k]' looks at it). Length 0, nil: '.._empty'. (LAID: no walk: one application.) -/
theorem Tryd.slices_Compact_int (blk off cap : Nat) (zs : List Int) (w : World) (hH : Holds (Value.int .i64) w blk off zs.toArray) (hsz : zs.length ≤ 9223372036854775807) (hcap : zs.length ≤ cap) :
    Calls Tryd.prog 38 #[.slice (some ⟨blk, off, none⟩) zs.length cap] w fun e w' => e = .returned (.slice (some ⟨blk, off, none⟩) (Lib.compact zs).length cap) ∧ ∃ q, w' = putRow (Value.int .i64) (Sort.ahead w q) blk off (Lib.compact zs ++ List.replicate (zs.length - (Lib.compact zs).length) 0).toArray := Any.slices_Compact_int Tryd.laysNm220 blk off cap zs w hH hsz hcap
open Go.RowKit Go.Lib Go.Sort in
/-- The same at a slice of length 0, a nil one too: it comes back as it is. (LAID: no walk: one application.) -/
theorem Tryd.slices_Compact_int_empty (a : Option Addr) (cap : Nat) (w : World) :
    Calls Tryd.prog 38 #[.slice a 0 cap] w fun e w' => e = .returned (.slice a 0 cap) ∧ w' = w := Any.slices_Compact_int_empty Tryd.laysNm220 a cap w
open Go.RowKit Go.Sort in
/-- .. and plain. (LAID: no walk: one application.) -/
theorem Tryd.slices_Sort_int_none (p : Option Addr) (cap : Nat) (w : World) :
    Calls Tryd.prog 36 #[.slice p 0 cap] w fun e w' => e = .returned (.tuple #[]) ∧ w' = w := Any.slices_Sort_int_none Tryd.lays189 p cap w
end Go.Proofs

/- slices.Sort and slices.Compact over lists of ints of the call's own. -/
namespace Go.Proofs.YtaijepjhmjjecaaDoor
set_option linter.unusedVariables false
open Go.ChangeShapes Go.WideShapes Go.ChangeAt Go.RowKit Go.Sort

theorem holds_ints {w : World} {g : Nat} {cur : Array Value} {e : TypeId} {ss : List Int} (hb : w.heap[g]? = some (.cells cur e (0, 0))) (ht : cur.toList.take ss.length = intL ss) : Holds (Value.int .i64) w g 0 ss.toArray := by
  intro j hj
  have hj' : j < ss.length := by simpa using hj
  refine ⟨?_, by simp [World.frozen?, hb]⟩
  have h1 : (cur.toList.take ss.length)[j]? = (intL ss)[j]? := by rw [ht]
  rw [List.getElem?_take_of_lt hj'] at h1
  simp only [World.cell?, hb, Nat.zero_add]
  simp only [Option.isSome_none, Bool.false_eq_true, if_false]
  rw [← Array.getElem?_toList, h1]
  simp [hj', intL]
theorem heap_ints {w : World} {g n : Nat} {os : Array Obj} {cur : Array Value} {e : TypeId} {fr : Nat × Nat} (d : Array Int) (hb : w.heap[g]? = some (.cells cur e fr)) :
    (grow (putRow (Value.int .i64) (Sort.ahead w n) g 0 d) os).heap[g]? = some (.cells (putCells (Value.int .i64) 0 d cur) e fr) := by
  have hg : g < w.heap.size := (Array.getElem?_eq_some_iff.1 hb).1
  rw [heap_grow_old _ _ (by simpa using hg)]
  simp [putRow, mapBlock, Sort.ahead, Array.getElem?_modify, hb, onCells]
theorem grownBy_ints {w : World} {g n : Nat} {os : Array Obj} (d : Array Int) : w.grownBy (grow (putRow (Value.int .i64) (Sort.ahead w n) g 0 d) os) (some g) := by
  refine ⟨rfl, rfl, rfl, by simp, fun k hk hne => ?_⟩
  rw [heap_grow_old _ _ (by simpa using hk)]
  have : g ≠ k := fun e => hne (by rw [e])
  simp [putRow, mapBlock, Sort.ahead, Array.getElem?_modify, this]
theorem take_putInts (cur : Array Value) (ts : List Int) (h : ts.length ≤ cur.size) : (putCells (Value.int .i64) 0 ts.toArray cur).toList.take ts.length = intL ts := by
  apply List.ext_getElem?
  intro j
  by_cases hj : j < ts.length
  · rw [List.getElem?_take_of_lt hj, Array.getElem?_toList]
    simp [putCells, hj, show j < cur.size by omega, intL]
  · rw [List.getElem?_take_eq_none (by omega), List.getElem?_eq_none (by simp [intL]; omega)]
/-- slices.Sort over a slice of the call's own. -/
theorem sorti_own (w : World) (base : Nat) (a : Option Addr) (n c : Nat) (l : List Int) (ho : Own w base 3 (.slice a n c) (intL l)) (hl : l.length ≤ 1000000000) :
    Calls Tryd.prog 36 #[.slice a n c] w fun e w' => e = .returned (.tuple #[]) ∧ Own w' base 3 (.slice a n c) (intL (l.mergeSort fun x y => decide (x ≤ y))) ∧ w.grownBy w' (Value.slice a n c).ownBlock := by
  have hn := ho.len
  rw [intL_length] at hn
  subst hn
  rcases ho with ⟨hv, h0⟩ | ⟨g, cap, cur, hv, hb, hg, hlc, hcc, hm, ht⟩
  · injection hv with h1 h2 h3
    subst h1 h3
    have hl0 : l = [] := List.eq_nil_of_length_eq_zero h2
    subst hl0
    refine (Tryd.slices_Sort_int_none none 0 w).mono ?_
    rintro e w' ⟨rfl, rfl⟩
    exact ⟨rfl, .inl ⟨rfl, by simp [intL]⟩, World.grownBy.refl _ _⟩
  · rw [intL_length] at hv hlc ht
    injection hv with h1 _ h3
    subst h1 h3
    refine (Tryd.slices_Sort_int g 0 c l w (holds_ints hg ht) (lt_of_heap hg) (by omega)).mono ?_
    rintro e w' ⟨rfl, d, os, rfl⟩
    have hlen : (l.mergeSort fun x y => decide (x ≤ y)).length = l.length := by simp
    refine ⟨rfl, .inr ⟨g, c, _, by rw [intL_length, hlen], hb, heap_ints _ hg, by rw [intL_length, hlen]; exact hlc, by simp [putCells]; exact hcc, hm, by rw [intL_length]; exact take_putInts cur _ (by omega)⟩, grownBy_ints _⟩
theorem compact_len (l : List Int) : (Lib.compact l).length ≤ l.length := by
  show (Lib.compactUpTo l.toArray l.length).length ≤ _
  unfold Lib.compactUpTo
  rw [List.length_map]
  exact Nat.le_trans (List.length_filter_le _ _) (by simp)
/-- slices.Compact over a slice of the call's own. -/
theorem compi_own (w : World) (base : Nat) (a : Option Addr) (n c : Nat) (l : List Int) (ho : Own w base 3 (.slice a n c) (intL l)) (hl : l.length ≤ 1000000000) :
    Calls Tryd.prog 38 #[.slice a n c] w fun e w' => ∃ n', e = .returned (.slice a n' c) ∧ Own w' base 3 (.slice a n' c) (intL (Lib.compact l)) ∧ w.grownBy w' (Value.slice a n c).ownBlock := by
  have hn := ho.len
  rw [intL_length] at hn
  subst hn
  rcases ho with ⟨hv, h0⟩ | ⟨g, cap, cur, hv, hb, hg, hlc, hcc, hm, ht⟩
  · injection hv with h1 h2 h3
    subst h1 h3
    have hl0 : l = [] := List.eq_nil_of_length_eq_zero h2
    subst hl0
    refine (Tryd.slices_Compact_int_empty none 0 w).mono ?_
    rintro e w' ⟨rfl, rfl⟩
    exact ⟨0, rfl, .inl ⟨rfl, by simp [intL, Lib.compact, Lib.compactUpTo]⟩, World.grownBy.refl _ _⟩
  · rw [intL_length] at hv hlc ht
    injection hv with h1 _ h3
    subst h1 h3
    refine (Tryd.slices_Compact_int g 0 c l w (holds_ints hg ht) (by omega) hlc).mono ?_
    rintro e w' ⟨rfl, d, rfl⟩
    have hle := compact_len l
    have hcl : (Lib.compact l ++ List.replicate (l.length - (Lib.compact l).length) 0).length = l.length := by simp; omega
    have hg0 := grownBy_ints (w := w) (g := g) (n := d) (os := #[]) (Lib.compact l ++ List.replicate (l.length - (Lib.compact l).length) 0).toArray
    have hh0 := heap_ints (n := d) (os := #[]) (Lib.compact l ++ List.replicate (l.length - (Lib.compact l).length) 0).toArray hg
    have he : ∀ W : World, grow W #[] = W := fun W => by simp [grow]
    rw [he] at hg0 hh0
    refine ⟨_, rfl, .inr ⟨g, c, _, by rw [intL_length], hb, hh0, by rw [intL_length]; omega, by simp [putCells]; exact hcc, hm, ?_⟩, hg0⟩
    rw [intL_length]
    have h9 := take_putInts cur (Lib.compact l ++ List.replicate (l.length - (Lib.compact l).length) 0) (by rw [hcl]; omega)
    have h10 := congrArg (List.take (Lib.compact l).length) h9
    rw [List.take_take, hcl, Nat.min_eq_left hle] at h10
    rw [h10]
    unfold intL
    rw [← List.map_take, List.take_left]
end Go.Proofs.YtaijepjhmjjecaaDoor

/- cursor: PhraseFreq: the state of its loops. -/
namespace Go.Proofs.YtaijepjhmjjecaaDoor
set_option linter.unusedVariables false
open Go.ChangeShapes Go.WideShapes Go.ChangeAt Go.RowKit

theorem alloc_cell {w : World} {p : Addr} {v : Value} (o : Obj) (h : w.cell? p = some v) : (w.alloc o).cell? p = some v :=
  (((Below.refl w.heap.size w).alloc (Nat.le_refl _) o).cell (p := p) (World.block_lt_of_cell? w _ h)).trans h
/-- The shifted lists, each in a block of its own, and all of them in one. -/
structure PhS (w wr : World) (g N : Nat) (A : Value) (vs : Nat → Value) (ys : Nat → List Int) (al : List Int) : Prop where
  top : Own wr w.heap.size 23 (.slice (some ⟨g, 0, none⟩) N N) ((List.range N).map vs)
  own : ∀ k, k < N → Own wr w.heap.size 3 (vs k) (intL (ys k))
  sep : ∀ k l b, k < N → l < N → k ≠ l → (vs k).ownBlock = some b → (vs l).ownBlock ≠ some b
  all : Own wr w.heap.size 3 A (intL al)
  sepA : ∀ k b, k < N → (vs k).ownBlock = some b → A.ownBlock ≠ some b
  below : Below w.heap.size w wr
theorem PhS.drewN {w wr : World} {g N : Nat} {A : Value} {vs : Nat → Value} {ys : Nat → List Int} {al : List Int} (h : PhS w wr g N A vs ys al) (d : Nat) : PhS w (wr.drewN d) g N A vs ys al :=
  ⟨h.top.drewN d, fun k hk => (h.own k hk).drewN d, h.sep, h.all.drewN d, h.sepA, below_drewN h.below d⟩
theorem PhS.cell {w wr : World} {g N : Nat} {A : Value} {vs : Nat → Value} {ys : Nat → List Int} {al : List Int} (h : PhS w wr g N A vs ys al) {i : Nat} (hi : i < N) : wr.cell? ⟨g, i, none⟩ = some (vs i) := h.top.get (by simp [hi])
theorem own_keptB {w w' : World} {base : Nat} {e : TypeId} {v : Value} {xs : List Value} {row : Option Nat} (h : Own w base e v xs) (hg : w.grownBy w' row) (hne : ∀ b, v.ownBlock = some b → row ≠ some b) : Own w' base e v xs :=
  h.kept hg (by
    cases hb : v.ownBlock with
    | none => exact .inl rfl
    | some b => exact .inr (fun e2 => hne b hb e2.symm))
/-- What becomes of the state when list i is grown and laid back. -/
theorem PhS.push {w wr w1 : World} {g N : Nat} {A : Value} {vs : Nat → Value} {ys : Nat → List Int} {al : List Int} {i : Nat} {v1 : Value} {x : Int} (h : PhS w wr g N A vs ys al) (hi : i < N)
    (g1 : Own w1 w.heap.size 3 v1 (intL (ys i) ++ [.int .i64 x])) (g3 : v1.ownBlock = (vs i).ownBlock ∨ (v1.ownBlock = some (wr.heap.size + 1) ∧ Below wr.heap.size wr w1)) (g4 : wr.grownBy w1 (vs i).ownBlock) :
    PhS w (w1.setCell ⟨g, i, none⟩ v1) g N A (fun k => if k = i then v1 else vs k) (fun k => if k = i then ys i ++ [x] else ys k) al ∧ w1.cell? ⟨g, i, none⟩ = some (vs i) ∧ w1.frozen? ⟨g, i, none⟩ = false := by
  have hgi := h.own i hi
  have htop1 : Own w1 w.heap.size 23 (.slice (some ⟨g, 0, none⟩) N N) ((List.range N).map vs) := own_keptB h.top g4 (fun b hb e => own_types hgi h.top (by decide) e hb)
  have hall1 : Own w1 w.heap.size 3 A (intL al) := own_keptB h.all g4 (fun b hb e => h.sepA i b hi e hb)
  have hown1 : ∀ k, k < N → k ≠ i → Own w1 w.heap.size 3 (vs k) (intL (ys k)) := fun k hk hne => own_keptB (h.own k hk) g4 (fun b hb e => h.sep i k b hi hk (fun e2 => hne e2.symm) e hb)
  have hgt : ∀ {v : Value} {xs : List Int}, Own w1 w.heap.size 3 v (intL xs) → v.ownBlock ≠ some g := fun ho hk => own_types ho htop1 (by decide) hk rfl
  have g5 : Own w1 w.heap.size 3 v1 (intL (ys i ++ [x])) := own_to g1 (by rw [intL_snocL])
  have hgg : w.heap.size ≤ g := (h.top.lt g rfl).1
  have hb1 : Below w.heap.size w w1 := h.below.grown g4 h.below.size (fun k hk => (hgi.lt k hk).1)
  refine ⟨⟨?_, fun k hk => ?_, fun k l b hk hl hne h1 h2 => ?_, hall1.setOther (hgt hall1) _, fun k b hk h1 h2 => ?_, hb1.setCell (p := ⟨g, i, none⟩) hgg _⟩, htop1.get (by simp [hi]), htop1.frozen i⟩
  · refine own_to (htop1.set i v1) ?_
    refine List.ext_getElem? fun t => ?_
    by_cases e : t = i
    · subst e; rw [List.getElem?_set_self (by simpa using hi)]; simp [hi]
    · rw [List.getElem?_set_ne (fun e2 => e e2.symm)]; by_cases ht : t < N <;> simp [ht, e]
  · by_cases e : k = i
    · subst e; simp only [if_true]; exact g5.setOther (hgt g5) _
    · simp only [if_neg e]; exact (hown1 k hk e).setOther (hgt (hown1 k hk e)) _
  · by_cases e : k = i
    · subst e
      simp only [if_true] at h1
      simp only [if_neg (fun e2 => hne e2.symm : ¬ l = k)] at h2
      rcases g3 with g3 | ⟨g3, _⟩
      · exact h.sep k l b hk hl hne (g3 ▸ h1) h2
      · rw [g3] at h1; injection h1 with h1; have := ((h.own l hl).lt b h2).2; omega
    · simp only [if_neg e] at h1
      by_cases e3 : l = i
      · subst e3
        simp only [if_true] at h2
        rcases g3 with g3 | ⟨g3, _⟩
        · exact h.sep k l b hk hl hne h1 (g3 ▸ h2)
        · rw [g3] at h2; injection h2 with h2; have := ((h.own k hk).lt b h1).2; omega
      · simp only [if_neg e3] at h2; exact h.sep k l b hk hl hne h1 h2
  · by_cases e : k = i
    · subst e
      simp only [if_true] at h1
      rcases g3 with g3 | ⟨g3, _⟩
      · exact h.sepA k b hk (g3 ▸ h1) h2
      · rw [g3] at h1; injection h1 with h1; have := (h.all.lt b h2).2; omega
    · simp only [if_neg e] at h1; exact h.sepA k b hk h1 h2
/-- List i written over in its block. -/
theorem PhS.over {w wr w1 : World} {g N : Nat} {A : Value} {vs : Nat → Value} {ys : Nat → List Int} {al : List Int} {i : Nat} {zs : List Int} (h : PhS w wr g N A vs ys al) (hi : i < N)
    (g1 : Own w1 w.heap.size 3 (vs i) (intL zs)) (g4 : wr.grownBy w1 (vs i).ownBlock) : PhS w w1 g N A vs (fun k => if k = i then zs else ys k) al := by
  have hgi := h.own i hi
  refine ⟨own_keptB h.top g4 (fun b hb e => own_types hgi h.top (by decide) e hb), fun k hk => ?_, h.sep, own_keptB h.all g4 (fun b hb e => h.sepA i b hi e hb), h.sepA, h.below.grown g4 h.below.size (fun k hk => (hgi.lt k hk).1)⟩
  by_cases e : k = i
  · subst e; simp only [if_true]; exact g1
  · simp only [if_neg e]; exact own_keptB (h.own k hk) g4 (fun b hb e2 => h.sep i k b hi hk (fun e3 => e e3.symm) e2 hb)
/-- The list of all grown, or written over. -/
theorem PhS.grow {w wr w1 : World} {g N : Nat} {A A' : Value} {vs : Nat → Value} {ys : Nat → List Int} {al zs : List Int} (h : PhS w wr g N A vs ys al)
    (g1 : Own w1 w.heap.size 3 A' (intL zs)) (g3 : A'.ownBlock = A.ownBlock ∨ (A'.ownBlock = some wr.heap.size)) (g4 : wr.grownBy w1 A.ownBlock) : PhS w w1 g N A' vs ys zs := by
  refine ⟨own_keptB h.top g4 (fun b hb e => own_types h.all h.top (by decide) e hb), fun k hk => own_keptB (h.own k hk) g4 (fun b hb e => h.sepA k b hk hb e), h.sep, g1, fun k b hk h1 h2 => ?_, h.below.grown g4 h.below.size (fun k hk => (h.all.lt k hk).1)⟩
  rcases g3 with g3 | g3
  · exact h.sepA k b hk h1 (g3 ▸ h2)
  · rw [g3] at h2; injection h2 with h2; have := ((h.own k hk).lt b h1).2; omega
/-- The shifted lists read. -/
theorem PhS.rdll {w wr : World} {g N : Nat} {A : Value} {vs : Nat → Value} {ys : Nat → List Int} {al : List Int} (h : PhS w wr g N A vs ys al) : RdLL wr (some ⟨g, 0, none⟩) N ((List.range N).map ys) := by
  refine ⟨by simp, fun h0 => ⟨g, 0, rfl, fun i hi => ?_⟩⟩
  have hi' : i < N := by simpa using hi
  have ho := h.own i hi'
  obtain ⟨A2, C2, hv⟩ := own_slice ho
  rw [intL_length] at hv
  have hc := h.cell hi'
  rw [hv] at hc ho
  have e : ((List.range N).map ys)[i] = ys i := by simp
  rw [e, Nat.zero_add]
  exact ⟨A2, C2, hc, ho.rd⟩
end Go.Proofs.YtaijepjhmjjecaaDoor
