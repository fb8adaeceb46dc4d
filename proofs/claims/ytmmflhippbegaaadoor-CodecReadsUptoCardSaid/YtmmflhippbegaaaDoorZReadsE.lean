/- readsEnd: the lists are marked and grown; then each Reader still reads the rest of its own bytes. -/
import Derived.Test.YtmmflhippbegaaaDoorZRdS
import Derived.Test.YtmmflhippbegaaaDoorZGetL
import Derived.StillTailTactics
import Derived.Deep.RegionHeld3
namespace Go.Proofs.YtmmflhippbegaaaDoor
set_option linter.unusedVariables false
open Go.ChangeShapes Go.WideShapes Go.ChangeAt Go.RowKit

set_option maxRecDepth 100000 in
set_option maxHeartbeats 4000000 in
theorem rend_any (w : World) (B H0 pr pk pd pa : Nat) (p : Bool → Nat) (v x : Bool → Value) (bs : Bool → List UInt8) (k : Bool → Nat) (vb vi : Value) (lb li : List Value) (h : RS w B H0 pr pk pd pa p v x bs k k vb vi lb li) (hB : B ≤ H0) (hlb : lb.length ≤ 2000000) (hli : li.length ≤ 2000000) (hbs : ∀ b, (bs b).length ≤ 100000000) :
    Calls Tryd.prog 35 #[.slice (some ⟨pr, 0, none⟩) 2 2, .slice (some ⟨pd, 0, none⟩) 2 2, .slice (some ⟨pa, 0, none⟩) 2 2, .pointer (some ⟨pk, 0, none⟩)] w fun e w' => e = .returned (.bool true) ∧ Below B w w' := by
  have hz : B ≤ w.heap.size := Nat.le_trans hB h.ph
  obtain ⟨CB, hB1, hB2⟩ := h.rb
  obtain ⟨CI, hI1, hI2⟩ := h.ri
  have C1 := un_any w _ _ _ _ _ _ CB CI h.bk hB1 hI1 hlb hli hB2 hI2
  have hblow : ∀ q, (BlocksOf lb q ∨ BlocksOf li q) → B ≤ q := fun q hq => by
    rcases hq with hq | hq
    · exact Nat.le_trans hB (h.hb q hq)
    · exact Nat.le_trans hB (h.hi q hq)
  have H := Lib.hid h
  have HBL := Lib.hid hblow
  have HBS := Lib.hid hbs
  clear h hB1 hB2 hI1 hI2 hblow hbs
  go_enter Tryd.func35, Tryd.ntmps35
  go_wp2_with fail
  refine C1.mono ?_
  rintro e w1 ⟨rfl, e1⟩
  have hre := H.out.done e1
  have hb1 := e1.below HBL.out hz
  have HRE := Lib.hid hre
  have HB1 := Lib.hid hb1
  clear hre hb1 e1 C1 H HBL
  go_wp2
  go_loopw [20] (fun s20 wr => ∃ (j : Nat) (kk : Bool → Nat), s20 = .int .i64 j ∧ j ≤ 2 ∧ RE wr B pr pd pa p v x bs kk k ∧ (j ≤ 0 → kk false = k false) ∧ (j ≤ 1 → kk true = k true) ∧ Below B w wr) (fun s _ => 2 - (intOf s).toNat)
  case atStart => exact ⟨0, k, rfl, by omega, HRE.out, fun _ => rfl, fun _ => rfl, HB1.out⟩
  case round =>
    clear HRE HB1
    obtain ⟨j, kk, rfl, hj, hre, hk0, hk1, hb⟩ := hrel
    by_cases hlt : j < 2
    · obtain ⟨b, hbj, hkb⟩ : ∃ b : Bool, b.toNat = j ∧ kk b = k b := by
        rcases Nat.eq_zero_or_pos j with h0 | h0
        · subst h0; exact ⟨false, rfl, hk0 (by omega)⟩
        · obtain rfl : j = 1 := by omega
          exact ⟨true, rfl, hk1 (by omega)⟩
      have hnx : ∀ nx : Nat, (j + 1 ≤ 0 → updR kk b nx false = k false) ∧ (j + 1 ≤ 1 → updR kk b nx true = k true) := by
        intro nx
        refine ⟨fun h => by omega, fun h => ?_⟩
        obtain rfl : j = 0 := by omega
        cases b
        · rw [updR_ne _ _ (by decide)]; exact hk1 (by omega)
        · simp at hbj
      have hrd := hre.rd b
      rw [hkb] at hrd
      have hle := hrd.le
      have hln := HBS.out b
      have d1 : wr.cell? ⟨pr, j, none⟩ = some (.pointer (some ⟨p b, 0, none⟩)) := by rw [blk_cell hre.rr j, ← hbj]; cases b <;> rfl
      have d2 : wr.cell? ⟨pd, j, none⟩ = some (x b) := by rw [blk_cell hre.dd j, ← hbj]; cases b <;> rfl
      have d3 : wr.cell? ⟨pa, j, none⟩ = some (.int .i64 (k b)) := by rw [blk_cell hre.aa j, ← hbj]; cases b <;> rfl
      have hda := hre.da b
      obtain ⟨ax, cx, hxs⟩ := own_slice hda
      rw [bytesV_length] at hxs
      rw [hxs] at d2 hda
      obtain ⟨K, hK⟩ : ∃ K, k b = K := ⟨_, rfl⟩
      obtain ⟨P, hP⟩ : ∃ P, p b = P := ⟨_, rfl⟩
      obtain ⟨b1, hb1⟩ : ∃ b1, bs b = b1 := ⟨_, rfl⟩
      obtain ⟨v1, hv1⟩ : ∃ v1, v b = v1 := ⟨_, rfl⟩
      rw [hK, hb1, hv1, hP] at hrd
      rw [hK, hb1] at hle
      rw [hb1] at hln d2 hda
      rw [hP] at d1
      rw [hK] at d3
      obtain ⟨m, hm⟩ : ∃ m, b1.length = K + m := ⟨b1.length - K, by omega⟩
      have qm : (b1.length : Int) - (K : Int) = (m : Int) := by omega
      have C2 : ∀ d : Nat, Calls Tryd.prog 29 #[.pointer (some ⟨P, 0, none⟩)] (wr.drewN d) fun e w'' => e = .returned (.int .i64 K) ∧ ∃ q, w'' = wr.drewN q := fun d => quiet_leftN (rat_any _ _ _ _ _ _ (hrd.drewN d))
      have C3 : ∀ d : Nat, Calls Tryd.prog 28 #[.pointer (some ⟨P, 0, none⟩)] (wr.drewN d) fun e w'' => e = .returned (.int .i64 m) ∧ ∃ q, w'' = wr.drewN q := fun d => (rleft_any _ _ _ _ _ _ (hrd.drewN d)).mono (by
        rintro e w' ⟨rfl, q, rfl⟩
        exact ⟨by rw [qm], d + q, World.drewN_drewN _ _ _⟩)
      have HC2 := Lib.hid C2
      have HC3 := Lib.hid C3
      have HRE := Lib.hid hre
      have HB := Lib.hid hb
      have HRD := Lib.hid hrd
      have HDA := Lib.hid hda
      have HNX := Lib.hid hnx
      have HP := Lib.hid hP
      have HV1 := Lib.hid hv1
      have HB1 := Lib.hid hb1
      have HM := Lib.hid hm
      have hjI : (j : Int) < 2 := by omega
      clear C2 C3 hre hb hrd hda hnx hP hv1 hb1 hK hkb hbj hk0 hk1 hxs hm
      go_wp2
      go_quiet ((first | (go_at_call 29; with_reducible exact HC2.out _) | (go_at_call 28; with_reducible exact HC3.out _)))
      go_upto_region 9 with fail
      have e1' := HRE.out.drewN nq
      have e2' := below_drewN HB.out nq
      have e3' := HRD.out.drewN nq
      have e4' := HDA.out.drewN nq
      have d2' : (wr.drewN nq).cell? ⟨pd, j, none⟩ = some (.slice ax b1.length cx) := d2
      have d3' : (wr.drewN nq).cell? ⟨pa, j, none⟩ = some (.int .i64 K) := d3
      clear d1 d2 d3 HC2 HC3 HRE HB HRD HDA
      generalize wr.drewN nq = w2 at e1' e2' e3' e4' d2' d3' ⊢
      have C4 := rraw_ok w2.drew _ _ _ _ _ (e3'.drewN 1) m (by have := HM.out; omega)
      have HRE := Lib.hid e1'
      have HB := Lib.hid e2'
      have HRD := Lib.hid e3'
      have HDA := Lib.hid e4'
      clear e1' e2' e3' e4'
      have hcs : ((b1.drop K).take m).length = m := by rw [List.length_take, List.length_drop]; have := HM.out; omega
      have HCS := Lib.hid hcs
      clear hcs
      go_cut [12, 13] (fun s12 s13 wx => ∃ a3 c3, s12 = .slice a3 m c3 ∧ s13 = .nilIface ∧ Own wx w2.heap.size 5 (.slice a3 m c3) (bytesV ((b1.drop K).take m)) ∧ Rdr wx B P v1 b1 (K + m) ∧ Eff (· = P) w2 wx)
      case first =>
        have hS : w2.drew.cell? ⟨pd, j, none⟩ = some (.slice ax b1.length cx) ∧ w2.drew.cell? ⟨pa, j, none⟩ = some (.int .i64 K) := ⟨d2', d3'⟩
        have hkp : ∀ w3, Eff (· = P) w2.drew w3 → w3.cell? ⟨pd, j, none⟩ = some (.slice ax b1.length cx) ∧ w3.cell? ⟨pa, j, none⟩ = some (.int .i64 K) := fun w3 e3 =>
          ⟨e3.cell (p := ⟨pd, j, none⟩) (by show ¬ pd = P; exact blk_ne HRE.out.dd HRD.out.blk (by decide)) d2', e3.cell (p := ⟨pa, j, none⟩) (by show ¬ pa = P; exact blk_ne HRE.out.aa HRD.out.blk (by decide)) d3'⟩
        have HKP := Lib.hid hkp
        have HC4 := Lib.hid C4
        clear hkp C4
        have hmb : (m : Int) ≤ 100000000 := by omega
        have qw : IntKind.i64.wrap (m : Int) = (m : Int) := IntWalk.i64_in _ (by omega)
        have qx : IntKind.i64.wrap ((b1.length : Int) - (K : Int)) = (m : Int) := by rw [qm]; exact qw
        go_region_held3 (fun w' => w'.cell? ⟨pd, j, none⟩ = some (.slice ax b1.length cx) ∧ w'.cell? ⟨pa, j, none⟩ = some (.int .i64 K)) (first | with_reducible assumption | with_reducible exact HKP.out _ (by assumption)) ((go_at_call 27; with_reducible refine HC4.out.mono ?_; rintro e w3 ⟨v3, rfl, ho3, hr3, e3⟩; obtain ⟨a3, c3, rfl⟩ := own_slice ho3))
        go_wp2_with fail
        go_meet
        exact ⟨a3, c3, by rw [bytesV_length, HCS.out], rfl, by rw [bytesV_length, HCS.out] at ho3; exact ho3, hr3, ⟨e3.os, e3.tape, e3.output, e3.size, e3.block⟩⟩
      case rest =>
      obtain ⟨a3, c3, rfl, rfl, ho3, hr3, e3b⟩ := hcut
      clear C4
      have hre3 := HRE.out.read (b := b) (next := K + m) (by rw [HP.out, HV1.out, HB1.out]; exact hr3) (by rw [HP.out]; exact e3b)
      have hbb3 := HB.out.trans (e3b.below (B := B) (fun q hq => by subst hq; exact HRD.out.hp) (Nat.le_trans hz HB.out.size))
      have hda3 := HDA.out.eff e3b (fun q hq hf => by subst hf; exact HDA.out.ne_type HRD.out.blk (by decide) hq)
      have d2 : wc.cell? ⟨pd, j, none⟩ = some (.slice ax b1.length cx) := e3b.cell (p := ⟨pd, j, none⟩) (by show ¬ pd = P; exact blk_ne HRE.out.dd HRD.out.blk (by decide)) d2'
      have d3 : wc.cell? ⟨pa, j, none⟩ = some (.int .i64 K) := e3b.cell (p := ⟨pa, j, none⟩) (by show ¬ pa = P; exact blk_ne HRE.out.aa HRD.out.blk (by decide)) d3'
      have r1 := fun d : Nat => run_str (P := Tryd.prog) Tryd.underlying37 Tryd.underlying5 Tryd.underlying9 (ho3.drewN d).rd
      obtain ⟨hm1, hm2⟩ := own_mid hda3 K m (by have := HM.out; omega)
      have hcap := own_cap hda3
      have qc : b1.length ≤ cx := hcap.1
      have qc2 : (cx : Int) ≤ 9223372036854775807 := by have := hcap.2; unfold maxLen at this; omega
      have hkI : (K : Int) ≤ (b1.length : Nat) := by omega
      have C5 : ∀ d : Nat, Calls Tryd.prog 28 #[.pointer (some ⟨P, 0, none⟩)] (wc.drewN d) fun e w'' => e = .returned (.int .i64 0) ∧ ∃ q, w'' = wc.drewN q := fun d => (rleft_any _ _ _ _ _ _ (hr3.drewN d)).mono (by
        rintro e w' ⟨rfl, q, rfl⟩
        exact ⟨by have := HM.out; congr 2; omega, d + q, World.drewN_drewN _ _ _⟩)
      have C6 : ∀ d : Nat, Calls Tryd.prog 30 #[.pointer (some ⟨P, 0, none⟩)] (wc.drewN d) fun e w'' => e = .returned .nilIface ∧ ∃ q, w'' = wc.drewN q := fun d => (rdone_any _ _ _ _ _ _ (hr3.drewN d) (by have := HM.out; omega)).mono (by
        rintro e w' ⟨rfl, q, rfl⟩
        exact ⟨rfl, d + q, World.drewN_drewN _ _ _⟩)
      have HRE3 := Lib.hid hre3
      have HB3 := Lib.hid hbb3
      have HC5 := Lib.hid C5
      have HC6 := Lib.hid C6
      have hmL : K + m = b1.length := HM.out.symm
      have HML := Lib.hid hmL
      clear hre3 hbb3 C5 C6 ho3 hr3 e3b hcap d2' d3' HRE HB HRD HDA hmL
      have hkc : K < cx ∨ K = cx := by omega
      rcases hkc with hkc | hkc
      · obtain ⟨g, rfl, hrd4⟩ := hm1 hkc
        have hrd5 : Rd wc (.slice (some ⟨g, K, none⟩) (b1.length - K) (cx - K)) (bytesV ((b1.drop K).take m)) := by rw [show b1.length - K = m by have := HM.out; omega]; exact hrd4
        have r2 := fun d : Nat => run_str (P := Tryd.prog) Tryd.underlying37 Tryd.underlying5 Tryd.underlying9 (hrd5.below (below_drewN (Below.refl _ wc) d) (Nat.le_refl _))
        clear hm1 hm2 hrd4 hrd5 hda3
        go_wp2
        go_quiet (fail)
        clear r1 r2 d2 d3
        go_wp2_with (first | (go_at_call 28; refine (HC5.out _).mono ?_; rintro e w' ⟨rfl, _, rfl⟩) | (go_at_call 30; refine (HC6.out _).mono ?_; rintro e w' ⟨rfl, _, rfl⟩))
        go_roundw
        case rel => exact ⟨j + 1, updR kk b (K + m), by go_num, by omega, HRE3.out.drewN _, (HNX.out _).1, (HNX.out _).2, below_drewN HB3.out _⟩
        case measure => simp [intOf]; omega
      · have hm0 := (hm2 hkc).2
        have hrd4 := (hm2 hkc).1
        have hrd5 : Rd wc (.slice ax 0 0) (bytesV ((b1.drop K).take m)) := by have h := hrd4; rw [show (Value.slice ax m 0) = .slice ax 0 0 by rw [hm0]] at h; exact h
        have r2 := fun d : Nat => run_str (P := Tryd.prog) Tryd.underlying37 Tryd.underlying5 Tryd.underlying9 (hrd5.below (below_drewN (Below.refl _ wc) d) (Nat.le_refl _))
        obtain rfl := hkc
        have HM0 := Lib.hid hm0
        clear hm1 hm2 hrd4 hrd5 hda3 hm0
        go_wp2
        go_quiet (fail)
        clear r1 r2 d2 d3
        go_wp2_with (first | (go_at_call 28; refine (HC5.out _).mono ?_; rintro e w' ⟨rfl, _, rfl⟩) | (go_at_call 30; refine (HC6.out _).mono ?_; rintro e w' ⟨rfl, _, rfl⟩))
        go_roundw
        case rel => exact ⟨j + 1, updR kk b (K + m), by go_num, by omega, HRE3.out.drewN _, (HNX.out _).1, (HNX.out _).2, below_drewN HB3.out _⟩
        case measure => simp [intOf]; omega
    · obtain rfl : j = 2 := by omega
      have HB := Lib.hid hb
      clear hre hb hk0 hk1
      go_wp2
      go_ret
      exact ⟨rfl, HB.out⟩
end Go.Proofs.YtmmflhippbegaaaDoor
