/- posts: unpack. -/
import Derived.Test.YthnpbfadblcicaaDoorZUnpA
namespace Go.Proofs.YthnpbfadblcicaaDoor
set_option linter.unusedVariables false
open Go.ChangeShapes Go.WideShapes Go.ChangeAt Go.RowKit

set_option maxRecDepth 100000 in
set_option maxHeartbeats 8000000 in
theorem unp_any (w : World) (a : Option Addr) (nb cb : Nat) (bs : List UInt8) (hr : Rd w (.slice a nb cb) (bytesV bs)) (hn : bs.length ≤ 1000000000) (base : Int) (hb0 : -1 ≤ base) (hb1 : base < 2147483647) (n : Nat) (hn16 : n ≤ 16) (EA : Nat → Addr) (hS : Sent6 w EA) :
    Calls Tryd.prog 42 #[.slice a nb cb, .int .i64 base, .int .i64 (n : Nat)] w (UnpPost w base n bs) := by
  have C1 := nr_any w a nb cb bs hr hn
  have hlow := (rerr_of hS).lt
  have HLOW := Lib.hid (show GLow w.heap.size from hlow)
  have HS := Lib.hid hS
  clear hr hS hlow
  go_enter Tryd.func42, Tryd.ntmps42
  go_wp2_with fail
  with_reducible refine C1.mono ?_
  rintro e w1 ⟨p, rv, rfl, hr1, hb1'⟩
  clear C1
  have C2 := rpck_out w1 w.heap.size p rv bs 0 hr1 hb1'.size EA (rerr_of (HS.out.below hb1')) HLOW.out 16 (by omega) (by omega)
  have HB1 := Lib.hid hb1'
  have hpB : w.heap.size ≤ p := hr1.hp
  have HPB := Lib.hid hpB
  have HR1 := Lib.hid hr1
  clear hr1 hb1' hpB
  rw [List.drop_zero] at C2
  cases hg1 : getPk 16 bs with
  | error e0 =>
    have hU : unpV base n bs = none := by unfold unpV; rw [hg1]
    rw [hg1] at C2
    have HU := Lib.hid hU
    clear hg1 hU
    go_wp2_with fail
    with_reducible refine C2.mono ?_
    rintro e w2 ⟨h1, -⟩
    clear C2
    obtain ⟨rfl, ⟨k', _, hr2⟩, he2⟩ := h1 e0 rfl
    have HB2 := Lib.hid (HB1.out.trans (he2.below (fun k hk => by subst hk; exact HPB.out) HB1.out.size))
    clear h1 hr2 he2
    unfold errV
    go_wp2
    go_ret2
    exact UnpPost.no HU.out HB2.out
  | ok y =>
    obtain ⟨ds, j1⟩ := y
    rw [hg1] at C2
    have HG1 := Lib.hid hg1
    clear hg1
    go_wp2_with fail
    with_reducible refine C2.mono ?_
    rintro e w2 ⟨-, h1⟩
    clear C2
    obtain ⟨D, rfl, hoD, hr2, he2⟩ := h1 (natI ds) j1 rfl
    rw [Nat.zero_add] at hr2
    obtain ⟨Ad, Nd, Cd, rfl⟩ := own_sl hoD
    have hNd := hoD.len
    rw [intL_length, natI_length] at hNd
    subst hNd
    have hb2 := HB1.out.trans (he2.below (fun k hk => by subst hk; exact HPB.out) HB1.out.size)
    have hoD' := own_base hoD (base' := w.heap.size) HB1.out.size
    have hDp : (Value.slice Ad ds.length Cd).ownBlock ≠ some p := hoD.ne_type hr2.blk (by decide)
    have HB2 := Lib.hid hb2
    have HOD := Lib.hid hoD'
    have HDP := Lib.hid hDp
    have HR2 := Lib.hid hr2
    clear h1 hoD he2 hb2 hoD' hDp HB1 HR1
    by_cases hds : ds.length = n
    · subst hds
      have C3 := rpck_out w2 w.heap.size p rv bs j1 HR2.out HB2.out.size EA (rerr_of (HS.out.below HB2.out)) HLOW.out 16 (by omega) (by omega)
      cases hg2 : getPk 16 (bs.drop j1) with
      | error e0 =>
        have hU : unpV base ds.length bs = none := by unfold unpV; rw [HG1.out]; simp only; rw [if_neg (by simp), hg2]
        rw [hg2] at C3
        have HU := Lib.hid hU
        clear hg2 hU hr2
        go_wp2_with fail
        with_reducible refine C3.mono ?_
        rintro e w3 ⟨h1, -⟩
        clear C3
        obtain ⟨rfl, ⟨k', _, hr3⟩, he3⟩ := h1 e0 rfl
        have HB3 := Lib.hid (HB2.out.trans (he3.below (fun k hk => by subst hk; exact HPB.out) HB2.out.size))
        clear h1 hr3 he3
        unfold errV
        go_wp2
        go_ret2
        exact UnpPost.no HU.out HB3.out
      | ok y =>
        obtain ⟨fs, j2⟩ := y
        rw [hg2] at C3
        have HG2 := Lib.hid hg2
        clear hg2 hr2
        go_wp2_with fail
        with_reducible refine C3.mono ?_
        rintro e w3 ⟨-, h1⟩
        clear C3
        obtain ⟨F, rfl, hoF, hr3, he3⟩ := h1 (natI fs) j2 rfl
        obtain ⟨Af, Nf, Cf, rfl⟩ := own_sl hoF
        have hNf := hoF.len
        rw [intL_length, natI_length] at hNf
        subst hNf
        have hb3 := HB2.out.trans (he3.below (fun k hk => by subst hk; exact HPB.out) HB2.out.size)
        have hoF' := own_base hoF (base' := w.heap.size) HB2.out.size
        have hFp : (Value.slice Af fs.length Cf).ownBlock ≠ some p := hoF.ne_type hr3.blk (by decide)
        have hoD3 := HOD.out.eff he3 (fun b hb hF => by subst hF; exact HDP.out hb)
        have HB3 := Lib.hid hb3
        have HOF := Lib.hid hoF'
        have HFP := Lib.hid hFp
        have HOD3 := Lib.hid hoD3
        have HR3 := Lib.hid hr3
        clear h1 hoF he3 hb3 hoF' hFp hoD3 hr3 HOD HR2
        by_cases hfs : fs.length = ds.length
        · have t0 : ((fs.length : Int) != (ds.length : Int)) = false := by simp; omega
          obtain ⟨RES, hRES⟩ : ∃ RES, unpP base ds fs (bs.drop (j1 + j2)) = RES := ⟨_, rfl⟩
          have hmk := fun (w : World) => make_posts ds.length (by omega) (ds.length : Int) rfl w
          have hrow := rowP_made w3 w.heap.size ds.length HB3.out.size (by omega)
          have hrA := HR3.out.eff (F := fun _ => False) ((Eff.refl _ w3).alloc (.cells (pcells (zPs ds.length) (fun _ => .slice none 0 0)).toArray 53)) (fun _ _ f => f)
          have hbA := HB3.out.alloc HB3.out.size (.cells (pcells (zPs ds.length) (fun _ => .slice none 0 0)).toArray 53)
          have hoDA := HOD3.out.alloc (.cells (pcells (zPs ds.length) (fun _ => .slice none 0 0)).toArray 53)
          have hoFA := HOF.out.alloc (.cells (pcells (zPs ds.length) (fun _ => .slice none 0 0)).toArray 53)
          have hDg : (Value.slice Ad ds.length Cd).ownBlock ≠ some w3.heap.size := fun h9 => by have := (HOD3.out.lt _ h9).2; omega
          have hFg : (Value.slice Af fs.length Cf).ownBlock ≠ some w3.heap.size := fun h9 => by have := (HOF.out.lt _ h9).2; omega
          have hp3 : p < w3.heap.size := lt_of_heap HR3.out.blk
          have HU := Lib.hid (show unpV base ds.length bs = finU RES by
            unfold unpV; rw [HG1.out]; simp only; rw [if_neg (by simp), HG2.out]; simp only; rw [if_neg (by simp [hfs]), ← hRES, List.drop_drop]
            cases unpP base ds fs (bs.drop (j1 + j2)) <;> rfl)
          have hst : UnpS w (w3.alloc (.cells (pcells (zPs ds.length) (fun _ => .slice none 0 0)).toArray 53)) (w3.alloc (.cells (pcells (zPs ds.length) (fun _ => .slice none 0 0)).toArray 53)) p w3.heap.size rv bs (j1 + j2) ds.length ([] ++ zPs ds.length) (fun _ => .slice none 0 0) :=
            ⟨hrA, hrow, Eff.refl _ _, ⟨HPB.out, by simp; omega, HB3.out.size, by simp⟩, hbA⟩
          have HST := Lib.hid hst
          have HODA := Lib.hid hoDA
          have HOFA := Lib.hid hoFA
          have HDG := Lib.hid hDg
          have HFG := Lib.hid hFg
          have HFS := Lib.hid hfs
          have HRES := Lib.hid (show contU [] (unpP base (ds.drop 0) (fs.drop 0) (bs.drop (j1 + j2))) = RES by rw [List.drop_zero, List.drop_zero, hRES]; unfold contU; cases RES <;> rfl)
          have HSM := Lib.hid hn
          clear hRES
          clear hrow hrA hbA hoDA hoFA hDg hFg hp3 hst HOD3 HOF HR3 HB3 HB2 hfs
          go_upto_region 9 with fail
          generalize w3.alloc (.cells (pcells (zPs ds.length) (fun _ => .slice none 0 0)).toArray 53) = wm at HST HODA HOFA ⊢
          generalize w3.heap.size = g at HST HDG HFG ⊢
          clear hmk t0
          go_wp2
          go_loopw [1, 50] (fun s1 s50 wr => ∃ (i k : Nat) (b2 : Int) (done : List PostV) (vs : Nat → Value), s1 = .int .i64 b2 ∧ s50 = .int .i64 i ∧ i ≤ ds.length ∧ done.length = i ∧ -1 ≤ b2 ∧ b2 < 2147483647 ∧
              UnpS w wm wr p g rv bs k ds.length (done ++ zPs (ds.length - i)) vs ∧ contU done (unpP b2 (ds.drop i) (fs.drop i) (bs.drop k)) = RES) (fun _ s50 _ => ds.length - (intOf s50).toNat)
          case atStart => exact ⟨0, j1 + j2, base, [], _, rfl, rfl, Nat.zero_le _, rfl, hb0, hb1, HST.out, HRES.out⟩
          case round =>
            clear HST HRES
            obtain ⟨i, k, b2, done, vs, rfl, rfl, hi, hdl, hb2, hb3, hst, hres⟩ := hrel
            by_cases hlt : i < ds.length
            · have hlf : i < fs.length := by have := HFS.out; omega
              obtain ⟨gd, rfl⟩ := HODA.out.someAt (show 0 < ds.length by omega)
              obtain ⟨gf, rfl⟩ := HOFA.out.someAt (show 0 < fs.length by omega)
              have hod := hst.nums HODA.out HDP.out HDG.out
              have hof := hst.nums HOFA.out HFP.out HFG.out
              have cd := hod.get (intL_get (natI ds) i (by rw [natI_length]; exact hlt))
              have cf := hof.get (intL_get (natI fs) i (by rw [natI_length]; exact hlf))
              rw [natI_get ds i hlt] at cd
              rw [natI_get fs i hlf] at cf
              rw [List.drop_eq_getElem_cons hlt, List.drop_eq_getElem_cons hlf, unpP] at hres
              obtain ⟨d, hd⟩ : ∃ d, ds[i] = d := ⟨_, rfl⟩
              obtain ⟨f, hf⟩ : ∃ f, fs[i] = f := ⟨_, rfl⟩
              rw [hd] at cd hres
              rw [hf] at cf hres
              have i1 : (i : Int) < (ds.length : Int) := by omega
              have i2 : (i : Int) < (fs.length : Int) := by omega
              obtain ⟨X1, hX1⟩ : ∃ X1, 2147483647 - b2 = X1 := ⟨_, rfl⟩
              obtain ⟨X2, hX2⟩ : ∃ X2, X1 - 1 = X2 := ⟨_, rfl⟩
              have s1 : IntKind.i64.wrap (2147483647 - b2) = X1 := by rw [IntKind.wrap_i64]; omega
              have s2 : IntKind.i64.wrap (X1 - 1) = X2 := by rw [IntKind.wrap_i64]; omega
              have hkl := hst.rdr.le
              have hq := fun m => left_q hst.rdr m
              have HST := Lib.hid hst
              have HRES := Lib.hid hres
              have hdd := hd
              have hff := hf
              clear hst hres hod hof hd hf
              by_cases hA : X2 ≤ (d : Int)
              · have t1 : decide (X2 ≤ (d : Int)) = true := decide_eq_true hA
                have hno : finU RES = none := by
                  refine contU_none (done := done) ?_
                  rw [← HRES.out, if_pos (.inl (by omega))]
                have HNO := Lib.hid (HU.out.trans hno)
                clear hA hno hX1 hX2 hlt hlf hdl hi hkl hdd hff
                go_wp2
                go_quiet (fail)
                go_wp2
                go_ret2
                exact UnpPost.no HNO.out (below_drewN HST.out.below _)
              · have t1 : decide (X2 ≤ (d : Int)) = false := decide_eq_false hA
                by_cases hB : bs.length - k ≤ f
                · have t2 : decide ((bs.length : Int) - (k : Int) ≤ (f : Int)) = true := decide_eq_true (by omega)
                  have hno : finU RES = none := by
                    refine contU_none (done := done) ?_
                    rw [← HRES.out, if_pos (.inr (by rw [List.length_drop]; exact hB))]
                  have HNO := Lib.hid (HU.out.trans hno)
                  clear hA hB hno hX1 hX2 hlt hlf hdl hi hkl hdd hff
                  go_wp2
                  go_quiet ((go_at_call 62; with_reducible exact hq _))
                  go_wp2
                  go_ret2
                  exact UnpPost.no HNO.out (below_drewN HST.out.below _)
                · have t2 : decide ((bs.length : Int) - (k : Int) ≤ (f : Int)) = false := decide_eq_false (by omega)
                  go_wp2
                  go_quiet ((go_at_call 62; with_reducible exact hq _))
                  have hst := HST.out.drewN nq
                  generalize wr.drewN nq = wq at hst ⊢
                  clear HST hq cd cf t1 t2 s1 s2
                  have cd := (hst.nums HODA.out HDP.out HDG.out).get (intL_get (natI ds) i (by rw [natI_length]; exact hlt))
                  have cf := (hst.nums HOFA.out HFP.out HFG.out).get (intL_get (natI fs) i (by rw [natI_length]; exact hlf))
                  rw [natI_get ds i hlt, hdd] at cd
                  rw [natI_get fs i hlf, hff] at cf
                  have hres := HRES.out
                  rw [if_neg (by rw [List.length_drop]; omega)] at hres
                  obtain ⟨b3, hb3'⟩ : ∃ b3, b2 + (d : Int) + 1 = b3 := ⟨_, rfl⟩
                  rw [hb3'] at hres
                  obtain ⟨f1, hf1⟩ : ∃ f1, f + 1 = f1 := ⟨_, rfl⟩
                  rw [hf1] at hres
                  have s1 : IntKind.i64.wrap ((d : Int) + 1) = (d : Int) + 1 := by rw [IntKind.wrap_i64]; omega
                  have s2 : IntKind.i64.wrap (b2 + ((d : Int) + 1)) = b3 := by rw [IntKind.wrap_i64]; omega
                  have s3 : IntKind.i64.wrap ((f : Int) + 1) = (f1 : Int) := by rw [IntKind.wrap_i64]; omega
                  have hmk := fun (w : World) => make_row elInts rfl f1 (by omega) (f1 : Int) rfl w
                  have hput := hst.put (by omega) b3 f1 (by omega)
                  rw [hdl] at hput
                  have hglt : g < wq.heap.size := by have := hst.low.2.2.2; have := hst.eff.size; omega
                  rw [World.setCell_alloc_past _ _ _ _ hglt, World.setCell_alloc_past _ _ _ _ (by simpa using hglt)] at hput
                  obtain ⟨g', e1, -, hgl, hc0, hc1, hfz⟩ := hst.row.at_ i (by simp [zPs]; omega)
                  injection e1 with e1
                  injection e1 with e1
                  subst e1
                  obtain ⟨y0, hy0⟩ : ∃ y, wq.cell? ⟨g, i * 2, none⟩ = some y := ⟨_, hc0⟩
                  obtain ⟨y1, hy1⟩ : ∃ y, wq.cell? ⟨g, i * 2 + 1, none⟩ = some y := ⟨_, hc1⟩
                  clear hc0 hc1
                  have fz0 := hfz (i * 2)
                  have fz1 := hfz (i * 2 + 1)
                  have hwm := hst.eff.size
                  have hf1l : f1 ≤ 1000000001 := by omega
                  have HPUT := Lib.hid hput
                  have HRES2 := Lib.hid hres
                  have HST := Lib.hid hst
                  have HB3 := Lib.hid (And.intro hb3' hA)
                  have HF1 := Lib.hid hf1
                  have HXX := Lib.hid (And.intro hX1 hX2)
                  have HKF := Lib.hid (And.intro hB hkl)
                  have HDF := Lib.hid (And.intro hdl (And.intro hlt hlf))
                  clear HRES hres hput hst hfz hb3' hf1 hA hX1 hX2 hB hkl hdl hdd hff hlt hlf
                  go_wp2
                  generalize ((wq.setCell ⟨g, i * 2, none⟩ (.int .i64 b3)).setCell ⟨g, i * 2 + 1, none⟩ (.slice (some ⟨wq.heap.size, 0, none⟩) f1 f1)).alloc (.cells (madeCells #[.int .i64 0] f1) 3) = W1 at HPUT ⊢
                  clear hmk hy0 hy1 fz0 fz1 s1 s2 s3 cd cf hgl
                  generalize wq.heap.size = GP at HPUT hwm ⊢
                  clear HST
                  obtain ⟨VS, hVS⟩ : ∃ VS : Nat → Value, (fun k => if k = i then Value.slice (some ⟨GP, 0, none⟩) f1 f1 else vs k) = VS := ⟨_, rfl⟩
                  rw [hVS] at HPUT
                  have hvi : VS i = .slice (some ⟨GP, 0, none⟩) f1 f1 := by rw [← hVS]; simp
                  obtain ⟨R0, hR0⟩ : ∃ R0, getR f1 (-1) (bs.drop k) = R0 := ⟨_, rfl⟩
                  have hres := HRES2.out
                  rw [hR0] at hres
                  have HRES := Lib.hid hres
                  have HR0 := Lib.hid hR0
                  have HVI := Lib.hid hvi
                  have HWM := Lib.hid hwm
                  have HBB := Lib.hid (And.intro hb2 hb3)
                  clear hres hR0 hvi HRES2 hVS hwm hb2 hb3
                  go_loopw [14, 96] (fun s14 s96 wr => ∃ (k2 j used : Nat) (bf : Int) (acc : List Int), s14 = .int .i64 bf ∧ s96 = .int .i64 (j : Nat) ∧ j ≤ f1 ∧ acc.length = j ∧ -1 ≤ bf ∧ bf ≤ 9223372036854775807 ∧
                      UnpS w wm wr p g rv bs k2 ds.length (done ++ ⟨b3, acc ++ zI (f1 - j)⟩ :: zPs (ds.length - i - 1)) VS ∧ contR acc used (getR (f1 - j) bf (bs.drop k2)) = R0 ∧ k + used = k2) (fun _ s96 _ => f1 - (intOf s96).toNat)
                  case atStart => exact ⟨k, 0, 0, -1, [], rfl, rfl, Nat.zero_le _, rfl, by omega, by omega, by rw [Nat.sub_zero]; exact HPUT.out, by rw [Nat.sub_zero, HR0.out]; cases R0 <;> simp [contR], by omega⟩
                  case round =>
                    clear HPUT HR0
                    obtain ⟨k2, j, used, bf, acc, rfl, rfl, hj, hal, hbf0, hbf1, hst, hcr, hku⟩ := hrel
                    by_cases hjl : j < f1
                    · have j1 : (j : Int) < (f1 : Int) := by omega
                      have C1 := ruv_out wr w.heap.size p rv bs k2 hst.rdr EA (rerr_of (HS.out.below hst.below))
                      rw [show f1 - j = (f1 - (j + 1)) + 1 by omega, getR] at hcr
                      have HST := Lib.hid hst
                      have HAL := Lib.hid hal
                      have HKU := Lib.hid hku
                      clear hst hal hku
                      cases hg : getU (bs.drop k2) with
                      | error e0 =>
                        rw [hg] at hcr C1
                        have hno : finU RES = none := by
                          refine contU_none (done := done) ?_
                          rw [← HRES.out, ← hcr]; rfl
                        have HNO := Lib.hid (HU.out.trans hno)
                        clear hno hcr hg
                        go_wp2_with fail
                        with_reducible refine C1.mono ?_
                        rintro e w5 ⟨h1, -⟩
                        clear C1
                        obtain ⟨rfl, hr5, he5⟩ := h1 e0 rfl
                        have HB5 := Lib.hid ((HST.out.read hr5 he5).below)
                        clear h1 hr5 he5
                        unfold errV
                        go_wp2
                        go_ret2
                        exact UnpPost.no HNO.out HB5.out
                      | ok y =>
                        obtain ⟨x, c⟩ := y
                        rw [hg] at hcr C1
                        simp only at hcr
                        have hx64 := (getU_ok hg).1
                        by_cases hX : 9223372036854775806 - bf < (x : Int)
                        · rw [if_pos hX] at hcr
                          have hno : finU RES = none := by
                            refine contU_none (done := done) ?_
                            rw [← HRES.out, ← hcr]; rfl
                          have HNO := Lib.hid (HU.out.trans hno)
                          clear hno hcr hg
                          by_cases hM : bf = 9223372036854775807
                          · subst hM
                            clear hX
                            go_wp2_with fail
                            with_reducible refine C1.mono ?_
                            rintro e w5 ⟨-, h1⟩
                            clear C1
                            obtain ⟨rfl, hr5, he5⟩ := h1 x c rfl
                            have HB5 := Lib.hid ((HST.out.read hr5 he5).below)
                            clear h1 hr5 he5
                            go_wp2
                            go_ret2
                            exact UnpPost.no HNO.out HB5.out
                          · have t1 : ((bf : Int) == 9223372036854775807) = false := by simp; omega
                            obtain ⟨Y1, hY1⟩ : ∃ Y1, IntKind.i64.wrap (9223372036854775807 - bf) = Y1 := ⟨_, rfl⟩
                            obtain ⟨Y2, hY2⟩ : ∃ Y2 : Nat, (9223372036854775806 - bf).toNat = Y2 := ⟨_, rfl⟩
                            have s2 : IntKind.i64.wrap (Y1 - 1) = (Y2 : Int) := by rw [← hY1, IntKind.wrap_i64, IntKind.wrap_i64]; omega
                            have s3 : IntKind.u64.wrap (Y2 : Int) = (Y2 : Int) := by rw [IntKind.wrap_u64]; omega
                            have t2 : decide (Y2 < x) = true := decide_eq_true (by omega)
                            clear hX hM hY2
                            go_wp2_with fail
                            with_reducible refine C1.mono ?_
                            rintro e w5 ⟨-, h1⟩
                            clear C1
                            obtain ⟨rfl, hr5, he5⟩ := h1 x c rfl
                            have HB5 := Lib.hid ((HST.out.read hr5 he5).below)
                            clear h1 hr5 he5
                            go_wp2
                            go_ret2
                            exact UnpPost.no HNO.out HB5.out
                        · rw [if_neg hX] at hcr
                          have hXle : (x : Int) ≤ 9223372036854775806 - bf := Int.not_lt.1 hX
                          have hb4r : -1 ≤ bf + (x : Int) + 1 ∧ bf + (x : Int) + 1 ≤ 9223372036854775807 := ⟨by omega, by omega⟩
                          have hM : ¬ bf = 9223372036854775807 := by omega
                          have t1 : ((bf : Int) == 9223372036854775807) = false := by simp; omega
                          obtain ⟨Y1, hY1⟩ : ∃ Y1, IntKind.i64.wrap (9223372036854775807 - bf) = Y1 := ⟨_, rfl⟩
                          obtain ⟨Y2, hY2⟩ : ∃ Y2 : Nat, (9223372036854775806 - bf).toNat = Y2 := ⟨_, rfl⟩
                          have s2 : IntKind.i64.wrap (Y1 - 1) = (Y2 : Int) := by rw [← hY1, IntKind.wrap_i64, IntKind.wrap_i64]; omega
                          have s3 : IntKind.u64.wrap (Y2 : Int) = (Y2 : Int) := by rw [IntKind.wrap_u64]; omega
                          have t2 : decide (Y2 < x) = false := decide_eq_false (by omega)
                          have s4 : wrap64 (x : Int) = (x : Int) := by simp only [wrap64]; omega
                          obtain ⟨Z1, hZ1⟩ : ∃ Z1, wrap64 ((x : Int) + 1) = Z1 := ⟨_, rfl⟩
                          obtain ⟨b4, hb4⟩ : ∃ b4, bf + (x : Int) + 1 = b4 := ⟨_, rfl⟩
                          have s5 : wrap64 (bf + Z1) = b4 := by subst hZ1; subst hb4; exact rs_sum bf x hbf0 hXle
                          rw [hb4] at hcr hb4r
                          have HCR := Lib.hid hcr
                          have HB4 := Lib.hid hb4r
                          clear hX hXle hM hY2 hcr hg hb4 hb4r hx64
                          go_wp2_with fail
                          with_reducible refine C1.mono ?_
                          rintro e w5 ⟨-, h1⟩
                          clear C1
                          obtain ⟨rfl, hr5, he5⟩ := h1 x c rfl
                          have hst5 := HST.out.read hr5 he5
                          obtain ⟨d1, d2, d3⟩ := hst5.cells HDF.out.1 HVI.out (by omega)
                          have hst6 := hst5.pos (by rw [HDF.out.1]; exact HVI.out) HWM.out (by omega) b4
                          rw [HAL.out] at d2 d3 hst6
                          have HST6 := Lib.hid hst6
                          clear h1 hr5 he5 hst5 hst6 HST
                          go_wp2
                          go_roundw
                          case rel =>
                            refine ⟨k2 + c, j + 1, used + c, b4, acc ++ [b4], by rw [s5], by go_num, by omega, by rw [List.length_append, HAL.out]; rfl, HB4.out.1, HB4.out.2, ?_, ?_, by have := HKU.out; omega⟩
                            · rw [show f1 - (j + 1) = f1 - j - 1 by omega]; exact HST6.out
                            · rw [← HCR.out, List.drop_drop]
                              cases getR (f1 - (j + 1)) b4 (bs.drop (k2 + c)) with
                              | error e => rfl
                              | ok y => simp [contR, Nat.add_assoc]
                          case measure => simp [intOf]; omega
                    · obtain rfl : j = f1 := by omega
                      have j1 : ¬ ((j : Int) < (j : Int)) := by omega
                      rw [Nat.sub_self, getR] at hcr
                      rw [Nat.sub_self] at hst
                      have hres := HRES.out
                      rw [← hcr] at hres
                      simp only [contR, List.append_nil, Nat.add_zero] at hres
                      rw [List.drop_drop, hku] at hres
                      have hres : contU (done ++ [⟨b3, acc⟩]) (unpP b3 (ds.drop (i + 1)) (fs.drop (i + 1)) (bs.drop k2)) = RES := by
                        rw [← hres]
                        cases unpP b3 (ds.drop (i + 1)) (fs.drop (i + 1)) (bs.drop k2) with
                        | none => rfl
                        | some y => simp [contU]
                      rw [show zI 0 = [] from rfl, List.append_nil] at hst
                      have HST := Lib.hid hst
                      have HRES2 := Lib.hid hres
                      clear hst hres hcr hku hjl hj
                      go_wp2
                      go_roundw
                      case rel =>
                        refine ⟨i + 1, k2, b3, done ++ [⟨b3, acc⟩], VS, rfl, by go_num, by have := HDF.out.2.1; omega, by rw [List.length_append, HDF.out.1]; rfl, by have := HB3.out; have := HBB.out; omega, by have := HB3.out; have := HXX.out; omega, ?_, HRES2.out⟩
                        rw [List.append_assoc]
                        have h9 := HST.out
                        rwa [show ds.length - i - 1 = ds.length - (i + 1) by omega] at h9
                      case measure => simp [intOf]; have := HDF.out.2.1; omega
            · obtain rfl : i = ds.length := by omega
              rw [List.drop_length, unpP] at hres
              have hres : some (done ++ [], bs.drop k) = RES := hres
              rw [List.append_nil] at hres
              rw [Nat.sub_self, show zPs 0 = [] from rfl, List.append_nil] at hst
              have i1 : ¬ ((ds.length : Int) < (ds.length : Int)) := by omega
              have hkl := hst.rdr.le
              by_cases hk : k = bs.length
              · have hfin : finU RES = some done := by rw [← hres]; show (if bs.drop k = [] then some done else none) = _; rw [if_pos (List.drop_of_length_le (by omega))]
                have hq := fun m => done_q (hst.rdr.drewN m) hk
                have HFIN := Lib.hid (HU.out.trans hfin)
                have HST := Lib.hid hst
                clear hres hst hkl hk hfin hlt hi hdl
                go_wp2
                go_quiet ((go_at_call 63; with_reducible exact hq _))
                go_wp2
                go_ret2
                refine ⟨fun ps h => ?_, fun h => (by rw [HFIN.out] at h; cases h)⟩
                rw [HFIN.out] at h
                injection h with h
                subst h
                exact ⟨_, _, _, _, rfl, (HST.out.drewN _).row, (HST.out.drewN _).below⟩
              · have hfin : finU RES = none := by rw [← hres]; show (if bs.drop k = [] then some done else none) = _; rw [if_neg (fun h => by have := List.drop_eq_nil_iff.1 h; omega)]
                have hq := fun m => done_qn (hst.rdr.drewN m) (by omega) _ ((HS.out.below hst.below).c5)
                have HFIN := Lib.hid (HU.out.trans hfin)
                have HST := Lib.hid hst
                unfold errV at hq
                clear hres hst hkl hk hfin hlt hi hdl
                go_wp2
                go_quiet ((go_at_call 63; with_reducible exact hq _))
                go_wp2
                go_ret2
                exact UnpPost.no HFIN.out (HST.out.drewN _).below
        · have t0 : ((fs.length : Int) != (ds.length : Int)) = true := by simp; omega
          have hU : unpV base ds.length bs = none := by unfold unpV; rw [HG1.out]; simp only; rw [if_neg (by simp), HG2.out]; simp only; rw [if_pos hfs]
          have HU := Lib.hid hU
          clear hU hfs
          go_wp2
          go_ret2
          exact UnpPost.no HU.out HB3.out
    · have t0 : ((ds.length : Int) != (n : Int)) = true := by simp; omega
      have hU : unpV base n bs = none := by unfold unpV; rw [HG1.out]; simp only; rw [if_pos hds]
      have HU := Lib.hid hU
      clear hU hds hr2
      go_wp2
      go_ret2
      exact UnpPost.no HU.out HB2.out
end Go.Proofs.YthnpbfadblcicaaDoor
