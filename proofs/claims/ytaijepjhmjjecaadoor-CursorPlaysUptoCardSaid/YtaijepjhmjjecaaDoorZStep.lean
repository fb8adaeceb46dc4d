/- cursor: the law's step, printed by wip/gen_step.py. -/
import Derived.Test.YtaijepjhmjjecaaDoorZG25
import Derived.Deep.RegionHeld3
namespace Go.Proofs.YtaijepjhmjjecaaDoor
set_option linter.unusedVariables false
open Go.ChangeShapes Go.WideShapes Go.ChangeAt Go.RowKit
set_option maxRecDepth 100000 in
set_option maxHeartbeats 8000000 in
theorem step1 (w0 w : World) (base q R : Nat) (lp : Value) (ps : List PostV) (IM : List UInt8) (a : Option Addr) (c u mv : Nat) (told asked : Bool) (h : StC w0 w base q R lp ps IM a ps.length c u mv told asked) (hr : RdPost w0 a ps.length ps) (hT : totalV ps ≤ 20000000) (hmv : mv ≤ 900000000000000) (which N : Int) (EA : Nat → Addr) (hS : Sent6 w0 EA) :
    Calls Tryd.prog 28 #[.pointer (some ⟨q, 0, none⟩), .pointer (some ⟨R, 0, none⟩), .agg #[.int .i64 1, .int .i64 which, .int .i64 N]] w (StepP w0 w base q R lp ps IM a ps.length c mv) := by
  obtain ⟨hl1, hl2, hl3⟩ := h.cur.lens
  obtain ⟨pl, hpl⟩ : ∃ pl : Int, (u : Int) - 1 = pl := ⟨_, rfl⟩
  have hts := h.ts 1 which N
  have hrel := h.rel
  have HREL := Lib.hid hrel
  have HS := Lib.hid hS
  have HR := Lib.hid hr
  obtain ⟨U, hU⟩ : ∃ U, (if u = ps.length + 1 then u else u + 1) = U := ⟨_, rfl⟩
  obtain ⟨MV, hMV⟩ : ∃ M, (if u = ps.length + 1 then mv else mv + costU u u ps.length) = M := ⟨_, rfl⟩
  obtain ⟨TD, hTD⟩ : ∃ t9, (if u = ps.length + 1 then told else false) = t9 := ⟨_, rfl⟩
  obtain ⟨AD, hAD⟩ : ∃ t9, (if u = ps.length + 1 then asked else false) = t9 := ⟨_, rfl⟩
  obtain ⟨UL, hUL⟩ : ∃ UL : Int, (U : Int) - 1 = UL := ⟨_, rfl⟩
  have hrel2 : posU ps U ≠ [] → TD = AD := by
    rw [← hU, ← hTD, ← hAD]
    split
    · exact hrel
    · intro _; rfl
  have hmv2 : MV ≤ mv + 200000000 := by
    rw [← hMV]
    split
    · omega
    · rename_i h9
      have := (show costU u u ps.length ≤ ps.length + 20 from costU_le (Nat.le_refl u) (by omega))
      omega
  have hU3 : U ≤ ps.length + 1 := by
    rw [← hU]
    split
    · exact hl3
    · rename_i h9
      have := h9
      omega
  have CA := fun (X : World) (s : TS w0 w X w.heap.size base q R lp ps IM a ps.length c u mv told U MV AD 1 which N) => next_any X base q lp ps IM u mv told s.cur s.bz (by omega) EA (HS.out.below s.bel)
  have CN := fun (X : World) => rnext_any X a ps.length c u mv asked hl1 hl3 (by omega)
  have CD := fun (X : World) (hb : Below w0.heap.size w0 X) => rdoc_any X a ps.length c ps (HR.out.below hb (Nat.le_refl _)) hl1 U hU3 UL hUL MV AD
  unfold RcV at CN
  rw [hU, hMV, hTD] at CA
  rw [hU, hMV, hAD, hUL, hpl] at CN
  obtain ⟨D, hD⟩ : ∃ D, docU ps U = D := ⟨_, rfl⟩
  rw [hD] at CA CD
  have HX := Lib.hid hts
  have HCA := Lib.hid CA
  have HCN := Lib.hid CN
  have HD := Lib.hid CD
  have HUL := Lib.hid hUL
  have HREL2 := Lib.hid hrel2
  have HMV2 := Lib.hid hmv2
  clear hts CA CN CD hUL hrel2 hmv2 hU hMV hTD hAD hD h hr hS hrel hl1 hl2 hl3
  go_enter Tryd.func28, Tryd.ntmps28
  go_upto_region 1 with fail
  generalize w.alloc (.cells #[.int .i64 1, .int .i64 which, .int .i64 N] 60) = w1 at HX ⊢
  obtain ⟨z, hz⟩ : ∃ z, w.heap.size = z := ⟨_, rfl⟩
  rw [hz] at HX ⊢
  have HZ := Lib.hid hz
  clear hz
  have k0 := HX.out.op.c0
  have k2 := HX.out.op.c2
  have rc := HX.out.rc
  rw [hpl] at rc
  have c0 := rc.c0
  have c1 := rc.c1
  have c2 := rc.c2
  have c3 := rc.c3
  clear rc
  rw [HZ.out] at HCA
  go_wp2_with fail
  with_reducible refine (HCN.out _).mono ?_
  rintro e w2 ⟨rfl, hb2⟩
  have h9 := HX.out.below hb2
  clear HX hb2 c0 c1 c2 c3 k0 k2
  have HX := Lib.hid h9
  clear h9
  have rc := HX.out.rc
  rw [hpl] at rc
  have c0 := rc.c0
  have c1 := rc.c1
  have c2 := rc.c2
  have c3 := rc.c3
  have f0 := blk_frozen rc.blk 0
  have f1 := blk_frozen rc.blk 1
  have f2 := blk_frozen rc.blk 2
  have f3 := blk_frozen rc.blk 3
  clear rc
  have h9 := HX.out.put (U' := U) (MV' := MV) (AD' := AD) HUL.out
  clear HX
  have HX := Lib.hid h9
  clear h9
  go_upto_region 4 with fail
  clear c0 c1 c2 c3 f0 f1 f2 f3
  generalize ((((w2.setCell ⟨R, 0, none⟩ (.slice a ps.length c)).setCell ⟨R, 1, none⟩ (.int .i64 UL)).setCell ⟨R, 2, none⟩ (.int .i64 (MV : Nat))).setCell ⟨R, 3, none⟩ (.bool AD)) = w3 at HX ⊢
  have rc := HX.out.rc
  rw [HUL.out] at rc
  have k2 := HX.out.op.c2
  have c0 := rc.c0
  have c1 := rc.c1
  have c2 := rc.c2
  have c3 := rc.c3
  clear rc
  refine wp_region_noPanic ?_
  refine wp_region_held_drew (S := fun W => W.cell? ⟨R, 0, none⟩ = some (.slice a ps.length c) ∧ W.cell? ⟨R, 1, none⟩ = some (.int .i64 UL) ∧ W.cell? ⟨R, 2, none⟩ = some (.int .i64 (MV : Nat)) ∧ W.cell? ⟨R, 3, none⟩ = some (.bool AD) ∧ W.cell? ⟨z, 2, none⟩ = some (.int .i64 N)) (by kernel_rfl) ⟨c0, c1, c2, c3, k2⟩ (fun hHeld => ?_)
  clear c0 c1 c2 c3 k2
  refine wpAnyH_take (i := 0) (v := ?_) rfl (by kernel_rfl) (by kernel_rfl) (by kernel_rfl) (fun _ _ _ h => h) (Or.inl ⟨by kernel_rfl, ?_⟩) hHeld ?_
  rotate_left
  · intro w hSw
    obtain ⟨z1, z2, z3, z4, z5⟩ := hSw
    go_simp
    try with_reducible rfl
  refine wpAnyH_take (i := 2) (v := ?_) rfl (by kernel_rfl) (by kernel_rfl) (by kernel_rfl) (fun _ _ _ h => h) (Or.inl ⟨by kernel_rfl, ?_⟩) hHeld ?_
  rotate_left
  · intro w hSw
    obtain ⟨z1, z2, z3, z4, z5⟩ := hSw
    go_simp
    try with_reducible rfl
  refine wpAnyH_take (i := 3) (v := ?_) rfl (by kernel_rfl) (by kernel_rfl) (by kernel_rfl) (fun _ _ _ h => h) (Or.inl ⟨by kernel_rfl, ?_⟩) hHeld ?_
  rotate_left
  · intro w hSw
    obtain ⟨z1, z2, z3, z4, z5⟩ := hSw
    go_simp
    try with_reducible rfl
  refine wpAnyH_take (i := 4) (v := ?_) rfl (by kernel_rfl) (by kernel_rfl) (by kernel_rfl) (fun _ _ _ h => h) (Or.inl ⟨by kernel_rfl, ?_⟩) hHeld ?_
  rotate_left
  · intro w hSw
    obtain ⟨z1, z2, z3, z4, z5⟩ := hSw
    go_simp
    try with_reducible rfl
  have h9 := HX.out.below (Below.refl w3.heap.size w3).drew
  clear HX hHeld
  generalize World.drew w3 = X0 at h9 ⊢
  have HX := Lib.hid h9
  clear h9
  refine wpAnyH_ready (rs := [1]) (by kernel_rfl) (by simp) ?_
  refine AllReadyH.cons rfl (fun KK hKK => ?_) ?_
  · rw [if_pos (by kernel_rfl)]
    go_simp
    go_wp2_with (go_at_call 16; (with_reducible refine (HCA.out _ HX.out).mono ?_); rintro e wa ⟨rfl, hca, hea⟩)
    have h9 := HX.out.moved hea hca
    clear HX hca hea
    have hs9 : _ ∧ _ := ⟨h9.rc.c0, h9.rc.c1⟩
    rw [HUL.out] at hs9
    refine hKK.out _ _ ⟨hs9.1, hs9.2, h9.rc.c2, h9.rc.c3, h9.op.c2⟩ (fun hHeld => ?_)
    clear hKK KK hs9
    have HX := Lib.hid h9
    clear h9
    refine wpAnyH_ready (rs := [5]) (by kernel_rfl) (by simp) ?_
    refine AllReadyH.cons rfl (fun KK hKK => ?_) ?_
    · rw [if_pos (by kernel_rfl)]
      go_simp
      go_wp2_with (go_at_call 31; (with_reducible refine (HD.out _ HX.out.bel).mono ?_); rintro e wb ⟨rfl, hbb⟩)
      have h9 := HX.out.below hbb
      clear HX hbb
      have hs9 : _ ∧ _ := ⟨h9.rc.c0, h9.rc.c1⟩
      rw [HUL.out] at hs9
      refine hKK.out _ _ ⟨hs9.1, hs9.2, h9.rc.c2, h9.rc.c3, h9.op.c2⟩ (fun hHeld => ?_)
      clear hKK KK hs9
      have HX := Lib.hid h9
      clear h9
      refine wpAnyH_take (i := 6) (v := ?_) rfl (by kernel_rfl) (by kernel_rfl) (by kernel_rfl) (fun _ _ _ h => h) (Or.inl ⟨by kernel_rfl, ?_⟩) hHeld ?_
      rotate_left
      · intro w hSw
        obtain ⟨z1, z2, z3, z4, z5⟩ := hSw
        go_simp
        try with_reducible rfl
      refine wpAnyH_ready (rs := [7]) (by kernel_rfl) (by simp) ?_
      refine AllReadyH.cons rfl (fun KK hKK => ?_) ?_
      · rw [if_pos (by kernel_rfl)]
        go_simp
        have h9 := HX.out
        clear HX
        have hs9 : _ ∧ _ := ⟨h9.rc.c0, h9.rc.c1⟩
        rw [HUL.out] at hs9
        refine hKK.out _ _ ⟨hs9.1, hs9.2, h9.rc.c2, h9.rc.c3, h9.op.c2⟩ (fun hHeld => ?_)
        clear hKK KK hs9
        have HX := Lib.hid h9
        clear h9
        clear hHeld
        refine wpAnyH_done (by kernel_rfl) ?_ _
        refine NoPanic.normal ?_
        go_wp2
        go_ret
        exact ⟨U, MV, TD, AD, by simp, HX.out.st HREL2.out, HMV2.out, HX.out.eff⟩
      exact AllReadyH.nil
    exact AllReadyH.nil
  exact AllReadyH.nil
set_option maxRecDepth 100000 in
set_option maxHeartbeats 8000000 in
theorem step4 (w0 w : World) (base q R : Nat) (lp : Value) (ps : List PostV) (IM : List UInt8) (a : Option Addr) (c u mv : Nat) (told asked : Bool) (h : StC w0 w base q R lp ps IM a ps.length c u mv told asked) (hr : RdPost w0 a ps.length ps) (hT : totalV ps ≤ 20000000) (hmv : mv ≤ 900000000000000) (which N : Int) (EA : Nat → Addr) (hS : Sent6 w0 EA) :
    Calls Tryd.prog 28 #[.pointer (some ⟨q, 0, none⟩), .pointer (some ⟨R, 0, none⟩), .agg #[.int .i64 4, .int .i64 which, .int .i64 N]] w (StepP w0 w base q R lp ps IM a ps.length c mv) := by
  obtain ⟨hl1, hl2, hl3⟩ := h.cur.lens
  obtain ⟨pl, hpl⟩ : ∃ pl : Int, (u : Int) - 1 = pl := ⟨_, rfl⟩
  have hts := h.ts 4 which N
  have hrel := h.rel
  have HREL := Lib.hid hrel
  have HS := Lib.hid hS
  have HR := Lib.hid hr
  have CA := fun (X : World) (s : TS w0 w X w.heap.size base q R lp ps IM a ps.length c u mv told u mv asked 4 which N) => freq_any X base q lp ps IM u mv told s.cur s.bz EA (HS.out.below s.bel)
  have CH := fun (X : World) (hb : Below w0.heap.size w0 X) => rhere_any w0 X hb a ps.length c ps HR.out hl1 u hl3 pl hpl mv asked
  obtain ⟨L, hL⟩ : ∃ L, (posU ps u).length = L := ⟨_, rfl⟩
  rw [hL] at CA
  simp only [hL] at CH
  have HX := Lib.hid hts
  have HCA := Lib.hid CA
  have HH := Lib.hid CH
  clear hts CA CH hL h hr hS hrel hl1 hl2 hl3
  go_enter Tryd.func28, Tryd.ntmps28
  go_upto_region 1 with fail
  generalize w.alloc (.cells #[.int .i64 4, .int .i64 which, .int .i64 N] 60) = w1 at HX ⊢
  obtain ⟨z, hz⟩ : ∃ z, w.heap.size = z := ⟨_, rfl⟩
  rw [hz] at HX ⊢
  have HZ := Lib.hid hz
  clear hz
  have k0 := HX.out.op.c0
  have k2 := HX.out.op.c2
  have rc := HX.out.rc
  rw [hpl] at rc
  have c0 := rc.c0
  have c1 := rc.c1
  have c2 := rc.c2
  have c3 := rc.c3
  clear rc
  rw [HZ.out] at HCA
  go_upto_region 13 with fail
  clear k0
  refine wp_region_noPanic ?_
  refine wp_region_held_drew (S := fun W => W.cell? ⟨R, 0, none⟩ = some (.slice a ps.length c) ∧ W.cell? ⟨R, 1, none⟩ = some (.int .i64 pl) ∧ W.cell? ⟨R, 2, none⟩ = some (.int .i64 (mv : Nat)) ∧ W.cell? ⟨R, 3, none⟩ = some (.bool asked) ∧ W.cell? ⟨z, 2, none⟩ = some (.int .i64 N)) (by kernel_rfl) ⟨c0, c1, c2, c3, k2⟩ (fun hHeld => ?_)
  clear c0 c1 c2 c3 k2
  refine wpAnyH_take (i := 0) (v := ?_) rfl (by kernel_rfl) (by kernel_rfl) (by kernel_rfl) (fun _ _ _ h => h) (Or.inl ⟨by kernel_rfl, ?_⟩) hHeld ?_
  rotate_left
  · intro w hSw
    obtain ⟨z1, z2, z3, z4, z5⟩ := hSw
    go_simp
    try with_reducible rfl
  refine wpAnyH_take (i := 2) (v := ?_) rfl (by kernel_rfl) (by kernel_rfl) (by kernel_rfl) (fun _ _ _ h => h) (Or.inl ⟨by kernel_rfl, ?_⟩) hHeld ?_
  rotate_left
  · intro w hSw
    obtain ⟨z1, z2, z3, z4, z5⟩ := hSw
    go_simp
    try with_reducible rfl
  refine wpAnyH_take (i := 3) (v := ?_) rfl (by kernel_rfl) (by kernel_rfl) (by kernel_rfl) (fun _ _ _ h => h) (Or.inl ⟨by kernel_rfl, ?_⟩) hHeld ?_
  rotate_left
  · intro w hSw
    obtain ⟨z1, z2, z3, z4, z5⟩ := hSw
    go_simp
    try with_reducible rfl
  refine wpAnyH_take (i := 4) (v := ?_) rfl (by kernel_rfl) (by kernel_rfl) (by kernel_rfl) (fun _ _ _ h => h) (Or.inl ⟨by kernel_rfl, ?_⟩) hHeld ?_
  rotate_left
  · intro w hSw
    obtain ⟨z1, z2, z3, z4, z5⟩ := hSw
    go_simp
    try with_reducible rfl
  have h9 := HX.out.below (Below.refl w1.heap.size w1).drew
  clear HX hHeld
  generalize World.drew w1 = X0 at h9 ⊢
  have HX := Lib.hid h9
  clear h9
  refine wpAnyH_ready (rs := [1]) (by kernel_rfl) (by simp) ?_
  refine AllReadyH.cons rfl (fun KK hKK => ?_) ?_
  · rw [if_pos (by kernel_rfl)]
    go_simp
    go_wp2_with (go_at_call 17; (with_reducible refine (HCA.out _ HX.out).mono ?_); rintro e wa ⟨rfl, hca, hea⟩)
    have h9 := HX.out.moved hea hca
    clear HX hca hea
    have hs9 : _ ∧ _ := ⟨h9.rc.c0, h9.rc.c1⟩
    rw [hpl] at hs9
    refine hKK.out _ _ ⟨hs9.1, hs9.2, h9.rc.c2, h9.rc.c3, h9.op.c2⟩ (fun hHeld => ?_)
    clear hKK KK hs9
    have HX := Lib.hid h9
    clear h9
    refine wpAnyH_ready (rs := [5]) (by kernel_rfl) (by simp) ?_
    refine AllReadyH.cons rfl (fun KK hKK => ?_) ?_
    · rw [if_pos (by kernel_rfl)]
      go_simp
      go_wp2_with (go_at_call 58; (with_reducible refine (HH.out _ HX.out.bel).mono ?_); rintro e wb ⟨A9, C9, rfl, -, hbb⟩)
      have h9 := HX.out.below hbb
      clear HX hbb
      have hs9 : _ ∧ _ := ⟨h9.rc.c0, h9.rc.c1⟩
      rw [hpl] at hs9
      refine hKK.out _ _ ⟨hs9.1, hs9.2, h9.rc.c2, h9.rc.c3, h9.op.c2⟩ (fun hHeld => ?_)
      clear hKK KK hs9
      have HX := Lib.hid h9
      clear h9
      refine wpAnyH_take (i := 6) (v := ?_) rfl (by kernel_rfl) (by kernel_rfl) (by kernel_rfl) (fun _ _ _ h => h) (Or.inl ⟨by kernel_rfl, ?_⟩) hHeld ?_
      rotate_left
      · intro w hSw
        obtain ⟨z1, z2, z3, z4, z5⟩ := hSw
        go_simp
        try with_reducible rfl
      refine wpAnyH_take (i := 7) (v := ?_) rfl (by kernel_rfl) (by kernel_rfl) (by kernel_rfl) (fun _ _ _ h => h) (Or.inl ⟨by kernel_rfl, ?_⟩) hHeld ?_
      rotate_left
      · intro w hSw
        obtain ⟨z1, z2, z3, z4, z5⟩ := hSw
        go_simp
        try with_reducible rfl
      refine wpAnyH_ready (rs := [8]) (by kernel_rfl) (by simp) ?_
      refine AllReadyH.cons rfl (fun KK hKK => ?_) ?_
      · rw [if_pos (by kernel_rfl)]
        go_simp
        have h9 := HX.out
        clear HX
        have hs9 : _ ∧ _ := ⟨h9.rc.c0, h9.rc.c1⟩
        rw [hpl] at hs9
        refine hKK.out _ _ ⟨hs9.1, hs9.2, h9.rc.c2, h9.rc.c3, h9.op.c2⟩ (fun hHeld => ?_)
        clear hKK KK hs9
        have HX := Lib.hid h9
        clear h9
        clear hHeld
        refine wpAnyH_done (by kernel_rfl) ?_ _
        refine NoPanic.normal ?_
        go_wp2
        go_ret
        exact ⟨u, mv, told, asked, by simp, HX.out.st HREL.out, Nat.le_add_right _ _, HX.out.eff⟩
      exact AllReadyH.nil
    exact AllReadyH.nil
  exact AllReadyH.nil
set_option maxRecDepth 100000 in
set_option maxHeartbeats 8000000 in
theorem step6 (w0 w : World) (base q R : Nat) (lp : Value) (ps : List PostV) (IM : List UInt8) (a : Option Addr) (c u mv : Nat) (told asked : Bool) (h : StC w0 w base q R lp ps IM a ps.length c u mv told asked) (hr : RdPost w0 a ps.length ps) (hT : totalV ps ≤ 20000000) (hmv : mv ≤ 900000000000000) (which N : Int) (EA : Nat → Addr) (hS : Sent6 w0 EA) :
    Calls Tryd.prog 28 #[.pointer (some ⟨q, 0, none⟩), .pointer (some ⟨R, 0, none⟩), .agg #[.int .i64 6, .int .i64 which, .int .i64 N]] w (StepP w0 w base q R lp ps IM a ps.length c mv) := by
  obtain ⟨hl1, hl2, hl3⟩ := h.cur.lens
  obtain ⟨pl, hpl⟩ : ∃ pl : Int, (u : Int) - 1 = pl := ⟨_, rfl⟩
  have hts := h.ts 6 which N
  have hrel := h.rel
  have HREL := Lib.hid hrel
  have HS := Lib.hid hS
  have HR := Lib.hid hr
  have CA := fun (X : World) (s : TS w0 w X w.heap.size base q R lp ps IM a ps.length c u mv told u mv asked 6 which N) => (show Calls Tryd.prog 29 #[.pointer (some ⟨q, 0, none⟩)] X (fun e w' => e = .returned (.int .i64 (mv : Nat)) ∧ X = w') by
    obtain ⟨bk, rv, hcb⟩ := s.cur
    exact movB_any X base q lp ps IM _ u mv told bk rv hcb)
  have HX := Lib.hid hts
  have HCA := Lib.hid CA
  clear hts CA h hr hS hrel hl1 hl2 hl3
  go_enter Tryd.func28, Tryd.ntmps28
  go_upto_region 1 with fail
  generalize w.alloc (.cells #[.int .i64 6, .int .i64 which, .int .i64 N] 60) = w1 at HX ⊢
  obtain ⟨z, hz⟩ : ∃ z, w.heap.size = z := ⟨_, rfl⟩
  rw [hz] at HX ⊢
  have HZ := Lib.hid hz
  clear hz
  have k0 := HX.out.op.c0
  have k2 := HX.out.op.c2
  have rc := HX.out.rc
  rw [hpl] at rc
  have c0 := rc.c0
  have c1 := rc.c1
  have c2 := rc.c2
  have c3 := rc.c3
  clear rc
  rw [HZ.out] at HCA
  go_upto_region 19 with fail
  clear k0
  refine wp_region_noPanic ?_
  refine wp_region_held_drew (S := fun W => W.cell? ⟨R, 0, none⟩ = some (.slice a ps.length c) ∧ W.cell? ⟨R, 1, none⟩ = some (.int .i64 pl) ∧ W.cell? ⟨R, 2, none⟩ = some (.int .i64 (mv : Nat)) ∧ W.cell? ⟨R, 3, none⟩ = some (.bool asked) ∧ W.cell? ⟨z, 2, none⟩ = some (.int .i64 N)) (by kernel_rfl) ⟨c0, c1, c2, c3, k2⟩ (fun hHeld => ?_)
  clear c0 c1 c2 c3 k2
  refine wpAnyH_take (i := 0) (v := ?_) rfl (by kernel_rfl) (by kernel_rfl) (by kernel_rfl) (fun _ _ _ h => h) (Or.inl ⟨by kernel_rfl, ?_⟩) hHeld ?_
  rotate_left
  · intro w hSw
    obtain ⟨z1, z2, z3, z4, z5⟩ := hSw
    go_simp
    try with_reducible rfl
  refine wpAnyH_take (i := 1) (v := ?_) rfl (by kernel_rfl) (by kernel_rfl) (by kernel_rfl) (fun _ _ _ h => h) (Or.inl ⟨by kernel_rfl, ?_⟩) hHeld ?_
  rotate_left
  · intro w hSw
    obtain ⟨z1, z2, z3, z4, z5⟩ := hSw
    go_simp
    try with_reducible rfl
  refine wpAnyH_take (i := 2) (v := ?_) rfl (by kernel_rfl) (by kernel_rfl) (by kernel_rfl) (fun _ _ _ h => h) (Or.inl ⟨by kernel_rfl, ?_⟩) hHeld ?_
  rotate_left
  · intro w hSw
    obtain ⟨z1, z2, z3, z4, z5⟩ := hSw
    go_simp
    try with_reducible rfl
  refine wpAnyH_take (i := 4) (v := ?_) rfl (by kernel_rfl) (by kernel_rfl) (by kernel_rfl) (fun _ _ _ h => h) (Or.inl ⟨by kernel_rfl, ?_⟩) hHeld ?_
  rotate_left
  · intro w hSw
    obtain ⟨z1, z2, z3, z4, z5⟩ := hSw
    go_simp
    try with_reducible rfl
  refine wpAnyH_take (i := 5) (v := ?_) rfl (by kernel_rfl) (by kernel_rfl) (by kernel_rfl) (fun _ _ _ h => h) (Or.inl ⟨by kernel_rfl, ?_⟩) hHeld ?_
  rotate_left
  · intro w hSw
    obtain ⟨z1, z2, z3, z4, z5⟩ := hSw
    go_simp
    try with_reducible rfl
  refine wpAnyH_take (i := 6) (v := ?_) rfl (by kernel_rfl) (by kernel_rfl) (by kernel_rfl) (fun _ _ _ h => h) (Or.inl ⟨by kernel_rfl, ?_⟩) hHeld ?_
  rotate_left
  · intro w hSw
    obtain ⟨z1, z2, z3, z4, z5⟩ := hSw
    go_simp
    try with_reducible rfl
  refine wpAnyH_take (i := 7) (v := ?_) rfl (by kernel_rfl) (by kernel_rfl) (by kernel_rfl) (fun _ _ _ h => h) (Or.inl ⟨by kernel_rfl, ?_⟩) hHeld ?_
  rotate_left
  · intro w hSw
    obtain ⟨z1, z2, z3, z4, z5⟩ := hSw
    go_simp
    try with_reducible rfl
  have h9 := HX.out.below (Below.refl w1.heap.size w1).drew
  clear HX hHeld
  generalize World.drew w1 = X0 at h9 ⊢
  have HX := Lib.hid h9
  clear h9
  refine wpAnyH_ready (rs := [3]) (by kernel_rfl) (by simp) ?_
  refine AllReadyH.cons rfl (fun KK hKK => ?_) ?_
  · rw [if_pos (by kernel_rfl)]
    go_simp
    go_wp2_with (go_at_call 29; (with_reducible refine (HCA.out _ HX.out).mono ?_); rintro e wb ⟨rfl, rfl⟩)
    have h9 := HX.out
    clear HX
    have hs9 : _ ∧ _ := ⟨h9.rc.c0, h9.rc.c1⟩
    rw [hpl] at hs9
    refine hKK.out _ _ ⟨hs9.1, hs9.2, h9.rc.c2, h9.rc.c3, h9.op.c2⟩ (fun hHeld => ?_)
    clear hKK KK hs9
    have HX := Lib.hid h9
    clear h9
    refine wpAnyH_take (i := 8) (v := ?_) rfl (by kernel_rfl) (by kernel_rfl) (by kernel_rfl) (fun _ _ _ h => h) (Or.inl ⟨by kernel_rfl, ?_⟩) hHeld ?_
    rotate_left
    · intro w hSw
      obtain ⟨z1, z2, z3, z4, z5⟩ := hSw
      go_simp
      try with_reducible rfl
    refine wpAnyH_ready (rs := [9]) (by kernel_rfl) (by simp) ?_
    refine AllReadyH.cons rfl (fun KK hKK => ?_) ?_
    · rw [if_pos (by kernel_rfl)]
      go_simp
      have h9 := HX.out
      clear HX
      have hs9 : _ ∧ _ := ⟨h9.rc.c0, h9.rc.c1⟩
      rw [hpl] at hs9
      refine hKK.out _ _ ⟨hs9.1, hs9.2, h9.rc.c2, h9.rc.c3, h9.op.c2⟩ (fun hHeld => ?_)
      clear hKK KK hs9
      have HX := Lib.hid h9
      clear h9
      clear hHeld
      refine wpAnyH_done (by kernel_rfl) ?_ _
      refine NoPanic.normal ?_
      go_wp2
      go_ret
      exact ⟨u, mv, told, asked, by simp, HX.out.st HREL.out, Nat.le_add_right _ _, HX.out.eff⟩
    exact AllReadyH.nil
  exact AllReadyH.nil
set_option maxRecDepth 100000 in
set_option maxHeartbeats 8000000 in
theorem step7 (w0 w : World) (base q R : Nat) (lp : Value) (ps : List PostV) (IM : List UInt8) (a : Option Addr) (c u mv : Nat) (told asked : Bool) (h : StC w0 w base q R lp ps IM a ps.length c u mv told asked) (hr : RdPost w0 a ps.length ps) (hT : totalV ps ≤ 20000000) (hmv : mv ≤ 900000000000000) (which N : Int) (EA : Nat → Addr) (hS : Sent6 w0 EA) :
    Calls Tryd.prog 28 #[.pointer (some ⟨q, 0, none⟩), .pointer (some ⟨R, 0, none⟩), .agg #[.int .i64 7, .int .i64 which, .int .i64 N]] w (StepP w0 w base q R lp ps IM a ps.length c mv) := by
  obtain ⟨hl1, hl2, hl3⟩ := h.cur.lens
  obtain ⟨pl, hpl⟩ : ∃ pl : Int, (u : Int) - 1 = pl := ⟨_, rfl⟩
  have hts := h.ts 7 which N
  have hrel := h.rel
  have HREL := Lib.hid hrel
  have HS := Lib.hid hS
  have HR := Lib.hid hr
  have CA := fun (X : World) (s : TS w0 w X w.heap.size base q R lp ps IM a ps.length c u mv told u mv asked 7 which N) => (show Calls Tryd.prog 20 #[.pointer (some ⟨q, 0, none⟩)] X (fun e w' => e = .returned (.int .i64 (ps.length : Nat)) ∧ X = w') by
    obtain ⟨bk, rv, hcb⟩ := s.cur
    exact docsC_any X base q lp ps IM _ u mv told bk rv hcb)
  have CT := fun (X : World) (s : TS w0 w X w.heap.size base q R lp ps IM a ps.length c u mv told u mv asked 7 which N) => (show Calls Tryd.prog 33 #[.pointer (some ⟨q, 0, none⟩)] X (fun e w' => e = .returned (.int .i64 (totalV ps : Nat)) ∧ X = w') by
    obtain ⟨bk, rv, hcb⟩ := s.cur
    exact totC_any X base q lp ps IM _ u mv told bk rv hcb)
  have CD := fun (X : World) => rdocs_any X a ps.length c pl mv asked
  have CE := fun (X : World) (hb : Below w0.heap.size w0 X) => rtotC_any X a ps.length c ps (HR.out.below hb (Nat.le_refl _)) hl1 hT pl mv asked
  obtain ⟨T9, hT9⟩ : ∃ T, totalV ps = T := ⟨_, rfl⟩
  rw [hT9] at CT CE
  have HX := Lib.hid hts
  have HCA := Lib.hid CA
  have HCT := Lib.hid CT
  have HD := Lib.hid CD
  have HE := Lib.hid CE
  clear hts CA CT CD CE hT hT9 h hr hS hrel hl1 hl2 hl3
  go_enter Tryd.func28, Tryd.ntmps28
  go_upto_region 1 with fail
  generalize w.alloc (.cells #[.int .i64 7, .int .i64 which, .int .i64 N] 60) = w1 at HX ⊢
  obtain ⟨z, hz⟩ : ∃ z, w.heap.size = z := ⟨_, rfl⟩
  rw [hz] at HX ⊢
  have HZ := Lib.hid hz
  clear hz
  have k0 := HX.out.op.c0
  have k2 := HX.out.op.c2
  have rc := HX.out.rc
  rw [hpl] at rc
  have c0 := rc.c0
  have c1 := rc.c1
  have c2 := rc.c2
  have c3 := rc.c3
  clear rc
  rw [HZ.out] at HCA HCT
  go_upto_region 21 with fail
  clear k0
  refine wp_region_noPanic ?_
  refine wp_region_held_drew (S := fun W => W.cell? ⟨R, 0, none⟩ = some (.slice a ps.length c) ∧ W.cell? ⟨R, 1, none⟩ = some (.int .i64 pl) ∧ W.cell? ⟨R, 2, none⟩ = some (.int .i64 (mv : Nat)) ∧ W.cell? ⟨R, 3, none⟩ = some (.bool asked) ∧ W.cell? ⟨z, 2, none⟩ = some (.int .i64 N)) (by kernel_rfl) ⟨c0, c1, c2, c3, k2⟩ (fun hHeld => ?_)
  clear c0 c1 c2 c3 k2
  refine wpAnyH_take (i := 0) (v := ?_) rfl (by kernel_rfl) (by kernel_rfl) (by kernel_rfl) (fun _ _ _ h => h) (Or.inl ⟨by kernel_rfl, ?_⟩) hHeld ?_
  rotate_left
  · intro w hSw
    obtain ⟨z1, z2, z3, z4, z5⟩ := hSw
    go_simp
    try with_reducible rfl
  refine wpAnyH_take (i := 2) (v := ?_) rfl (by kernel_rfl) (by kernel_rfl) (by kernel_rfl) (fun _ _ _ h => h) (Or.inl ⟨by kernel_rfl, ?_⟩) hHeld ?_
  rotate_left
  · intro w hSw
    obtain ⟨z1, z2, z3, z4, z5⟩ := hSw
    go_simp
    try with_reducible rfl
  refine wpAnyH_take (i := 3) (v := ?_) rfl (by kernel_rfl) (by kernel_rfl) (by kernel_rfl) (fun _ _ _ h => h) (Or.inl ⟨by kernel_rfl, ?_⟩) hHeld ?_
  rotate_left
  · intro w hSw
    obtain ⟨z1, z2, z3, z4, z5⟩ := hSw
    go_simp
    try with_reducible rfl
  refine wpAnyH_take (i := 4) (v := ?_) rfl (by kernel_rfl) (by kernel_rfl) (by kernel_rfl) (fun _ _ _ h => h) (Or.inl ⟨by kernel_rfl, ?_⟩) hHeld ?_
  rotate_left
  · intro w hSw
    obtain ⟨z1, z2, z3, z4, z5⟩ := hSw
    go_simp
    try with_reducible rfl
  have h9 := HX.out.below (Below.refl w1.heap.size w1).drew
  clear HX hHeld
  generalize World.drew w1 = X0 at h9 ⊢
  have HX := Lib.hid h9
  clear h9
  refine wpAnyH_ready (rs := [1]) (by kernel_rfl) (by simp) ?_
  refine AllReadyH.cons rfl (fun KK hKK => ?_) ?_
  · rw [if_pos (by kernel_rfl)]
    go_simp
    go_wp2_with (go_at_call 20; (with_reducible refine (HCA.out _ HX.out).mono ?_); rintro e wb ⟨rfl, rfl⟩)
    have h9 := HX.out
    clear HX
    have hs9 : _ ∧ _ := ⟨h9.rc.c0, h9.rc.c1⟩
    rw [hpl] at hs9
    refine hKK.out _ _ ⟨hs9.1, hs9.2, h9.rc.c2, h9.rc.c3, h9.op.c2⟩ (fun hHeld => ?_)
    clear hKK KK hs9
    have HX := Lib.hid h9
    clear h9
    refine wpAnyH_ready (rs := [5]) (by kernel_rfl) (by simp) ?_
    refine AllReadyH.cons rfl (fun KK hKK => ?_) ?_
    · rw [if_pos (by kernel_rfl)]
      go_simp
      go_wp2_with (go_at_call 60; (with_reducible refine (HD.out _).mono ?_); rintro e wb ⟨rfl, hbb⟩)
      have h9 := HX.out.below hbb
      clear HX hbb
      have hs9 : _ ∧ _ := ⟨h9.rc.c0, h9.rc.c1⟩
      rw [hpl] at hs9
      refine hKK.out _ _ ⟨hs9.1, hs9.2, h9.rc.c2, h9.rc.c3, h9.op.c2⟩ (fun hHeld => ?_)
      clear hKK KK hs9
      have HX := Lib.hid h9
      clear h9
      refine wpAnyH_take (i := 6) (v := ?_) rfl (by kernel_rfl) (by kernel_rfl) (by kernel_rfl) (fun _ _ _ h => h) (Or.inl ⟨by kernel_rfl, ?_⟩) hHeld ?_
      rotate_left
      · intro w hSw
        obtain ⟨z1, z2, z3, z4, z5⟩ := hSw
        go_simp
        try with_reducible rfl
      refine wpAnyH_take (i := 7) (v := ?_) rfl (by kernel_rfl) (by kernel_rfl) (by kernel_rfl) (fun _ _ _ h => h) (Or.inl ⟨by kernel_rfl, ?_⟩) hHeld ?_
      rotate_left
      · intro w hSw
        obtain ⟨z1, z2, z3, z4, z5⟩ := hSw
        go_simp
        try with_reducible rfl
      refine wpAnyH_take (i := 8) (v := ?_) rfl (by kernel_rfl) (by kernel_rfl) (by kernel_rfl) (fun _ _ _ h => h) (Or.inl ⟨by kernel_rfl, ?_⟩) hHeld ?_
      rotate_left
      · intro w hSw
        obtain ⟨z1, z2, z3, z4, z5⟩ := hSw
        go_simp
        try with_reducible rfl
      refine wpAnyH_take (i := 10) (v := ?_) rfl (by kernel_rfl) (by kernel_rfl) (by kernel_rfl) (fun _ _ _ h => h) (Or.inl ⟨by kernel_rfl, ?_⟩) hHeld ?_
      rotate_left
      · intro w hSw
        obtain ⟨z1, z2, z3, z4, z5⟩ := hSw
        go_simp
        try with_reducible rfl
      refine wpAnyH_take (i := 11) (v := ?_) rfl (by kernel_rfl) (by kernel_rfl) (by kernel_rfl) (fun _ _ _ h => h) (Or.inl ⟨by kernel_rfl, ?_⟩) hHeld ?_
      rotate_left
      · intro w hSw
        obtain ⟨z1, z2, z3, z4, z5⟩ := hSw
        go_simp
        try with_reducible rfl
      refine wpAnyH_take (i := 12) (v := ?_) rfl (by kernel_rfl) (by kernel_rfl) (by kernel_rfl) (fun _ _ _ h => h) (Or.inl ⟨by kernel_rfl, ?_⟩) hHeld ?_
      rotate_left
      · intro w hSw
        obtain ⟨z1, z2, z3, z4, z5⟩ := hSw
        go_simp
        try with_reducible rfl
      refine wpAnyH_ready (rs := [9]) (by kernel_rfl) (by simp) ?_
      refine AllReadyH.cons rfl (fun KK hKK => ?_) ?_
      · rw [if_pos (by kernel_rfl)]
        go_simp
        go_wp2_with (go_at_call 33; (with_reducible refine (HCT.out _ HX.out).mono ?_); rintro e wb ⟨rfl, rfl⟩)
        have h9 := HX.out
        clear HX
        have hs9 : _ ∧ _ := ⟨h9.rc.c0, h9.rc.c1⟩
        rw [hpl] at hs9
        refine hKK.out _ _ ⟨hs9.1, hs9.2, h9.rc.c2, h9.rc.c3, h9.op.c2⟩ (fun hHeld => ?_)
        clear hKK KK hs9
        have HX := Lib.hid h9
        clear h9
        refine wpAnyH_ready (rs := [13]) (by kernel_rfl) (by simp) ?_
        refine AllReadyH.cons rfl (fun KK hKK => ?_) ?_
        · rw [if_pos (by kernel_rfl)]
          go_simp
          go_wp2_with (go_at_call 61; (with_reducible refine (HE.out _ HX.out.bel).mono ?_); rintro e wb ⟨rfl, hbb⟩)
          have h9 := HX.out.below hbb
          clear HX hbb
          have hs9 : _ ∧ _ := ⟨h9.rc.c0, h9.rc.c1⟩
          rw [hpl] at hs9
          refine hKK.out _ _ ⟨hs9.1, hs9.2, h9.rc.c2, h9.rc.c3, h9.op.c2⟩ (fun hHeld => ?_)
          clear hKK KK hs9
          have HX := Lib.hid h9
          clear h9
          refine wpAnyH_take (i := 14) (v := ?_) rfl (by kernel_rfl) (by kernel_rfl) (by kernel_rfl) (fun _ _ _ h => h) (Or.inl ⟨by kernel_rfl, ?_⟩) hHeld ?_
          rotate_left
          · intro w hSw
            obtain ⟨z1, z2, z3, z4, z5⟩ := hSw
            go_simp
            try with_reducible rfl
          refine wpAnyH_take (i := 15) (v := ?_) rfl (by kernel_rfl) (by kernel_rfl) (by kernel_rfl) (fun _ _ _ h => h) (Or.inl ⟨by kernel_rfl, ?_⟩) hHeld ?_
          rotate_left
          · intro w hSw
            obtain ⟨z1, z2, z3, z4, z5⟩ := hSw
            go_simp
            try with_reducible rfl
          refine wpAnyH_ready (rs := [16]) (by kernel_rfl) (by simp) ?_
          refine AllReadyH.cons rfl (fun KK hKK => ?_) ?_
          · rw [if_pos (by kernel_rfl)]
            go_simp
            have h9 := HX.out
            clear HX
            have hs9 : _ ∧ _ := ⟨h9.rc.c0, h9.rc.c1⟩
            rw [hpl] at hs9
            refine hKK.out _ _ ⟨hs9.1, hs9.2, h9.rc.c2, h9.rc.c3, h9.op.c2⟩ (fun hHeld => ?_)
            clear hKK KK hs9
            have HX := Lib.hid h9
            clear h9
            clear hHeld
            refine wpAnyH_done (by kernel_rfl) ?_ _
            refine NoPanic.normal ?_
            go_wp2
            go_ret
            exact ⟨u, mv, told, asked, by simp, HX.out.st HREL.out, Nat.le_add_right _ _, HX.out.eff⟩
          exact AllReadyH.nil
        exact AllReadyH.nil
      exact AllReadyH.nil
    exact AllReadyH.nil
  exact AllReadyH.nil
set_option maxRecDepth 100000 in
set_option maxHeartbeats 8000000 in
theorem step0 (w0 w : World) (base q R : Nat) (lp : Value) (ps : List PostV) (IM : List UInt8) (a : Option Addr) (c u mv : Nat) (told asked : Bool) (h : StC w0 w base q R lp ps IM a ps.length c u mv told asked) (hr : RdPost w0 a ps.length ps) (hT : totalV ps ≤ 20000000) (hmv : mv ≤ 900000000000000) (kind : Int) (g1 : (kind == 1) = false) (g2 : (kind == 2) = false) (g3 : (kind == 3) = false) (g4 : (kind == 4) = false) (g5 : (kind == 5) = false) (g6 : (kind == 6) = false) (g7 : (kind == 7) = false) (which N : Int) (EA : Nat → Addr) (hS : Sent6 w0 EA) :
    Calls Tryd.prog 28 #[.pointer (some ⟨q, 0, none⟩), .pointer (some ⟨R, 0, none⟩), .agg #[.int .i64 kind, .int .i64 which, .int .i64 N]] w (StepP w0 w base q R lp ps IM a ps.length c mv) := by
  obtain ⟨hl1, hl2, hl3⟩ := h.cur.lens
  obtain ⟨pl, hpl⟩ : ∃ pl : Int, (u : Int) - 1 = pl := ⟨_, rfl⟩
  have hts := h.ts kind which N
  have hrel := h.rel
  have HREL := Lib.hid hrel
  have HS := Lib.hid hS
  have HR := Lib.hid hr
  have CA := fun (X : World) (s : TS w0 w X w.heap.size base q R lp ps IM a ps.length c u mv told u mv asked kind which N) => (show Calls Tryd.prog 30 #[.pointer (some ⟨q, 0, none⟩)] X (fun e w' => e = .returned (.int .i64 (docU ps u)) ∧ X = w') by
    obtain ⟨bk, rv, hcb⟩ := s.cur
    exact docB_any X base q lp ps IM _ u mv told bk rv hcb)
  have CD := fun (X : World) (hb : Below w0.heap.size w0 X) => rdoc_any X a ps.length c ps (HR.out.below hb (Nat.le_refl _)) hl1 u hl3 pl hpl mv asked
  obtain ⟨D, hD⟩ : ∃ D, docU ps u = D := ⟨_, rfl⟩
  rw [hD] at CA CD
  have HX := Lib.hid hts
  have HCA := Lib.hid CA
  have HD := Lib.hid CD
  clear hts CA CD hD h hr hS hrel hl1 hl2 hl3
  go_enter Tryd.func28, Tryd.ntmps28
  go_upto_region 1 with fail
  generalize w.alloc (.cells #[.int .i64 kind, .int .i64 which, .int .i64 N] 60) = w1 at HX ⊢
  obtain ⟨z, hz⟩ : ∃ z, w.heap.size = z := ⟨_, rfl⟩
  rw [hz] at HX ⊢
  have HZ := Lib.hid hz
  clear hz
  have k0 := HX.out.op.c0
  have k2 := HX.out.op.c2
  have rc := HX.out.rc
  rw [hpl] at rc
  have c0 := rc.c0
  have c1 := rc.c1
  have c2 := rc.c2
  have c3 := rc.c3
  clear rc
  rw [HZ.out] at HCA
  go_upto_region 22 with fail
  clear k0 g1 g2 g3 g4 g5 g6 g7
  refine wp_region_noPanic ?_
  refine wp_region_held_drew (S := fun W => W.cell? ⟨R, 0, none⟩ = some (.slice a ps.length c) ∧ W.cell? ⟨R, 1, none⟩ = some (.int .i64 pl) ∧ W.cell? ⟨R, 2, none⟩ = some (.int .i64 (mv : Nat)) ∧ W.cell? ⟨R, 3, none⟩ = some (.bool asked) ∧ W.cell? ⟨z, 2, none⟩ = some (.int .i64 N)) (by kernel_rfl) ⟨c0, c1, c2, c3, k2⟩ (fun hHeld => ?_)
  clear c0 c1 c2 c3 k2
  refine wpAnyH_take (i := 0) (v := ?_) rfl (by kernel_rfl) (by kernel_rfl) (by kernel_rfl) (fun _ _ _ h => h) (Or.inl ⟨by kernel_rfl, ?_⟩) hHeld ?_
  rotate_left
  · intro w hSw
    obtain ⟨z1, z2, z3, z4, z5⟩ := hSw
    go_simp
    try with_reducible rfl
  refine wpAnyH_take (i := 1) (v := ?_) rfl (by kernel_rfl) (by kernel_rfl) (by kernel_rfl) (fun _ _ _ h => h) (Or.inl ⟨by kernel_rfl, ?_⟩) hHeld ?_
  rotate_left
  · intro w hSw
    obtain ⟨z1, z2, z3, z4, z5⟩ := hSw
    go_simp
    try with_reducible rfl
  refine wpAnyH_take (i := 2) (v := ?_) rfl (by kernel_rfl) (by kernel_rfl) (by kernel_rfl) (fun _ _ _ h => h) (Or.inl ⟨by kernel_rfl, ?_⟩) hHeld ?_
  rotate_left
  · intro w hSw
    obtain ⟨z1, z2, z3, z4, z5⟩ := hSw
    go_simp
    try with_reducible rfl
  refine wpAnyH_take (i := 4) (v := ?_) rfl (by kernel_rfl) (by kernel_rfl) (by kernel_rfl) (fun _ _ _ h => h) (Or.inl ⟨by kernel_rfl, ?_⟩) hHeld ?_
  rotate_left
  · intro w hSw
    obtain ⟨z1, z2, z3, z4, z5⟩ := hSw
    go_simp
    try with_reducible rfl
  refine wpAnyH_take (i := 5) (v := ?_) rfl (by kernel_rfl) (by kernel_rfl) (by kernel_rfl) (fun _ _ _ h => h) (Or.inl ⟨by kernel_rfl, ?_⟩) hHeld ?_
  rotate_left
  · intro w hSw
    obtain ⟨z1, z2, z3, z4, z5⟩ := hSw
    go_simp
    try with_reducible rfl
  refine wpAnyH_take (i := 6) (v := ?_) rfl (by kernel_rfl) (by kernel_rfl) (by kernel_rfl) (fun _ _ _ h => h) (Or.inl ⟨by kernel_rfl, ?_⟩) hHeld ?_
  rotate_left
  · intro w hSw
    obtain ⟨z1, z2, z3, z4, z5⟩ := hSw
    go_simp
    try with_reducible rfl
  have h9 := HX.out.below (Below.refl w1.heap.size w1).drew
  clear HX hHeld
  generalize World.drew w1 = X0 at h9 ⊢
  have HX := Lib.hid h9
  clear h9
  refine wpAnyH_ready (rs := [3]) (by kernel_rfl) (by simp) ?_
  refine AllReadyH.cons rfl (fun KK hKK => ?_) ?_
  · rw [if_pos (by kernel_rfl)]
    go_simp
    go_wp2_with (go_at_call 30; (with_reducible refine (HCA.out _ HX.out).mono ?_); rintro e wb ⟨rfl, rfl⟩)
    have h9 := HX.out
    clear HX
    have hs9 : _ ∧ _ := ⟨h9.rc.c0, h9.rc.c1⟩
    rw [hpl] at hs9
    refine hKK.out _ _ ⟨hs9.1, hs9.2, h9.rc.c2, h9.rc.c3, h9.op.c2⟩ (fun hHeld => ?_)
    clear hKK KK hs9
    have HX := Lib.hid h9
    clear h9
    refine wpAnyH_ready (rs := [7]) (by kernel_rfl) (by simp) ?_
    refine AllReadyH.cons rfl (fun KK hKK => ?_) ?_
    · rw [if_pos (by kernel_rfl)]
      go_simp
      go_wp2_with (go_at_call 31; (with_reducible refine (HD.out _ HX.out.bel).mono ?_); rintro e wb ⟨rfl, hbb⟩)
      have h9 := HX.out.below hbb
      clear HX hbb
      have hs9 : _ ∧ _ := ⟨h9.rc.c0, h9.rc.c1⟩
      rw [hpl] at hs9
      refine hKK.out _ _ ⟨hs9.1, hs9.2, h9.rc.c2, h9.rc.c3, h9.op.c2⟩ (fun hHeld => ?_)
      clear hKK KK hs9
      have HX := Lib.hid h9
      clear h9
      refine wpAnyH_take (i := 8) (v := ?_) rfl (by kernel_rfl) (by kernel_rfl) (by kernel_rfl) (fun _ _ _ h => h) (Or.inl ⟨by kernel_rfl, ?_⟩) hHeld ?_
      rotate_left
      · intro w hSw
        obtain ⟨z1, z2, z3, z4, z5⟩ := hSw
        go_simp
        try with_reducible rfl
      refine wpAnyH_ready (rs := [9]) (by kernel_rfl) (by simp) ?_
      refine AllReadyH.cons rfl (fun KK hKK => ?_) ?_
      · rw [if_pos (by kernel_rfl)]
        go_simp
        have h9 := HX.out
        clear HX
        have hs9 : _ ∧ _ := ⟨h9.rc.c0, h9.rc.c1⟩
        rw [hpl] at hs9
        refine hKK.out _ _ ⟨hs9.1, hs9.2, h9.rc.c2, h9.rc.c3, h9.op.c2⟩ (fun hHeld => ?_)
        clear hKK KK hs9
        have HX := Lib.hid h9
        clear h9
        clear hHeld
        refine wpAnyH_done (by kernel_rfl) ?_ _
        refine NoPanic.normal ?_
        go_wp2
        go_ret
        exact ⟨u, mv, told, asked, by simp, HX.out.st HREL.out, Nat.le_add_right _ _, HX.out.eff⟩
      exact AllReadyH.nil
    exact AllReadyH.nil
  exact AllReadyH.nil
set_option maxRecDepth 100000 in
set_option maxHeartbeats 8000000 in
theorem step2 (w0 w : World) (base q R : Nat) (lp : Value) (ps : List PostV) (IM : List UInt8) (a : Option Addr) (c u mv : Nat) (told asked : Bool) (h : StC w0 w base q R lp ps IM a ps.length c u mv told asked) (hr : RdPost w0 a ps.length ps) (hT : totalV ps ≤ 20000000) (hmv : mv ≤ 900000000000000) (which N : Int) (EA : Nat → Addr) (hS : Sent6 w0 EA) :
    Calls Tryd.prog 28 #[.pointer (some ⟨q, 0, none⟩), .pointer (some ⟨R, 0, none⟩), .agg #[.int .i64 2, .int .i64 which, .int .i64 N]] w (StepP w0 w base q R lp ps IM a ps.length c mv) := by
  obtain ⟨hl1, hl2, hl3⟩ := h.cur.lens
  obtain ⟨pl, hpl⟩ : ∃ pl : Int, (u : Int) - 1 = pl := ⟨_, rfl⟩
  have hts := h.ts 2 which N
  have hrel := h.rel
  have HREL := Lib.hid hrel
  have HS := Lib.hid hS
  have HR := Lib.hid hr
  obtain ⟨U, hU⟩ : ∃ U, (if stayU ps u N then u else firstU ps u N + 1) = U := ⟨_, rfl⟩
  obtain ⟨MV, hMV⟩ : ∃ M, (if stayU ps u N then mv else mv + costU u (firstU ps u N) ps.length) = M := ⟨_, rfl⟩
  obtain ⟨TD, hTD⟩ : ∃ t9, (if stayU ps u N then told else false) = t9 := ⟨_, rfl⟩
  obtain ⟨AD, hAD⟩ : ∃ t9, (if stayU ps u N then asked else false) = t9 := ⟨_, rfl⟩
  obtain ⟨UL, hUL⟩ : ∃ UL : Int, (U : Int) - 1 = UL := ⟨_, rfl⟩
  have hrel2 : posU ps U ≠ [] → TD = AD := by
    rw [← hU, ← hTD, ← hAD]
    split
    · exact hrel
    · intro _; rfl
  have hmv2 : MV ≤ mv + 200000000 := by
    rw [← hMV]
    split
    · omega
    · rename_i h9
      have := costU_le (firstU_ge ps u N) (firstU_le N (show u ≤ ps.length by unfold stayU at h9; omega))
      omega
  have hU3 : U ≤ ps.length + 1 := by
    rw [← hU]
    split
    · exact hl3
    · rename_i h9
      have := firstU_le N (show u ≤ ps.length by unfold stayU at h9; omega)
      omega
  have CA := fun (X : World) (s : TS w0 w X w.heap.size base q R lp ps IM a ps.length c u mv told U MV AD 2 which N) => adv_any X base q lp ps IM u mv told s.cur s.bz (by omega) N EA (HS.out.below s.bel)
  have CN := fun (X : World) (hb : Below w0.heap.size w0 X) => radv_any X a ps.length c ps (HR.out.below hb (Nat.le_refl _)) hl1 u mv asked hl3 (by omega) N
  have CD := fun (X : World) (hb : Below w0.heap.size w0 X) => rdoc_any X a ps.length c ps (HR.out.below hb (Nat.le_refl _)) hl1 U hU3 UL hUL MV AD
  unfold RcV at CN
  rw [hU, hMV, hTD] at CA
  rw [hU, hMV, hAD, hUL, hpl] at CN
  obtain ⟨D, hD⟩ : ∃ D, docU ps U = D := ⟨_, rfl⟩
  rw [hD] at CA CD
  have HX := Lib.hid hts
  have HCA := Lib.hid CA
  have HCN := Lib.hid CN
  have HD := Lib.hid CD
  have HUL := Lib.hid hUL
  have HREL2 := Lib.hid hrel2
  have HMV2 := Lib.hid hmv2
  clear hts CA CN CD hUL hrel2 hmv2 hU3 hU hMV hTD hAD hD h hr hS hrel hl2
  clear hl1 hl3
  go_enter Tryd.func28, Tryd.ntmps28
  go_upto_region 1 with fail
  generalize w.alloc (.cells #[.int .i64 2, .int .i64 which, .int .i64 N] 60) = w1 at HX ⊢
  obtain ⟨z, hz⟩ : ∃ z, w.heap.size = z := ⟨_, rfl⟩
  rw [hz] at HX ⊢
  have HZ := Lib.hid hz
  clear hz
  have k0 := HX.out.op.c0
  have k2 := HX.out.op.c2
  have rc := HX.out.rc
  rw [hpl] at rc
  have c0 := rc.c0
  have c1 := rc.c1
  have c2 := rc.c2
  have c3 := rc.c3
  clear rc
  rw [HZ.out] at HCA
  go_upto_region 6 with fail
  clear k0
  go_cut [] (fun wx => RowKit.Hid (TS w0 w wx z base q R lp ps IM a ps.length c u mv told U MV AD 2 which N))
  case first =>
    refine wp_region_any (by kernel_rfl) ?_
    change wpAny _ _ _ _ _ _ _ (World.drew _)
    have h9 := HX.out.below (Below.refl w1.heap.size w1).drew
    clear HX c0 c1 c2 c3 k2
    generalize World.drew w1 = X0 at h9 ⊢
    have HX := Lib.hid h9
    clear h9
    refine wpAny_take (i := 0) (v := ?_) rfl (by kernel_rfl) (by kernel_rfl) (by kernel_rfl) (fun _ _ _ h => h) (Or.inl ⟨by kernel_rfl, ?_⟩) ?_
    rotate_left
    · intro w; go_simp; try with_reducible rfl
    refine wpAny_take (i := 1) (v := ?_) rfl (by kernel_rfl) (by kernel_rfl) (by kernel_rfl) (fun _ _ _ h => h) (Or.inl ⟨by kernel_rfl, ?_⟩) ?_
    rotate_left
    · intro w; go_simp; try with_reducible rfl
    refine wpAny_take (i := 2) (v := ?_) rfl (by kernel_rfl) (by kernel_rfl) (by kernel_rfl) (fun _ _ _ h => h) (Or.inl ⟨by kernel_rfl, ?_⟩) ?_
    rotate_left
    · intro w; go_simp; try with_reducible rfl
    refine wpAny_take (i := 4) (v := ?_) rfl (by kernel_rfl) (by kernel_rfl) (by kernel_rfl) (fun _ _ _ h => h) (Or.inl ⟨by kernel_rfl, ?_⟩) ?_
    rotate_left
    · intro w; go_simp; try with_reducible rfl
    refine wpAny_ready (rs := [3, 5]) (by kernel_rfl) (by simp) ?_
    refine AllReady.cons rfl (fun KK hKK => ?_) ?_
    · rw [if_pos (by kernel_rfl)]
      have rc := HX.out.rc
      rw [hpl] at rc
      have c0 := rc.c0
      have c1 := rc.c1
      have c2 := rc.c2
      have c3 := rc.c3
      have f0 := blk_frozen rc.blk 0
      have f1 := blk_frozen rc.blk 1
      have f2 := blk_frozen rc.blk 2
      have f3 := blk_frozen rc.blk 3
      clear rc
      go_simp
      clear c0 c1 c2 c3 f0 f1 f2 f3
      refine hKK _ _ ?_
      clear hKK KK
      refine wpAny_ready (rs := [5]) (by kernel_rfl) (by simp) ?_
      refine AllReady.cons rfl (fun KK hKK => ?_) ?_
      · rw [if_pos (by kernel_rfl)]
        have k2 := HX.out.op.c2
        go_simp
        clear k2
        refine hKK _ _ ?_
        clear hKK KK
        refine wpAny_ready (rs := [6]) (by kernel_rfl) (by simp) ?_
        refine AllReady.cons rfl (fun KK hKK => ?_) ?_
        · rw [if_pos (by kernel_rfl)]
          go_simp
          go_wp2_with (go_at_call 57; (with_reducible refine (HCN.out _ HX.out.bel).mono ?_); rintro e w2 ⟨rfl, hb2⟩)
          have h9 := HX.out.below hb2
          clear HX hb2
          have HX := Lib.hid h9
          clear h9
          refine wpAny_take (i := 7) (v := ?_) rfl (by kernel_rfl) (by kernel_rfl) (by kernel_rfl) (fun _ _ _ h => h) (Or.inl ⟨by kernel_rfl, ?_⟩) ?_
          rotate_left
          · intro w; go_simp; try with_reducible rfl
          refine wpAny_ready (rs := [8]) (by kernel_rfl) (by simp) ?_
          refine AllReady.cons rfl (fun KK hKK => ?_) ?_
          · rw [if_pos (by kernel_rfl)]
            have rc := HX.out.rc
            rw [hpl] at rc
            have c0 := rc.c0
            have c1 := rc.c1
            have c2 := rc.c2
            have c3 := rc.c3
            have f0 := blk_frozen rc.blk 0
            have f1 := blk_frozen rc.blk 1
            have f2 := blk_frozen rc.blk 2
            have f3 := blk_frozen rc.blk 3
            clear rc
            have h9 := HX.out.put (U' := U) (MV' := MV) (AD' := AD) HUL.out
            clear HX
            have HX := Lib.hid h9
            clear h9
            go_simp
            refine hKK _ _ ?_
            clear hKK KK c0 c1 c2 c3 f0 f1 f2 f3
            refine wpAny_done (by kernel_rfl) ?_ _
            go_wp2_with fail
            go_meet
            exact HX
          exact AllReady.nil
        exact AllReady.nil
      exact AllReady.nil
    refine AllReady.cons rfl (fun KK hKK => ?_) ?_
    · rw [if_pos (by kernel_rfl)]
      have k2 := HX.out.op.c2
      go_simp
      clear k2
      refine hKK _ _ ?_
      clear hKK KK
      refine wpAny_ready (rs := [3]) (by kernel_rfl) (by simp) ?_
      refine AllReady.cons rfl (fun KK hKK => ?_) ?_
      · rw [if_pos (by kernel_rfl)]
        have rc := HX.out.rc
        rw [hpl] at rc
        have c0 := rc.c0
        have c1 := rc.c1
        have c2 := rc.c2
        have c3 := rc.c3
        have f0 := blk_frozen rc.blk 0
        have f1 := blk_frozen rc.blk 1
        have f2 := blk_frozen rc.blk 2
        have f3 := blk_frozen rc.blk 3
        clear rc
        go_simp
        clear c0 c1 c2 c3 f0 f1 f2 f3
        refine hKK _ _ ?_
        clear hKK KK
        refine wpAny_ready (rs := [6]) (by kernel_rfl) (by simp) ?_
        refine AllReady.cons rfl (fun KK hKK => ?_) ?_
        · rw [if_pos (by kernel_rfl)]
          go_simp
          go_wp2_with (go_at_call 57; (with_reducible refine (HCN.out _ HX.out.bel).mono ?_); rintro e w2 ⟨rfl, hb2⟩)
          have h9 := HX.out.below hb2
          clear HX hb2
          have HX := Lib.hid h9
          clear h9
          refine wpAny_take (i := 7) (v := ?_) rfl (by kernel_rfl) (by kernel_rfl) (by kernel_rfl) (fun _ _ _ h => h) (Or.inl ⟨by kernel_rfl, ?_⟩) ?_
          rotate_left
          · intro w; go_simp; try with_reducible rfl
          refine wpAny_ready (rs := [8]) (by kernel_rfl) (by simp) ?_
          refine AllReady.cons rfl (fun KK hKK => ?_) ?_
          · rw [if_pos (by kernel_rfl)]
            have rc := HX.out.rc
            rw [hpl] at rc
            have c0 := rc.c0
            have c1 := rc.c1
            have c2 := rc.c2
            have c3 := rc.c3
            have f0 := blk_frozen rc.blk 0
            have f1 := blk_frozen rc.blk 1
            have f2 := blk_frozen rc.blk 2
            have f3 := blk_frozen rc.blk 3
            clear rc
            have h9 := HX.out.put (U' := U) (MV' := MV) (AD' := AD) HUL.out
            clear HX
            have HX := Lib.hid h9
            clear h9
            go_simp
            refine hKK _ _ ?_
            clear hKK KK c0 c1 c2 c3 f0 f1 f2 f3
            refine wpAny_done (by kernel_rfl) ?_ _
            go_wp2_with fail
            go_meet
            exact HX
          exact AllReady.nil
        exact AllReady.nil
      exact AllReady.nil
    exact AllReady.nil
  case rest =>
  clear HX c0 c1 c2 c3
  have HX := hcut
  have rc := HX.out.rc
  rw [HUL.out] at rc
  have k2 := HX.out.op.c2
  have c0 := rc.c0
  have c1 := rc.c1
  have c2 := rc.c2
  have c3 := rc.c3
  clear rc
  go_upto_region 7 with fail
  obtain ⟨w3, hw3⟩ : ∃ w3, wc = w3 := ⟨_, rfl⟩
  rw [hw3] at HX k2 c0 c1 c2 c3 ⊢
  clear hw3 hcut
  refine wp_region_noPanic ?_
  refine wp_region_held_drew (S := fun W => W.cell? ⟨R, 0, none⟩ = some (.slice a ps.length c) ∧ W.cell? ⟨R, 1, none⟩ = some (.int .i64 UL) ∧ W.cell? ⟨R, 2, none⟩ = some (.int .i64 (MV : Nat)) ∧ W.cell? ⟨R, 3, none⟩ = some (.bool AD) ∧ W.cell? ⟨z, 2, none⟩ = some (.int .i64 N)) (by kernel_rfl) ⟨c0, c1, c2, c3, k2⟩ (fun hHeld => ?_)
  clear c0 c1 c2 c3 k2
  refine wpAnyH_take (i := 0) (v := ?_) rfl (by kernel_rfl) (by kernel_rfl) (by kernel_rfl) (fun _ _ _ h => h) (Or.inl ⟨by kernel_rfl, ?_⟩) hHeld ?_
  rotate_left
  · intro w hSw
    obtain ⟨z1, z2, z3, z4, z5⟩ := hSw
    go_simp
    try with_reducible rfl
  refine wpAnyH_take (i := 1) (v := ?_) rfl (by kernel_rfl) (by kernel_rfl) (by kernel_rfl) (fun _ _ _ h => h) (Or.inl ⟨by kernel_rfl, ?_⟩) hHeld ?_
  rotate_left
  · intro w hSw
    obtain ⟨z1, z2, z3, z4, z5⟩ := hSw
    go_simp
    try with_reducible rfl
  refine wpAnyH_take (i := 2) (v := ?_) rfl (by kernel_rfl) (by kernel_rfl) (by kernel_rfl) (fun _ _ _ h => h) (Or.inl ⟨by kernel_rfl, ?_⟩) hHeld ?_
  rotate_left
  · intro w hSw
    obtain ⟨z1, z2, z3, z4, z5⟩ := hSw
    go_simp
    try with_reducible rfl
  refine wpAnyH_take (i := 4) (v := ?_) rfl (by kernel_rfl) (by kernel_rfl) (by kernel_rfl) (fun _ _ _ h => h) (Or.inl ⟨by kernel_rfl, ?_⟩) hHeld ?_
  rotate_left
  · intro w hSw
    obtain ⟨z1, z2, z3, z4, z5⟩ := hSw
    go_simp
    try with_reducible rfl
  refine wpAnyH_take (i := 5) (v := ?_) rfl (by kernel_rfl) (by kernel_rfl) (by kernel_rfl) (fun _ _ _ h => h) (Or.inl ⟨by kernel_rfl, ?_⟩) hHeld ?_
  rotate_left
  · intro w hSw
    obtain ⟨z1, z2, z3, z4, z5⟩ := hSw
    go_simp
    try with_reducible rfl
  refine wpAnyH_take (i := 6) (v := ?_) rfl (by kernel_rfl) (by kernel_rfl) (by kernel_rfl) (fun _ _ _ h => h) (Or.inl ⟨by kernel_rfl, ?_⟩) hHeld ?_
  rotate_left
  · intro w hSw
    obtain ⟨z1, z2, z3, z4, z5⟩ := hSw
    go_simp
    try with_reducible rfl
  have h9 := HX.out.below (Below.refl w3.heap.size w3).drew
  clear HX hHeld
  generalize World.drew w3 = X0 at h9 ⊢
  have HX := Lib.hid h9
  clear h9
  refine wpAnyH_ready (rs := [3]) (by kernel_rfl) (by simp) ?_
  refine AllReadyH.cons rfl (fun KK hKK => ?_) ?_
  · rw [if_pos (by kernel_rfl)]
    go_simp
    go_wp2_with (go_at_call 34; (with_reducible refine (HCA.out _ HX.out).mono ?_); rintro e wa ⟨rfl, hca, hea⟩)
    have h9 := HX.out.moved hea hca
    clear HX hca hea
    have hs9 : _ ∧ _ := ⟨h9.rc.c0, h9.rc.c1⟩
    rw [HUL.out] at hs9
    refine hKK.out _ _ ⟨hs9.1, hs9.2, h9.rc.c2, h9.rc.c3, h9.op.c2⟩ (fun hHeld => ?_)
    clear hKK KK hs9
    have HX := Lib.hid h9
    clear h9
    refine wpAnyH_ready (rs := [7]) (by kernel_rfl) (by simp) ?_
    refine AllReadyH.cons rfl (fun KK hKK => ?_) ?_
    · rw [if_pos (by kernel_rfl)]
      go_simp
      go_wp2_with (go_at_call 31; (with_reducible refine (HD.out _ HX.out.bel).mono ?_); rintro e wb ⟨rfl, hbb⟩)
      have h9 := HX.out.below hbb
      clear HX hbb
      have hs9 : _ ∧ _ := ⟨h9.rc.c0, h9.rc.c1⟩
      rw [HUL.out] at hs9
      refine hKK.out _ _ ⟨hs9.1, hs9.2, h9.rc.c2, h9.rc.c3, h9.op.c2⟩ (fun hHeld => ?_)
      clear hKK KK hs9
      have HX := Lib.hid h9
      clear h9
      refine wpAnyH_take (i := 8) (v := ?_) rfl (by kernel_rfl) (by kernel_rfl) (by kernel_rfl) (fun _ _ _ h => h) (Or.inl ⟨by kernel_rfl, ?_⟩) hHeld ?_
      rotate_left
      · intro w hSw
        obtain ⟨z1, z2, z3, z4, z5⟩ := hSw
        go_simp
        try with_reducible rfl
      refine wpAnyH_ready (rs := [9]) (by kernel_rfl) (by simp) ?_
      refine AllReadyH.cons rfl (fun KK hKK => ?_) ?_
      · rw [if_pos (by kernel_rfl)]
        go_simp
        have h9 := HX.out
        clear HX
        have hs9 : _ ∧ _ := ⟨h9.rc.c0, h9.rc.c1⟩
        rw [HUL.out] at hs9
        refine hKK.out _ _ ⟨hs9.1, hs9.2, h9.rc.c2, h9.rc.c3, h9.op.c2⟩ (fun hHeld => ?_)
        clear hKK KK hs9
        have HX := Lib.hid h9
        clear h9
        clear hHeld
        refine wpAnyH_done (by kernel_rfl) ?_ _
        refine NoPanic.normal ?_
        go_wp2
        go_ret
        exact ⟨U, MV, TD, AD, by simp, HX.out.st HREL2.out, HMV2.out, HX.out.eff⟩
      exact AllReadyH.nil
    exact AllReadyH.nil
  exact AllReadyH.nil
set_option maxRecDepth 100000 in
set_option maxHeartbeats 8000000 in
theorem step3 (w0 w : World) (base q R : Nat) (lp : Value) (ps : List PostV) (IM : List UInt8) (a : Option Addr) (c u mv : Nat) (told asked : Bool) (h : StC w0 w base q R lp ps IM a ps.length c u mv told asked) (hr : RdPost w0 a ps.length ps) (hT : totalV ps ≤ 20000000) (hmv : mv ≤ 900000000000000) (which N : Int) (EA : Nat → Addr) (hS : Sent6 w0 EA) :
    Calls Tryd.prog 28 #[.pointer (some ⟨q, 0, none⟩), .pointer (some ⟨R, 0, none⟩), .agg #[.int .i64 3, .int .i64 which, .int .i64 N]] w (StepP w0 w base q R lp ps IM a ps.length c mv) := by
  obtain ⟨hl1, hl2, hl3⟩ := h.cur.lens
  obtain ⟨pl, hpl⟩ : ∃ pl : Int, (u : Int) - 1 = pl := ⟨_, rfl⟩
  have hts := h.ts 3 which N
  have hrel := h.rel
  have HREL := Lib.hid hrel
  have HS := Lib.hid hS
  have HR := Lib.hid hr
  have hdi := h.cur.doc_in
  have hti := tmod_in N
  have CF := fun (X : World) (hb : Below w0.heap.size w0 X) => rdoc_any X a ps.length c ps (HR.out.below hb (Nat.le_refl _)) hl1 u hl3 pl hpl mv asked
  obtain ⟨D0, hD0⟩ : ∃ D, docU ps u = D := ⟨_, rfl⟩
  rw [hD0] at CF hdi
  obtain ⟨M1, hM1⟩ : ∃ M, N.tmod 1000 = M := ⟨_, rfl⟩
  rw [hM1] at hti
  obtain ⟨T, hT9⟩ : ∃ T, D0 + M1 = T := ⟨_, rfl⟩
  have s1 : IntKind.i64.wrap M1 = M1 := by rw [IntKind.wrap_i64]; omega
  have s2 : IntKind.i64.wrap (D0 + M1) = T := by rw [IntKind.wrap_i64]; omega
  have HF := Lib.hid CF
  clear CF hD0 hdi hti hT9
  obtain ⟨U, hU⟩ : ∃ U, (if stayU ps u T then u else firstU ps u T + 1) = U := ⟨_, rfl⟩
  obtain ⟨MV, hMV⟩ : ∃ M, (if stayU ps u T then mv else mv + costU u (firstU ps u T) ps.length) = M := ⟨_, rfl⟩
  obtain ⟨TD, hTD⟩ : ∃ t9, (if stayU ps u T then told else false) = t9 := ⟨_, rfl⟩
  obtain ⟨AD, hAD⟩ : ∃ t9, (if stayU ps u T then asked else false) = t9 := ⟨_, rfl⟩
  obtain ⟨UL, hUL⟩ : ∃ UL : Int, (U : Int) - 1 = UL := ⟨_, rfl⟩
  have hrel2 : posU ps U ≠ [] → TD = AD := by
    rw [← hU, ← hTD, ← hAD]
    split
    · exact hrel
    · intro _; rfl
  have hmv2 : MV ≤ mv + 200000000 := by
    rw [← hMV]
    split
    · omega
    · rename_i h9
      have := costU_le (firstU_ge ps u T) (firstU_le T (show u ≤ ps.length by unfold stayU at h9; omega))
      omega
  have hU3 : U ≤ ps.length + 1 := by
    rw [← hU]
    split
    · exact hl3
    · rename_i h9
      have := firstU_le T (show u ≤ ps.length by unfold stayU at h9; omega)
      omega
  have CA := fun (X : World) (s : TS w0 w X w.heap.size base q R lp ps IM a ps.length c u mv told U MV AD 3 which N) => adv_any X base q lp ps IM u mv told s.cur s.bz (by omega) T EA (HS.out.below s.bel)
  have CN := fun (X : World) (hb : Below w0.heap.size w0 X) => radv_any X a ps.length c ps (HR.out.below hb (Nat.le_refl _)) hl1 u mv asked hl3 (by omega) T
  have CD := fun (X : World) (hb : Below w0.heap.size w0 X) => rdoc_any X a ps.length c ps (HR.out.below hb (Nat.le_refl _)) hl1 U hU3 UL hUL MV AD
  unfold RcV at CN
  rw [hU, hMV, hTD] at CA
  rw [hU, hMV, hAD, hUL, hpl] at CN
  obtain ⟨D, hD⟩ : ∃ D, docU ps U = D := ⟨_, rfl⟩
  rw [hD] at CA CD
  have HX := Lib.hid hts
  have HCA := Lib.hid CA
  have HCN := Lib.hid CN
  have HD := Lib.hid CD
  have HUL := Lib.hid hUL
  have HREL2 := Lib.hid hrel2
  have HMV2 := Lib.hid hmv2
  clear hts CA CN CD hUL hrel2 hmv2 hU3 hU hMV hTD hAD hD h hr hS hrel hl2
  clear hl1 hl3
  go_enter Tryd.func28, Tryd.ntmps28
  go_upto_region 1 with fail
  generalize w.alloc (.cells #[.int .i64 3, .int .i64 which, .int .i64 N] 60) = w1 at HX ⊢
  obtain ⟨z, hz⟩ : ∃ z, w.heap.size = z := ⟨_, rfl⟩
  rw [hz] at HX ⊢
  have HZ := Lib.hid hz
  clear hz
  have k0 := HX.out.op.c0
  have k2 := HX.out.op.c2
  have rc := HX.out.rc
  rw [hpl] at rc
  have c0 := rc.c0
  have c1 := rc.c1
  have c2 := rc.c2
  have c3 := rc.c3
  clear rc
  rw [HZ.out] at HCA
  go_upto_region 9 with fail
  clear k0
  go_cut [7] (fun s7 wx => s7 = .int .i64 T ∧ RowKit.Hid (TS w0 w wx z base q R lp ps IM a ps.length c u mv told u mv asked 3 which N))
  case first =>
    refine wp_region_noPanic ?_
    refine wp_region_held_drew (S := fun W => W.cell? ⟨R, 0, none⟩ = some (.slice a ps.length c) ∧ W.cell? ⟨R, 1, none⟩ = some (.int .i64 pl) ∧ W.cell? ⟨R, 2, none⟩ = some (.int .i64 (mv : Nat)) ∧ W.cell? ⟨R, 3, none⟩ = some (.bool asked) ∧ W.cell? ⟨z, 2, none⟩ = some (.int .i64 N)) (by kernel_rfl) ⟨c0, c1, c2, c3, k2⟩ (fun hHeld => ?_)
    clear c0 c1 c2 c3 k2
    refine wpAnyH_take (i := 0) (v := ?_) rfl (by kernel_rfl) (by kernel_rfl) (by kernel_rfl) (fun _ _ _ h => h) (Or.inl ⟨by kernel_rfl, ?_⟩) hHeld ?_
    rotate_left
    · intro w hSw
      obtain ⟨z1, z2, z3, z4, z5⟩ := hSw
      go_simp
      try with_reducible rfl
    refine wpAnyH_take (i := 1) (v := ?_) rfl (by kernel_rfl) (by kernel_rfl) (by kernel_rfl) (fun _ _ _ h => h) (Or.inl ⟨by kernel_rfl, ?_⟩) hHeld ?_
    rotate_left
    · intro w hSw
      obtain ⟨z1, z2, z3, z4, z5⟩ := hSw
      go_simp
      try with_reducible rfl
    refine wpAnyH_take (i := 2) (v := ?_) rfl (by kernel_rfl) (by kernel_rfl) (by kernel_rfl) (fun _ _ _ h => h) (Or.inl ⟨by kernel_rfl, ?_⟩) hHeld ?_
    rotate_left
    · intro w hSw
      obtain ⟨z1, z2, z3, z4, z5⟩ := hSw
      go_simp
      try with_reducible rfl
    refine wpAnyH_take (i := 4) (v := ?_) rfl (by kernel_rfl) (by kernel_rfl) (by kernel_rfl) (fun _ _ _ h => h) (Or.inl ⟨by kernel_rfl, ?_⟩) hHeld ?_
    rotate_left
    · intro w hSw
      obtain ⟨z1, z2, z3, z4, z5⟩ := hSw
      go_simp
      try with_reducible rfl
    refine wpAnyH_take (i := 5) (v := ?_) rfl (by kernel_rfl) (by kernel_rfl) (by kernel_rfl) (fun _ _ _ h => h) (Or.inl ⟨by kernel_rfl, ?_⟩) hHeld ?_
    rotate_left
    · intro w hSw
      obtain ⟨z1, z2, z3, z4, z5⟩ := hSw
      go_simp
      try with_reducible rfl
    refine wpAnyH_take (i := 6) (v := ?_) rfl (by kernel_rfl) (by kernel_rfl) (by kernel_rfl) (fun _ _ _ h => h) (Or.inl ⟨by kernel_rfl, ?_⟩) hHeld ?_
    rotate_left
    · intro w hSw
      obtain ⟨z1, z2, z3, z4, z5⟩ := hSw
      go_simp
      try with_reducible rfl
    have h9 := HX.out.below (Below.refl w1.heap.size w1).drew
    clear HX hHeld
    generalize World.drew w1 = X0 at h9 ⊢
    have HX := Lib.hid h9
    clear h9
    refine wpAnyH_ready (rs := [3]) (by kernel_rfl) (by simp) ?_
    refine AllReadyH.cons rfl (fun KK hKK => ?_) ?_
    · rw [if_pos (by kernel_rfl)]
      go_simp
      go_wp2_with (go_at_call 31; (with_reducible refine (HF.out _ HX.out.bel).mono ?_); rintro e wb ⟨rfl, hbb⟩)
      have h9 := HX.out.below hbb
      clear HX hbb
      have hs9 : _ ∧ _ := ⟨h9.rc.c0, h9.rc.c1⟩
      rw [hpl] at hs9
      refine hKK.out _ _ ⟨hs9.1, hs9.2, h9.rc.c2, h9.rc.c3, h9.op.c2⟩ (fun hHeld => ?_)
      clear hKK KK hs9
      have HX := Lib.hid h9
      clear h9
      refine wpAnyH_take (i := 7) (v := ?_) rfl (by kernel_rfl) (by kernel_rfl) (by kernel_rfl) (fun _ _ _ h => h) (Or.inl ⟨by kernel_rfl, ?_⟩) hHeld ?_
      rotate_left
      · intro w hSw
        obtain ⟨z1, z2, z3, z4, z5⟩ := hSw
        go_simp
        try with_reducible rfl
      refine wpAnyH_ready (rs := [8]) (by kernel_rfl) (by simp) ?_
      refine AllReadyH.cons rfl (fun KK hKK => ?_) ?_
      · rw [if_pos (by kernel_rfl)]
        go_simp
        have h9 := HX.out
        clear HX
        have hs9 : _ ∧ _ := ⟨h9.rc.c0, h9.rc.c1⟩
        rw [hpl] at hs9
        refine hKK.out _ _ ⟨hs9.1, hs9.2, h9.rc.c2, h9.rc.c3, h9.op.c2⟩ (fun hHeld => ?_)
        clear hKK KK hs9
        have HX := Lib.hid h9
        clear h9
        clear hHeld
        refine wpAnyH_done (by kernel_rfl) ?_ _
        refine NoPanic.normal ?_
        go_wp2_with fail
        go_meet
        exact ⟨rfl, HX⟩
      exact AllReadyH.nil
    exact AllReadyH.nil
  case rest =>
  clear HX c0 c1 c2 c3 k2 s1 s2 HF hM1
  obtain ⟨rfl, HX⟩ := hcut
  have rc := HX.out.rc
  rw [hpl] at rc
  have c0 := rc.c0
  have c1 := rc.c1
  have c2 := rc.c2
  have c3 := rc.c3
  have f0 := blk_frozen rc.blk 0
  have f1 := blk_frozen rc.blk 1
  have f2 := blk_frozen rc.blk 2
  have f3 := blk_frozen rc.blk 3
  clear rc
  clear f0 f1 f2 f3
  go_wp2_with fail
  with_reducible refine (HCN.out _ HX.out.bel).mono ?_
  rintro e w2 ⟨rfl, hb2⟩
  have h9 := HX.out.below hb2
  clear HX hb2 c0 c1 c2 c3
  have HX := Lib.hid h9
  clear h9
  have rc := HX.out.rc
  rw [hpl] at rc
  have c0 := rc.c0
  have c1 := rc.c1
  have c2 := rc.c2
  have c3 := rc.c3
  have f0 := blk_frozen rc.blk 0
  have f1 := blk_frozen rc.blk 1
  have f2 := blk_frozen rc.blk 2
  have f3 := blk_frozen rc.blk 3
  clear rc
  have h9 := HX.out.put (U' := U) (MV' := MV) (AD' := AD) HUL.out
  clear HX
  have HX := Lib.hid h9
  clear h9
  go_upto_region 11 with fail
  clear c0 c1 c2 c3 f0 f1 f2 f3
  generalize ((((w2.setCell ⟨R, 0, none⟩ (.slice a ps.length c)).setCell ⟨R, 1, none⟩ (.int .i64 UL)).setCell ⟨R, 2, none⟩ (.int .i64 (MV : Nat))).setCell ⟨R, 3, none⟩ (.bool AD)) = w3 at HX ⊢
  have rc := HX.out.rc
  rw [HUL.out] at rc
  have k2 := HX.out.op.c2
  have c0 := rc.c0
  have c1 := rc.c1
  have c2 := rc.c2
  have c3 := rc.c3
  clear rc
  refine wp_region_noPanic ?_
  refine wp_region_held_drew (S := fun W => W.cell? ⟨R, 0, none⟩ = some (.slice a ps.length c) ∧ W.cell? ⟨R, 1, none⟩ = some (.int .i64 UL) ∧ W.cell? ⟨R, 2, none⟩ = some (.int .i64 (MV : Nat)) ∧ W.cell? ⟨R, 3, none⟩ = some (.bool AD) ∧ W.cell? ⟨z, 2, none⟩ = some (.int .i64 N)) (by kernel_rfl) ⟨c0, c1, c2, c3, k2⟩ (fun hHeld => ?_)
  clear c0 c1 c2 c3 k2
  refine wpAnyH_take (i := 0) (v := ?_) rfl (by kernel_rfl) (by kernel_rfl) (by kernel_rfl) (fun _ _ _ h => h) (Or.inl ⟨by kernel_rfl, ?_⟩) hHeld ?_
  rotate_left
  · intro w hSw
    obtain ⟨z1, z2, z3, z4, z5⟩ := hSw
    go_simp
    try with_reducible rfl
  refine wpAnyH_take (i := 1) (v := ?_) rfl (by kernel_rfl) (by kernel_rfl) (by kernel_rfl) (fun _ _ _ h => h) (Or.inl ⟨by kernel_rfl, ?_⟩) hHeld ?_
  rotate_left
  · intro w hSw
    obtain ⟨z1, z2, z3, z4, z5⟩ := hSw
    go_simp
    try with_reducible rfl
  refine wpAnyH_take (i := 3) (v := ?_) rfl (by kernel_rfl) (by kernel_rfl) (by kernel_rfl) (fun _ _ _ h => h) (Or.inl ⟨by kernel_rfl, ?_⟩) hHeld ?_
  rotate_left
  · intro w hSw
    obtain ⟨z1, z2, z3, z4, z5⟩ := hSw
    go_simp
    try with_reducible rfl
  refine wpAnyH_take (i := 4) (v := ?_) rfl (by kernel_rfl) (by kernel_rfl) (by kernel_rfl) (fun _ _ _ h => h) (Or.inl ⟨by kernel_rfl, ?_⟩) hHeld ?_
  rotate_left
  · intro w hSw
    obtain ⟨z1, z2, z3, z4, z5⟩ := hSw
    go_simp
    try with_reducible rfl
  refine wpAnyH_take (i := 5) (v := ?_) rfl (by kernel_rfl) (by kernel_rfl) (by kernel_rfl) (fun _ _ _ h => h) (Or.inl ⟨by kernel_rfl, ?_⟩) hHeld ?_
  rotate_left
  · intro w hSw
    obtain ⟨z1, z2, z3, z4, z5⟩ := hSw
    go_simp
    try with_reducible rfl
  have h9 := HX.out.below (Below.refl w3.heap.size w3).drew
  clear HX hHeld
  generalize World.drew w3 = X0 at h9 ⊢
  have HX := Lib.hid h9
  clear h9
  refine wpAnyH_ready (rs := [2]) (by kernel_rfl) (by simp) ?_
  refine AllReadyH.cons rfl (fun KK hKK => ?_) ?_
  · rw [if_pos (by kernel_rfl)]
    go_simp
    go_wp2_with (go_at_call 34; (with_reducible refine (HCA.out _ HX.out).mono ?_); rintro e wa ⟨rfl, hca, hea⟩)
    have h9 := HX.out.moved hea hca
    clear HX hca hea
    have hs9 : _ ∧ _ := ⟨h9.rc.c0, h9.rc.c1⟩
    rw [HUL.out] at hs9
    refine hKK.out _ _ ⟨hs9.1, hs9.2, h9.rc.c2, h9.rc.c3, h9.op.c2⟩ (fun hHeld => ?_)
    clear hKK KK hs9
    have HX := Lib.hid h9
    clear h9
    refine wpAnyH_ready (rs := [6]) (by kernel_rfl) (by simp) ?_
    refine AllReadyH.cons rfl (fun KK hKK => ?_) ?_
    · rw [if_pos (by kernel_rfl)]
      go_simp
      go_wp2_with (go_at_call 31; (with_reducible refine (HD.out _ HX.out.bel).mono ?_); rintro e wb ⟨rfl, hbb⟩)
      have h9 := HX.out.below hbb
      clear HX hbb
      have hs9 : _ ∧ _ := ⟨h9.rc.c0, h9.rc.c1⟩
      rw [HUL.out] at hs9
      refine hKK.out _ _ ⟨hs9.1, hs9.2, h9.rc.c2, h9.rc.c3, h9.op.c2⟩ (fun hHeld => ?_)
      clear hKK KK hs9
      have HX := Lib.hid h9
      clear h9
      refine wpAnyH_take (i := 7) (v := ?_) rfl (by kernel_rfl) (by kernel_rfl) (by kernel_rfl) (fun _ _ _ h => h) (Or.inl ⟨by kernel_rfl, ?_⟩) hHeld ?_
      rotate_left
      · intro w hSw
        obtain ⟨z1, z2, z3, z4, z5⟩ := hSw
        go_simp
        try with_reducible rfl
      refine wpAnyH_ready (rs := [8]) (by kernel_rfl) (by simp) ?_
      refine AllReadyH.cons rfl (fun KK hKK => ?_) ?_
      · rw [if_pos (by kernel_rfl)]
        go_simp
        have h9 := HX.out
        clear HX
        have hs9 : _ ∧ _ := ⟨h9.rc.c0, h9.rc.c1⟩
        rw [HUL.out] at hs9
        refine hKK.out _ _ ⟨hs9.1, hs9.2, h9.rc.c2, h9.rc.c3, h9.op.c2⟩ (fun hHeld => ?_)
        clear hKK KK hs9
        have HX := Lib.hid h9
        clear h9
        clear hHeld
        refine wpAnyH_done (by kernel_rfl) ?_ _
        refine NoPanic.normal ?_
        go_wp2
        go_ret
        exact ⟨U, MV, TD, AD, by simp, HX.out.st HREL2.out, HMV2.out, HX.out.eff⟩
      exact AllReadyH.nil
    exact AllReadyH.nil
  exact AllReadyH.nil
set_option maxRecDepth 100000 in
set_option maxHeartbeats 8000000 in
theorem step5 (w0 w : World) (base q R : Nat) (lp : Value) (ps : List PostV) (IM : List UInt8) (a : Option Addr) (c u mv : Nat) (told asked : Bool) (h : StC w0 w base q R lp ps IM a ps.length c u mv told asked) (hr : RdPost w0 a ps.length ps) (hT : totalV ps ≤ 20000000) (hmv : mv ≤ 900000000000000) (which N : Int) (EA : Nat → Addr) (hS : Sent6 w0 EA) :
    Calls Tryd.prog 28 #[.pointer (some ⟨q, 0, none⟩), .pointer (some ⟨R, 0, none⟩), .agg #[.int .i64 5, .int .i64 which, .int .i64 N]] w (StepP w0 w base q R lp ps IM a ps.length c mv) := by
  obtain ⟨hl1, hl2, hl3⟩ := h.cur.lens
  obtain ⟨pl, hpl⟩ : ∃ pl : Int, (u : Int) - 1 = pl := ⟨_, rfl⟩
  have hts := h.ts 5 which N
  have hrel := h.rel
  have HREL := Lib.hid hrel
  have HS := Lib.hid hS
  have HR := Lib.hid hr
  have hple := posU_le hl2 u
  have CA := fun (X : World) (AD : Bool) (MV : Nat) (s : TS w0 w X w.heap.size base q R lp ps IM a ps.length c u mv told u MV AD 5 which N) => posi_any X base q lp ps IM u mv told s.cur s.bz (by omega) EA (HS.out.below s.bel)
  have CH := fun (X : World) (hb : Below w0.heap.size w0 X) => rhere_any w0 X hb a ps.length c ps HR.out hl1 u hl3 pl hpl mv asked
  have CN := fun (X : World) (hb : Below w0.heap.size w0 X) => rposi_any X a ps.length c ps (HR.out.below hb (Nat.le_refl _)) hl1 u mv asked hl3 (by omega) hple
  unfold RcV at CN
  rw [hpl] at CN
  obtain ⟨MV, hMV⟩ : ∃ M, (if asked = true then mv else mv + (posU ps u).length) = M := ⟨_, rfl⟩
  obtain ⟨TD, hTD⟩ : ∃ T, (if posU ps u = [] then told else true) = T := ⟨_, rfl⟩
  have hmve : (if posU ps u = [] ∨ told = true then mv else mv + (posU ps u).length) = MV := by
    rw [← hMV]
    by_cases h1 : posU ps u = []
    · rw [if_pos (.inl h1), h1]; split <;> rfl
    · rw [hrel h1]
      by_cases h2 : asked = true
      · rw [if_pos (.inr h2), if_pos h2]
      · rw [if_neg (by rintro (h | h); exact h1 h; exact h2 h), if_neg h2]
  have hrel2 : posU ps u ≠ [] → TD = true := fun h1 => by rw [← hTD, if_neg h1]
  have hmv2 : MV ≤ mv + 200000000 := by rw [← hMV]; split <;> omega
  rw [hMV] at CN
  have hPP : ∀ (X : World) e w', PosP X base q lp ps IM u mv told e w' → ∃ v, e = .returned v ∧ Own w' X.heap.size 3 v (intL (posU ps u)) ∧ CurAt w' base q lp ps IM u MV TD ∧ Eff (· = q) X w' := fun X e w' hp => by
    obtain ⟨v, h1, h2, h3, h4⟩ := hp
    rw [hmve, hTD] at h3
    exact ⟨v, h1, h2, h3, h4⟩
  have CA2 := fun (X : World) (AD : Bool) (MV : Nat) (s : TS w0 w X w.heap.size base q R lp ps IM a ps.length c u mv told u MV AD 5 which N) => (CA X AD MV s).mono (hPP X)
  obtain ⟨L, hL⟩ : ∃ L, posU ps u = L := ⟨_, rfl⟩
  simp only [hL] at CA2 CH hple
  have HX := Lib.hid hts
  have HCA := Lib.hid CA2
  have HCN := Lib.hid CN
  have HH := Lib.hid CH
  have HREL2 := Lib.hid hrel2
  have HMV2 := Lib.hid hmv2
  clear hts CA CA2 CN CH hPP hrel2 hmv2 hmve hMV hTD hL h hr hS hrel hl1 hl2 hl3
  go_enter Tryd.func28, Tryd.ntmps28
  go_upto_region 1 with fail
  generalize w.alloc (.cells #[.int .i64 5, .int .i64 which, .int .i64 N] 60) = w1 at HX ⊢
  obtain ⟨z, hz⟩ : ∃ z, w.heap.size = z := ⟨_, rfl⟩
  rw [hz] at HX ⊢
  have HZ := Lib.hid hz
  clear hz
  have k0 := HX.out.op.c0
  have k2 := HX.out.op.c2
  have rc := HX.out.rc
  rw [hpl] at rc
  have c0 := rc.c0
  have c1 := rc.c1
  have c2 := rc.c2
  have c3 := rc.c3
  clear rc
  rw [HZ.out] at HCA
  go_wp2_with fail
  with_reducible refine (HH.out _ HX.out.bel).mono ?_
  rintro e w2 ⟨A9, C9, rfl, hrd, hb2⟩
  have HRD := Lib.hid hrd
  have h9 := HX.out.below hb2
  clear HX hb2 hrd c0 c1 c2 c3 k0 k2 HH
  have HX := Lib.hid h9
  clear h9
  have rc := HX.out.rc
  rw [hpl] at rc
  have c0 := rc.c0
  have c1 := rc.c1
  have c2 := rc.c2
  have c3 := rc.c3
  have f0 := blk_frozen rc.blk 0
  have f1 := blk_frozen rc.blk 1
  have f2 := blk_frozen rc.blk 2
  have f3 := blk_frozen rc.blk 3
  clear rc
  clear f0 f1 f2 f3
  go_wp2_with fail
  with_reducible refine (HCN.out _ HX.out.bel).mono ?_
  rintro e w4 ⟨rfl, hb4⟩
  have h9 := HX.out.below hb4
  clear HX hb4 c0 c1 c2 c3
  have HX := Lib.hid h9
  clear h9
  have rc := HX.out.rc
  rw [hpl] at rc
  have c0 := rc.c0
  have c1 := rc.c1
  have c2 := rc.c2
  have c3 := rc.c3
  have f0 := blk_frozen rc.blk 0
  have f1 := blk_frozen rc.blk 1
  have f2 := blk_frozen rc.blk 2
  have f3 := blk_frozen rc.blk 3
  clear rc
  have h9 := HX.out.put (U' := u) (MV' := MV) (AD' := true) hpl
  clear HX
  have HX := Lib.hid h9
  clear h9
  go_upto_region 17 with fail
  clear c0 c1 c2 c3 f0 f1 f2 f3
  generalize ((((w4.setCell ⟨R, 0, none⟩ (.slice a ps.length c)).setCell ⟨R, 1, none⟩ (.int .i64 pl)).setCell ⟨R, 2, none⟩ (.int .i64 (MV : Nat))).setCell ⟨R, 3, none⟩ (.bool true)) = w3 at HX ⊢
  go_wp2_with fail
  with_reducible refine (HCA.out _ _ _ HX.out).mono ?_
  rintro e wa ⟨v, rfl, hov, hca, hea⟩
  have h9 := HX.out.moved hea hca
  clear HX hca hea HCA HCN
  have HX := Lib.hid h9
  clear h9
  obtain ⟨Ap, Cp, hv⟩ := own_slice hov
  rw [intL_length] at hv
  subst hv
  have C9 := samei_any wa Ap A9 L.length L.length Cp C9 L L hov.rd (HRD.out.below HX.out.bel (Nat.le_refl _)) (by omega) (by omega)
  rw [show decide (L = L) = true from decide_eq_true rfl] at C9
  clear hov HRD
  go_wp2_with fail
  with_reducible refine C9.mono ?_
  rintro e wb ⟨rfl, d9, rfl⟩
  have h9 := HX.out.below (below_drewN (Below.refl wa.heap.size wa) d9)
  clear HX C9
  have HX := Lib.hid h9
  clear h9
  go_wp2
  go_ret
  exact ⟨u, MV, TD, true, rfl, HX.out.st HREL2.out, HMV2.out, HX.out.eff⟩
end Go.Proofs.YtaijepjhmjjecaaDoor
