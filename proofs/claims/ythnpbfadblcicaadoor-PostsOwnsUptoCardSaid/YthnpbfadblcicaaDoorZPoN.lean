/- PostsOwns: the law's positions, copied. -/
import Derived.Test.YthnpbfadblcicaaDoorZPoA
import Derived.Deep.RegionHeld3
namespace Go.Proofs.YthnpbfadblcicaaDoor
set_option linter.unusedVariables false
open Go.ChangeShapes Go.WideShapes Go.ChangeAt Go.RowKit

theorem elLL9 : Elem Tryd.prog 62 51 (.slice none 0 0) 24 := ⟨Tryd.underlying62, by kernel_rfl, rfl, by decide⟩
theorem elInt9 : Elem Tryd.prog 51 3 (.int .i64 0) 8 := ⟨Tryd.underlying51, by kernel_rfl, rfl, by decide⟩
set_option maxRecDepth 100000 in
set_option maxHeartbeats 2000000 in
theorem positions_any (w : World) (base : Nat) (a : Option Addr) (n c : Nat) (ps : List PostV) (vs : Nat → Value) (hr : RowP w base (.slice a n c) ps vs) (hl : ps.length ≤ 1000000000) :
    Calls Tryd.prog 52 #[.slice a n c] w fun e w' => ∃ A C, e = .returned (.slice A ps.length C) ∧ Own w' w.heap.size 51 (.slice A ps.length C) ((List.range ps.length).map vs) ∧ Below w.heap.size w w' := by
  have hn : n = ps.length := by
    obtain ⟨_, _, e, _⟩ := hr.sl
    injection e
  subst hn
  have HR := Lib.hid (show ∀ X, Below w.heap.size w X → RowP X base (.slice a ps.length c) ps vs from fun X h => hr.below h (Nat.le_refl _))
  have hoE := own_empty w w.heap.size 51 (Nat.le_refl _)
  have hbE := (Below.refl w.heap.size w).alloc (Nat.le_refl _) (.cells #[] 51)
  have HOE := Lib.hid hoE
  have HBE := Lib.hid hbE
  clear hr hoE hbE
  go_enter Tryd.func52, Tryd.ntmps52
  go_wp2
  go_loopw [3, 5, 9] (fun s3 s5 s9 wr => ∃ (i : Nat) (A : Option Addr) (C : Nat) (t5 : Value), s3 = .slice A i C ∧ s5 = t5 ∧ s9 = .int .i64 i ∧ i ≤ ps.length ∧ RowKit.Hid (Own wr w.heap.size 51 (.slice A i C) ((List.range i).map vs)) ∧ RowKit.Hid (Below w.heap.size w wr)) (fun _ _ s9 _ => ps.length - (intOf s9).toNat)
  case atStart => exact ⟨0, _, _, _, rfl, rfl, rfl, Nat.zero_le _, HOE, HBE⟩
  case round =>
    clear HOE HBE
    obtain ⟨i, A, C, t5, rfl, rfl, rfl, hi, HO, HB⟩ := hrel
    by_cases hlt : i < ps.length
    · have hr := HR.out _ HB.out
      obtain ⟨g, rfl, _, _, c0, c1, _⟩ := hr.at_ i hlt
      obtain ⟨A2, C2, hv⟩ := own_slice (hr.own i hlt)
      have HV := Lib.hid hv
      rw [hv] at c1
      have i1 : (i : Int) < (ps.length : Int) := by omega
      obtain ⟨dc, hdc⟩ : ∃ d, ps[i].doc = d := ⟨_, rfl⟩
      rw [hdc] at c0
      obtain ⟨ln, hln⟩ : ∃ d, (intL ps[i].pos).length = d := ⟨_, rfl⟩
      rw [hln] at c1 hv
      have HV := Lib.hid hv
      clear hr hv hdc hln
      go_upto_region 5 with fail
      have hX := heap_alloc_new wr (.cells #[.int .i64 dc, .slice A2 ln C2] 53)
      have hba := (Below.refl wr.heap.size wr).alloc (Nat.le_refl _) (.cells #[.int .i64 dc, .slice A2 ln C2] 53)
      have hwz := HB.out.size
      have ho := HO.out.below hba (Nat.le_refl _)
      have hb2 := HB.out.trans (hba.mono hwz)
      generalize wr.alloc (.cells #[.int .i64 dc, .slice A2 ln C2] 53) = wX at hX ho hb2 ⊢
      generalize wr.heap.size = z at hX ⊢
      have k1 : wX.cell? ⟨z, 1, none⟩ = some (.slice A2 ln C2) := blk_cell hX 1
      have hl9 : ((List.range i).map vs).length < 1000000000000 := by rw [List.length_map, List.length_range]; omega
      have HO2 := Lib.hid ho
      have HL9 := Lib.hid hl9
      have hz2 := hb2.size
      have HB2 := Lib.hid hb2
      clear c0 c1 hX hba ho hb2 hl9 HO HB hwz
      go_wp2_with (at_builtin; with_reducible refine ap1' elLL9 rfl HO2.out HL9.out hz2 rfl _ _ rfl rfl rfl ?_)
      intro v3 w3 g1 g2 g3 g4
      have hb3 := HB2.out.grown g4 hz2 (fun k hk => (HO2.out.lt k hk).1)
      have e9 : (List.range i).map vs ++ [.slice A2 ln C2] = (List.range (i + 1)).map vs := by rw [List.range_succ, List.map_append, List.map_singleton, HV.out]
      rw [e9] at g1
      obtain ⟨A3, C3, hv3⟩ := own_slice g1
      rw [List.length_map, List.length_range] at hv3
      subst hv3
      have HO3 := Lib.hid g1
      have HB3 := Lib.hid hb3
      clear g1 g2 g3 g4 hb3 e9 HO2 HB2 HL9 hz2 k1
      go_wp2
      go_roundw
      case rel => exact ⟨i + 1, A3, C3, _, rfl, rfl, by go_num, by omega, HO3, HB3⟩
      case measure => simp [intOf]; omega
    · obtain rfl : i = ps.length := by omega
      have i1 : ¬ ((ps.length : Int) < (ps.length : Int)) := by omega
      go_wp2
      go_ret
      exact ⟨_, _, rfl, HO.out, HB.out⟩
theorem rowP_one {w : World} {base y : Nat} {d : Int} {pos : List Int} {s : Value} (hy : w.heap[y]? = some (.cells #[.int .i64 d, s] 53 (0, 0))) (hb : base ≤ y) (hs : Own w base 3 s (intL pos)) : RowP w base (.slice (some ⟨y, 0, none⟩) 1 1) [⟨d, pos⟩] (fun _ => s) :=
  ⟨⟨by simp [pcells_length], .inr ⟨y, 1, _, rfl, hb, hy, Nat.le_refl _, by unfold maxLen; omega, rfl, by rw [pcells_one]; rfl⟩⟩, fun k hk => by
    have : k = 0 := by simpa using hk
    subst this
    exact hs, fun k l b hk hl hkl => by
    have h1 : k = 0 := by simpa using hk
    have h2 : l = 0 := by simpa using hl
    omega⟩
set_option maxRecDepth 100000 in
theorem step_apPs {w : World} {base b2 : Nat} {v : Value} {ps ps2 : List PostV} {vs vs2 : Nat → Value} {a2 : Option Addr} {n2 c2 : Nat} (hown : RowP w base v ps vs) (h2 : RowP w b2 (.slice a2 n2 c2) ps2 vs2) (hsep : ∀ k l b, k < ps.length → l < ps2.length → (vs k).ownBlock = some b → (vs2 l).ownBlock ≠ some b) (hge : base ≤ b2)
    (hlen : ps.length + ps2.length ≤ 1000000000) (hbase : base ≤ w.heap.size)
    {ops : Array Oper} {o : Oper} {a : Act} {K : Act → World → Prop} {Q : Exit → Act → World → Prop} {F : Prop} (hgd : o.guard = none) (x y : Operand)
    (ho : o.op = .call { callee := .builtin .append, args := #[x, y], argTypes := #[22, 22] }) (hx : a.eval x = v) (hy : a.eval y = .slice a2 n2 c2)
    (h : ∀ v' w', RowP w' base v' (ps ++ ps2) (fun k => if k < ps.length then vs k else vs2 (k - ps.length)) → w.grownBy w' v.ownBlock → K (a.put o.dst v') w') :
    if Region.wanted o (yielded ops a.tmps) = true then Oper.wp Tryd.prog o a w K Q else F := by
  rw [if_pos (by simp [Region.wanted, hgd])]
  obtain ⟨v', w', hr, k2, k3⟩ := run_apPs o.type hown h2 hsep hge hlen hbase (c2 := c2)
  unfold Oper.wp execOp
  simp only [ho, resolve, invoke, builtin, Sem.run_bind, Sem.run_pure, Result.andThen_ok, List.map_toArray, List.map_cons, List.map_nil, hx, hy, hr]
  exact h v' w' k2 k3
set_option maxRecDepth 100000 in
set_option maxHeartbeats 4000000 in
theorem copied_any (w : World) (a : Option Addr) (n c : Nat) (ps : List PostV) (hr : RdPost w a n ps) (hl : ps.length ≤ 100000000) (hp : ∀ p ∈ ps, p.pos.length ≤ 100000000) :
    Calls Tryd.prog 27 #[.slice a n c] w fun e w' => ∃ A C, e = .returned (.slice A ps.length C) ∧ (∃ vs, RowP w' w.heap.size (.slice A ps.length C) ps vs) ∧ Below w.heap.size w w' := by
  obtain rfl := hr.1
  have HR := Lib.hid (show ∀ X, Below w.heap.size w X → RdPost X a ps.length ps from fun X h => hr.below h (Nat.le_refl _))
  have hoE := rowP_empty w w.heap.size (Nat.le_refl _)
  have hbE := (Below.refl w.heap.size w).alloc (Nat.le_refl _) (.cells #[] 53)
  have HOE := Lib.hid hoE
  have HBE := Lib.hid hbE
  have HP := Lib.hid hp
  clear hr hoE hbE hp
  go_enter Tryd.func27, Tryd.ntmps27
  go_wp2
  go_loopw [3, 5, 9] (fun s3 s5 s9 wr => ∃ (i : Nat) (A : Option Addr) (C : Nat) (t5 : Value), s3 = .slice A i C ∧ s5 = t5 ∧ s9 = .int .i64 i ∧ i ≤ ps.length ∧ RowKit.Hid (∃ vs, RowP wr w.heap.size (.slice A i C) (ps.take i) vs) ∧ RowKit.Hid (Below w.heap.size w wr)) (fun _ _ s9 _ => ps.length - (intOf s9).toNat)
  case atStart => exact ⟨0, _, _, _, rfl, rfl, rfl, Nat.zero_le _, Lib.hid ⟨_, by rw [List.take_zero]; exact HOE.out⟩, HBE⟩
  case round =>
    clear HOE HBE
    obtain ⟨i, A, C, t5, rfl, rfl, rfl, hi, HO, HB⟩ := hrel
    by_cases hlt : i < ps.length
    · obtain ⟨b, o, rfl, hg⟩ := (HR.out _ HB.out).2 (by omega)
      obtain ⟨g0, Ap, Cp, g1, hrd⟩ := hg i hlt
      have hpl := HP.out _ (List.getElem_mem hlt)
      obtain ⟨dc, hdc⟩ : ∃ d, ps[i].doc = d := ⟨_, rfl⟩
      obtain ⟨pv, hpv⟩ : ∃ d, ps[i].pos = d := ⟨_, rfl⟩
      rw [hdc] at g0
      rw [hpv] at g1 hrd hpl
      have hps : ps[i] = ⟨dc, pv⟩ := by rw [← hdc, ← hpv]
      have HPS := Lib.hid hps
      have i1 : (i : Int) < (ps.length : Int) := by omega
      clear hg hdc hpv hps
      go_upto_region 5 with fail
      have hX := heap_alloc_new wr (.cells #[.int .i64 dc, .slice Ap pv.length Cp] 53)
      have hba := (Below.refl wr.heap.size wr).alloc (Nat.le_refl _) (.cells #[.int .i64 dc, .slice Ap pv.length Cp] 53)
      have hwz := HB.out.size
      obtain ⟨vs, hrow⟩ := HO.out
      have hzt : ¬ (Value.slice A i C).ownBlock = some wr.heap.size := fun h9 => by have := (hrow.lt _ h9).2; omega
      have hro := hrow.below hba (Nat.le_refl _)
      have hrd2 := hrd.below hba (Nat.le_refl _)
      have hb2 := HB.out.trans (hba.mono hwz)
      generalize wr.alloc (.cells #[.int .i64 dc, .slice Ap pv.length Cp] 53) = wX at hX hro hrd2 hb2 ⊢
      generalize wr.heap.size = z at hX hzt ⊢
      have HZT := Lib.hid hzt
      have hzz : z < wX.heap.size := lt_of_heap hX
      have HX := Lib.hid (show ∀ X, Below wX.heap.size wX X → X.cell? ⟨z, 0, none⟩ = some (.int .i64 dc) ∧ X.cell? ⟨z, 1, none⟩ = some (.slice Ap pv.length Cp) from fun X e => by
        have h9 := (e.block z hzz).trans hX
        exact ⟨blk_cell h9 0, blk_cell h9 1⟩)
      have HRW := Lib.hid (show ∀ X, Below wX.heap.size wX X → RowP X w.heap.size (.slice A i C) (ps.take i) vs from fun X h => hro.below h (Nat.le_refl _))
      have HRL := Lib.hid (show ∀ X, Below wX.heap.size wX X → Rd X (.slice Ap pv.length Cp) (intL pv) from fun X h => hrd2.below h (Nat.le_refl _))
      have hwX := hb2.size
      have HBX := Lib.hid hb2
      have HFR := Lib.hid (show ∀ k b, k < i → (vs k).ownBlock = some b → b < wX.heap.size from fun k b hk hb => ((hro.own k (by rw [List.length_take]; omega)).lt b hb).2)
      clear g0 g1 hrd hX hba hrow hro hrd2 hb2 HO HB hwz hzz hzt
      refine wp_region_noPanic ?_
      refine wp_region_held_drew (S := fun X => X.cell? ⟨z, 0, none⟩ = some (.int .i64 dc) ∧ X.cell? ⟨z, 1, none⟩ = some (.slice Ap pv.length Cp)) (by kernel_rfl) (HX.out _ (Below.refl wX.heap.size wX).drew) (fun hHeld => ?_)
      refine wpAnyH_take (i := 0) (v := ?_) rfl (by kernel_rfl) (by kernel_rfl) (by kernel_rfl) (fun _ _ _ h => h) (Or.inl ⟨by kernel_rfl, ?_⟩) hHeld ?_
      rotate_left
      · intro w hSw
        obtain ⟨z1, z2⟩ := hSw
        go_simp
        try with_reducible rfl
      refine wpAnyH_take (i := 1) (v := ?_) rfl (by kernel_rfl) (by kernel_rfl) (by kernel_rfl) (fun _ _ _ h => h) (Or.inl ⟨by kernel_rfl, ?_⟩) hHeld ?_
      rotate_left
      · intro w hSw
        obtain ⟨z1, z2⟩ := hSw
        go_simp
        try with_reducible rfl
      refine wpAnyH_take (i := 2) (v := ?_) rfl (by kernel_rfl) (by kernel_rfl) (by kernel_rfl) (fun _ _ _ h => h) (Or.inl ⟨by kernel_rfl, ?_⟩) hHeld ?_
      rotate_left
      · intro w hSw
        obtain ⟨z1, z2⟩ := hSw
        go_simp
        try with_reducible rfl
      refine wpAnyH_take (i := 4) (v := ?_) rfl (by kernel_rfl) (by kernel_rfl) (by kernel_rfl) (fun _ _ _ h => h) (Or.inl ⟨by kernel_rfl, ?_⟩) hHeld ?_
      rotate_left
      · intro w hSw
        obtain ⟨z1, z2⟩ := hSw
        go_simp
        try with_reducible rfl
      refine wpAnyH_take (i := 5) (v := ?_) rfl (by kernel_rfl) (by kernel_rfl) (by kernel_rfl) (fun _ _ _ h => h) (Or.inl ⟨by kernel_rfl, ?_⟩) hHeld ?_
      rotate_left
      · intro w hSw
        obtain ⟨z1, z2⟩ := hSw
        go_simp
        try with_reducible rfl
      have hb0 := (Below.refl wX.heap.size wX).drew
      generalize World.drew wX = X0 at hb0 hHeld ⊢
      refine wpAnyH_ready (rs := [3]) (by kernel_rfl) (by simp) ?_
      refine AllReadyH.cons rfl (fun KK hKK => ?_) ?_
      rotate_left
      · exact AllReadyH.nil
      rw [if_pos (by kernel_rfl)]
      go_simp
      have hE := own_empty X0 w.heap.size 3 (Nat.le_trans hwX hb0.size)
      have hE2 := own_empty X0 wX.heap.size 3 hb0.size
      have hbn := hb0.alloc hb0.size (.cells #[] 3)
      refine hKK.out _ _ (HX.out _ hbn) (fun hHeld => ?_)
      clear hKK KK
      generalize X0.alloc (.cells #[] 3) = X1 at hE2 hbn hHeld ⊢
      generalize X0.heap.size = e9 at hE2 ⊢
      have hl1 : ([] : List Value).length + (intL pv).length < 1000000000001 := by rw [intL_length, List.length_nil]; omega
      have HE2 := Lib.hid hE2
      have HBN := Lib.hid hbn
      have HL1 := Lib.hid hl1
      have HON := Lib.hid (show ∀ u ∈ intL pv, u.oneCell' = true from fun u hu => by
        obtain ⟨q, _, rfl⟩ := List.mem_map.1 hu
        rfl)
      clear hE hE2 hb0 hbn hl1
      refine wpAnyH_ready (rs := [6]) (by kernel_rfl) (by simp) ?_
      refine AllReadyH.cons rfl (fun KK hKK => ?_) ?_
      rotate_left
      · exact AllReadyH.nil
      refine step_apN elInt9 HE2.out (HRL.out _ HBN.out) HON.out HL1.out HBN.out.size rfl (.tmp 16) (.tmp 18) rfl rfl rfl ?_
      intro v1 X2 k1 k2 k3 k4
      have hbn := HBN.out.grown k4 HBN.out.size (fun q hq => (HE2.out.lt q hq).1)
      rw [List.nil_append] at k1
      obtain ⟨a1, c1, hv1⟩ := own_slice k1
      rw [intL_length] at hv1
      subst hv1
      refine hKK.out _ _ (HX.out _ hbn) (fun hHeld => ?_)
      have HV := Lib.hid k1
      clear hKK KK HBN HE2 k1 k2 k3 k4 HL1 HON
      have HBN := Lib.hid hbn
      clear hbn
      refine wpAnyH_take (i := 7) (v := ?_) rfl (by kernel_rfl) (by kernel_rfl) (by kernel_rfl) (fun _ _ _ h => h) (Or.inl ⟨by kernel_rfl, ?_⟩) hHeld ?_
      rotate_left
      · intro w hSw
        obtain ⟨z1, z2⟩ := hSw
        go_simp
        try with_reducible rfl
      refine wpAnyH_ready (rs := [8]) (by kernel_rfl) (by simp) ?_
      refine AllReadyH.cons rfl (fun KK hKK => ?_) ?_
      rotate_left
      · exact AllReadyH.nil
      rw [if_pos (by kernel_rfl)]
      go_simp
      have hY := heap_alloc_new X2 (.cells #[.int .i64 dc, .slice a1 pv.length c1] 53)
      have hbn := HBN.out.alloc HBN.out.size (.cells #[.int .i64 dc, .slice a1 pv.length c1] 53)
      have hV := HV.out.alloc (.cells #[.int .i64 dc, .slice a1 pv.length c1] 53)
      have hy9 : w.heap.size ≤ X2.heap.size := Nat.le_trans hwX HBN.out.size
      refine hKK.out _ _ (HX.out _ hbn) (fun hHeld => ?_)
      clear hKK KK HBN HV
      generalize X2.alloc (.cells #[.int .i64 dc, .slice a1 pv.length c1] 53) = X3 at hY hbn hV hHeld ⊢
      generalize X2.heap.size = y9 at hY hy9 ⊢
      have hro3 := HRW.out _ hbn
      have hone := rowP_one hY hy9 (own_base hV hwX)
      have hsep : ∀ k l b, k < (ps.take i).length → l < [(⟨dc, pv⟩ : PostV)].length → (vs k).ownBlock = some b → (Value.slice a1 pv.length c1).ownBlock ≠ some b := fun k l b hk _ hb h9 => by
        rw [List.length_take] at hk
        have h1 := HFR.out k b (by omega) hb
        have h2 := (hV.lt b h9).1
        omega
      have hl9 : (ps.take i).length + [(⟨dc, pv⟩ : PostV)].length ≤ 1000000000 := by rw [List.length_take]; simp; omega
      have hz9 : w.heap.size ≤ X3.heap.size := Nat.le_trans hwX hbn.size
      have HRO := Lib.hid hro3
      have HONE := Lib.hid hone
      have HSEP := Lib.hid hsep
      have HL9 := Lib.hid hl9
      have HBN := Lib.hid hbn
      clear hY hbn hV hy9 hro3 hone hsep hl9 HFR
      refine wpAnyH_ready (rs := [9]) (by kernel_rfl) (by simp) ?_
      refine AllReadyH.cons rfl (fun KK hKK => ?_) ?_
      rotate_left
      · exact AllReadyH.nil
      refine step_apPs HRO.out HONE.out HSEP.out (Nat.le_refl _) HL9.out hz9 rfl (.tmp 13) (.tmp 21) rfl rfl rfl ?_
      intro v3 Xg k1 k2
      have hrg : Below w.heap.size w Xg := (HBX.out.trans (HBN.out.mono hwX)).grown k2 hz9 (fun q hq => (HRO.out.lt q hq).1)
      have hcx : Below wX.heap.size wX Xg ∨ True := .inr trivial
      have ht : ps.take i ++ [⟨dc, pv⟩] = ps.take (i + 1) := by rw [List.take_succ_eq_append_getElem hlt, HPS.out]
      rw [ht] at k1
      obtain ⟨A', C', hv3, _⟩ := k1.sl
      rw [List.length_take, Nat.min_eq_left (show i + 1 ≤ ps.length by omega)] at hv3
      subst hv3
      have HFIN := Lib.hid (show (∃ vs, RowP Xg w.heap.size (.slice A' (i + 1) C') (ps.take (i + 1)) vs) from ⟨_, k1⟩)
      have HBG := Lib.hid hrg
      have hce : Xg.cell? ⟨z, 0, none⟩ = some (.int .i64 dc) ∧ Xg.cell? ⟨z, 1, none⟩ = some (.slice Ap pv.length Cp) := by
        have e3 : Eff (fun k => (Value.slice A i C).ownBlock = some k) X3 Xg := (Eff.refl _ X3).grown k2 (fun q hq _ => hq)
        obtain ⟨c0, c1⟩ := HX.out _ HBN.out
        have hne : ¬ (Value.slice A i C).ownBlock = some z := fun h9 => by
          exact HZT.out h9
        exact ⟨e3.cell (p := ⟨z, 0, none⟩) hne c0, e3.cell (p := ⟨z, 1, none⟩) hne c1⟩
      refine hKK.out _ _ hce (fun hHeld => ?_)
      clear hKK KK k1 k2 hrg hcx ht hce HRO HONE HSEP HL9
      refine wpAnyH_take (i := 10) (v := ?_) rfl (by kernel_rfl) (by kernel_rfl) (by kernel_rfl) (fun _ _ _ h => h) (Or.inl ⟨by kernel_rfl, ?_⟩) hHeld ?_
      rotate_left
      · intro w hSw
        go_simp
        try with_reducible rfl
      clear hHeld
      refine wpAnyH_done (by kernel_rfl) ?_ _
      refine NoPanic.normal ?_
      go_wp2
      go_roundw
      case rel => exact ⟨i + 1, A', C', _, rfl, rfl, by go_num, by omega, HFIN, HBG⟩
      case measure => simp [intOf]; omega
    · obtain rfl : i = ps.length := by omega
      have i1 : ¬ ((ps.length : Int) < (ps.length : Int)) := by omega
      obtain ⟨vs, hrow⟩ := HO.out
      rw [List.take_length] at hrow
      have HRW := Lib.hid hrow
      clear hrow HO
      go_wp2
      go_ret
      exact ⟨_, _, rfl, ⟨_, HRW.out⟩, HB.out⟩
end Go.Proofs.YthnpbfadblcicaaDoor
