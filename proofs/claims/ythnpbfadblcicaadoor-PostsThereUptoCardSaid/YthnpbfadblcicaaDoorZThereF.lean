/- posts: the walk of the law PostsThere. -/
import Derived.Test.YthnpbfadblcicaaDoorZPLives
import Derived.Test.YthnpbfadblcicaaDoorZDecode
import Derived.Test.YthnpbfadblcicaaDoorZG10
import Derived.Test.YthnpbfadblcicaaDoorZG11
namespace Go.Proofs.YthnpbfadblcicaaDoor
set_option linter.unusedVariables false
open Go.ChangeShapes Go.WideShapes Go.ChangeAt Go.RowKit

theorem rd_take {w : World} {a : Option Addr} {n c : Nat} {xs : List Value} (h : Rd w (.slice a n c) xs) (k : Nat) (hk : k ≤ xs.length) : Rd w (.slice a k c) (xs.take k) := by
  obtain ⟨A, c', e, hc, hr⟩ := h
  injection e with e1 e2 e3
  subst e1 e2 e3
  refine ⟨a, c, by rw [List.length_take, Nat.min_eq_left hk], by rw [List.length_take]; omega, fun h0 => ?_⟩
  obtain ⟨b, o, ha, hcell⟩ := hr (by rw [List.length_take] at h0; omega)
  exact ⟨b, o, ha, fun j x hx => hcell j x (by rw [List.getElem?_take] at hx; split at hx; exact hx; cases hx)⟩
/-- What PostsThere is handed. -/
structure ThereV where
  a : Option Addr
  n : Nat
  c : Nat
  ct : Int
  a2 : Option Addr
  n2 : Nat
  c2 : Nat
  a3 : Option Addr
  n3 : Nat
  c3 : Nat
def ThereV.cells (t : ThereV) : List Value := [.slice t.a t.n t.c, .int .i64 t.ct, .slice t.a2 t.n2 t.c2, .slice t.a3 t.n3 t.c3]
set_option maxRecDepth 100000 in
set_option maxHeartbeats 8000000 in
theorem there_walk (w : World) (tv : ThereV) (ps : List PostV) (hr : RdPost w tv.a tv.n ps) (hnc : tv.n ≤ tv.c) (hf : FitP ps) (hl : ps.length ≤ 1048576) (hT : totalV ps ≤ 1048576)
    (mo : List UInt8) (hr2 : Rd w (.slice tv.a2 tv.n2 tv.c2) (bytesV mo)) (hmo : mo.length ≤ 1048576) (bs : List UInt8) (hr3 : Rd w (.slice tv.a3 tv.n3 tv.c3) (bytesV bs)) (hbs : bs.length ≤ 1048576) (EA : Nat → Addr) (hS : Sent w EA) :
    Calls Tryd.prog 7 #[.agg tv.cells.toArray] w fun e w' => e = .returned (.bool true) ∧ Below w.heap.size w w' := by
  obtain ⟨a, n, c, ct, a2, n2, c2, a3, n3, c3⟩ := tv
  simp only at hr hnc hr2 hr3
  have hb0 : Below w.heap.size w (w.alloc (.cells #[.slice a n c, .int .i64 ct, .slice a2 n2 c2, .slice a3 n3 c3] 60)) := (Below.refl _ w).alloc (Nat.le_refl _) _
  have e0 := heap_alloc_new w (.cells #[.slice a n c, .int .i64 ct, .slice a2 n2 c2, .slice a3 n3 c3] 60)
  have C1 := lives_any _ EA (hS.below hb0)
  have hn2 : n2 = mo.length := by obtain ⟨A, c', h, _⟩ := hr2; injection h with _ h _; rw [h, bytesV_length]
  subst hn2
  have HS := Lib.hid hS
  have HR := Lib.hid hr
  have HR2 := Lib.hid hr2
  have HR3 := Lib.hid hr3
  have HF := Lib.hid hf
  have HB0 := Lib.hid hb0
  have HE0 := Lib.hid e0
  clear hS hr hr2 hr3 hf hb0 e0
  unfold ThereV.cells
  go_enter Tryd.func7, Tryd.ntmps7
  go_upto_region 1 with fail
  generalize w.alloc (.cells #[.slice a n c, .int .i64 ct, .slice a2 mo.length c2, .slice a3 n3 c3] 60) = w0 at C1 HB0 HE0 ⊢
  obtain ⟨GT, hGT⟩ : ∃ GT, w.heap.size = GT := ⟨_, rfl⟩
  have hgl := lt_of_heap HE0.out
  have he0 := HE0.out
  rw [hGT] at he0 hgl
  have HE := Lib.hid he0
  have HGT := Lib.hid hGT
  clear he0
  go_wp2_with fail
  with_reducible refine C1.mono ?_
  rintro e w1 ⟨rfl, hb1⟩
  clear C1
  have hb01 := HB0.out.trans (hb1.mono HB0.out.size)
  have e1 := (hb1.block _ hgl).trans HE.out
  have f0 := blk_cell e1 0
  have f3 := blk_cell e1 3
  have HB1 := Lib.hid hb01
  have HE1 := Lib.hid e1
  clear hb1 hb01 e1 HE0 HB0 HE hgl
  simp only [HGT.out]
  go_wp2
  go_quiet (fail)
  have hb2 := below_drewN HB1.out nq
  have e2 : (w1.drewN nq).heap[GT]? = some (.cells #[.slice a n c, .int .i64 ct, .slice a2 mo.length c2, .slice a3 n3 c3] 60 (0, 0)) := HE1.out
  generalize w1.drewN nq = w2 at hb2 e2 ⊢
  clear f0 f3 HB1 HE1
  have C2 := encode_any w2 a n c ps (HR.out.below hb2 (Nat.le_refl _)) hnc HF.out hl (by omega) EA (HS.out.below hb2)
  have HB2 := Lib.hid hb2
  have HE2 := Lib.hid e2
  clear hb2 e2
  go_wp2_with fail
  with_reducible refine C2.mono ?_
  rintro e w3 ⟨hyes, hno⟩
  clear C2
  by_cases ok : okV (-1) ps
  · obtain ⟨A, N, C, rfl, ho3, hb3⟩ := hyes ok
    have hov := openV_of ok HF.out (by omega) (by omega)
    have hq1 := (chp_flat _ ps (Nat.le_refl _)).1
    have himl := image_le4 HF.out ok hl hT
    have himp := image_pos ps
    have hcutn := fun k hk => open_cut ok HF.out (by omega) k hk
    have hmoren := fun mo hm h => open_more ok HF.out mo hm h
    obtain ⟨IM, hIM⟩ : ∃ IM, imageV ps = IM := ⟨_, rfl⟩
    rw [hIM] at ho3 hov himl himp hcutn hmoren
    have hN := ho3.len
    rw [bytesV_length] at hN
    subst hN
    have hb23 := HB2.out.trans (hb3.mono HB2.out.size)
    have e3 := (hb3.block _ (lt_of_heap HE2.out)).trans HE2.out
    have C3 := dec_any w3 A IM.length C IM ho3.rd (by omega) (fun r hr => by rw [hov] at hr; injection hr with hr; subst hr; simp only; rw [hq1]; omega) EA (HS.out.below hb23)
    have HOV := Lib.hid hov
    have HQ1 := Lib.hid hq1
    have HCUT := Lib.hid hcutn
    have HMORE := Lib.hid hmoren
    have HO3 := Lib.hid ho3
    have HB3 := Lib.hid hb23
    have HE3 := Lib.hid e3
    clear hyes hno hov hq1 hcutn hmoren ho3 hb3 hb23 e3 HB2 HE2 hIM
    go_wp2_with fail
    with_reducible refine C3.mono ?_
    rintro e w4 ⟨h4, -, hb4⟩
    clear C3
    obtain ⟨A4, N4, C4, vs4, rfl, hrow4⟩ := h4 _ HOV.out
    simp only [HQ1.out] at hrow4
    have hb34 := HB3.out.trans (hb4.mono HB3.out.size)
    have e4 := (hb4.block _ (lt_of_heap HE3.out)).trans HE3.out
    have C4' := same8_any w4 A4 a N4 n C4 c ps hrow4.rd (HR.out.below hb34 (Nat.le_refl _)) (by omega) (fun p hp => by have := (HF.out p hp).2.2; omega)
    have HO4 := Lib.hid (HO3.out.below hb4 (Nat.le_refl _))
    have HB4 := Lib.hid hb34
    have HE4 := Lib.hid e4
    clear h4 hrow4 hb34 hb4 e4 HB3 HE3 HO3
    go_wp2_with fail
    with_reducible refine C4'.mono ?_
    rintro e w5 ⟨rfl, d5, rfl⟩
    clear C4'
    have hb5 := below_drewN HB4.out d5
    have e5 : (w4.drewN d5).heap[GT]? = some (.cells #[.slice a n c, .int .i64 ct, .slice a2 mo.length c2, .slice a3 n3 c3] 60 (0, 0)) := HE4.out
    have ho5 := HO4.out.drewN d5
    generalize w4.drewN d5 = w5 at hb5 e5 ho5 ⊢
    have f1 := blk_cell e5 1
    have tz : ((IM.length : Int) == 0) = false := by apply beq_false_of_ne; omega
    have hU0 : 0 ≤ IntKind.u64.wrap ct := by rw [IntKind.wrap_u64]; exact Int.emod_nonneg _ (by decide)
    obtain ⟨U, hU⟩ : ∃ U : Nat, IntKind.u64.wrap ct = (U : Int) := ⟨_, (Int.toNat_of_nonneg hU0).symm⟩
    have s1 : IntKind.u64.wrap (IM.length : Int) = (IM.length : Int) := by rw [IntKind.wrap_u64]; omega
    obtain ⟨K, hKl, hKe⟩ : ∃ K : Nat, K < IM.length ∧ (U : Int) % (IM.length : Int) = (K : Int) := ⟨U % IM.length, Nat.mod_lt _ himp, by simp⟩
    have HKE := Lib.hid hKe
    clear hKe
    have hcap := own_cap ho5
    have hrt := rd_take ho5.rd K (by rw [bytesV_length]; omega)
    rw [← bytesV_take] at hrt
    have hno5 := HCUT.out K hKl
    have C5 := dec_any w5 A K C (IM.take K) hrt (by rw [List.length_take]; omega) (fun r hr => by rw [hno5] at hr; cases hr) EA (HS.out.below hb5)
    have HNO5 := Lib.hid hno5
    have a2' : (K : Int) ≤ (C : Int) := by omega
    have hK63 : -9223372036854775808 ≤ (K : Int) ∧ (K : Int) ≤ 9223372036854775807 := by omega
    have s2 : wrap64 ((U : Int) % (IM.length : Int)) = (K : Int) := by
      rw [HKE.out]; exact IntWalk.wrap64_in _ hK63
    clear hK63
    have HB5 := Lib.hid hb5
    have HE5 := Lib.hid e5
    have HO5 := Lib.hid ho5
    clear hb5 e5 ho5 HB4 HE4 HO4 hU0 hKl hrt hno5
    go_wp2_with fail
    with_reducible refine C5.mono ?_
    rintro e w6 ⟨-, h6, hb6⟩
    clear C5 s1 s2 tz f1 hU
    obtain rfl := h6 HNO5.out
    have hb56 := HB5.out.trans (hb6.mono HB5.out.size)
    have e6 := (hb6.block _ (lt_of_heap HE5.out)).trans HE5.out
    have C6 := num_Corrupt w6 EA (HS.out.below hb56)
    have ho6 := HO5.out.below hb6 (Nat.le_refl _)
    have f2 := blk_cell e6 2
    have HB6 := Lib.hid hb56
    have HE6 := Lib.hid e6
    have HO6 := Lib.hid ho6
    clear h6 hb6 hb56 e6 ho6 HB5 HE5 HO5
    go_wp2_with fail
    with_reducible refine C6.mono ?_
    rintro e w7 ⟨rfl, rfl⟩
    clear C6
    by_cases hm : 0 < mo.length
    · have tm : decide ((0 : Int) < (mo.length : Int)) = true := decide_eq_true (by omega)
      have tm2 : decide (0 < mo.length) = true := decide_eq_true hm
      have hne : mo ≠ [] := fun e => by rw [e] at hm; simp at hm
      have hnoM := HMORE.out mo (by omega) hne
      have hO0 : Own (w6.alloc (.cells #[] 5)).drew w.heap.size 5 (.slice (some ⟨w6.heap.size, 0, none⟩) 0 0) [] := own_empty w6 w.heap.size 5 HB6.out.size
      have hRx : Rd (w6.alloc (.cells #[] 5)).drew (.slice A IM.length C) (bytesV IM) := (HO6.out.alloc (.cells #[] 5)).drew.rd
      have e60 : (w6.alloc (.cells #[] 5)).drew.heap[GT]? = some (.cells #[.slice a n c, .int .i64 ct, .slice a2 mo.length c2, .slice a3 n3 c3] 60 (0, 0)) := (Below.heap_alloc w6 _ _ (lt_of_heap HE6.out)).trans HE6.out
      have hb60 : Below w.heap.size w (w6.alloc (.cells #[] 5)).drew := (HB6.out.alloc HB6.out.size (.cells #[] 5)).drew
      have f20 := blk_cell e60 2
      have f21 : w6.drew.cell? ⟨GT, 2, none⟩ = some (.slice a2 mo.length c2) := f2
      have hL1 : ([] : List Value).length + (bytesV IM).length < 1000000000001 := by rw [bytesV_length]; simp; omega
      have hL2 : (([] : List Value) ++ bytesV IM).length + (bytesV mo).length < 1000000000001 := by rw [List.nil_append, bytesV_length, bytesV_length]; omega
      have hz0 := hb60.size
      have hC7 : ∀ W A7 N7 C7, Below w.heap.size w W → Rd W (.slice A7 N7 C7) (bytesV (IM ++ mo)) → Calls Tryd.prog 22 #[.slice A7 N7 C7] W (DecPost W EA (IM ++ mo)) := fun W A7 N7 C7 hbW hrd =>
        dec_any W A7 N7 C7 (IM ++ mo) hrd (by rw [List.length_append]; omega) (fun r hr => by rw [hnoM] at hr; cases hr) EA (HS.out.below hbW)
      have HC7 := Lib.hid hC7
      have HNOM := Lib.hid hnoM
      clear hC7 hnoM hne tm tm2
      go_upto_region 16 with fail
      go_cut [8] (fun s8 wx => s8 = errV EA 10 ∧ Below w.heap.size w wx)
      case first =>
        go_region_law (first
          | (refine step_apN elBytes hO0 hRx (bytesV_one _) hL1 hz0 rfl (.tmp 70) (.tmp 71) rfl rfl rfl ?_; intro v1 wA k1 k2 k3 k4; obtain ⟨A1, N1, C1, rfl⟩ := own_sl k1; have hbA := hb60.grown k4 hz0 (fun q hq => (hO0.lt q hq).1); have eA := (k4.block _ (lt_of_heap e60) (fun e => hO0.ne_type e60 (by decide) e.symm)).trans e60; have fA := blk_cell eA 2; have hzA := hbA.size; have hRm := HR2.out.below hbA (Nat.le_refl _))
          | (refine step_apN elBytes k1 hRm (bytesV_one _) hL2 hzA rfl (.tmp 72) (.tmp 74) rfl rfl rfl ?_; intro v2 wB m1 m2 m3 m4; obtain ⟨A2, N2, C2, rfl⟩ := own_sl m1; have hbB := hbA.grown m4 hzA (fun q hq => (k1.lt q hq).1); have hRd : Rd wB (.slice A2 N2 C2) (bytesV (IM ++ mo)) := by rw [bytesV_append]; exact m1.rd)
          | (rw [if_pos (by kernel_rfl)]; go_simp; go_at_call 22; (with_reducible refine (HC7.out _ _ _ _ hbB hRd).mono ?_); rintro e wC ⟨-, h7, hb7⟩; obtain rfl := h7 HNOM.out))
        all_goals
          go_wp2
          go_meet
          exact ⟨rfl, hbB.trans (hb7.mono hbB.size)⟩
      case rest =>
        clear f2 f20 f21 hO0 hRx e60 hb60 hL1 hL2 hz0 hm HC7 HNOM HCUT HMORE HO6 HE6 HB6
        obtain ⟨rfl, hbx⟩ := hcut
        have C7 := num_Corrupt wc EA (HS.out.below hbx)
        have HBW := Lib.hid hbx
        clear hbx
        go_wp2_with fail
        with_reducible refine C7.mono ?_
        rintro e w7 ⟨rfl, rfl⟩
        clear C7
        have C8 := dec_any wc a3 n3 c3 bs (HR3.out.below HBW.out (Nat.le_refl _)) (by omega) (fun r hr => by have := (doc_some hr hbs).2.2.2.2.1; omega) EA (HS.out.below HBW.out)
        go_wp2_with fail
        with_reducible refine C8.mono ?_
        rintro e w8 ⟨h8, h8n, hb8⟩
        clear C8
        have hb88 := HBW.out.trans (hb8.mono HBW.out.size)
        cases hob : openV bs with
        | none =>
          obtain rfl := h8n hob
          have C9 := num_Corrupt w8 EA (HS.out.below hb88)
          have HB8 := Lib.hid hb88
          clear h8 h8n hb8 hb88 hob
          unfold errV at C9 ⊢
          go_wp2_with fail
          with_reducible refine C9.mono ?_
          rintro e w9 ⟨rfl, rfl⟩
          go_wp2
          go_ret
          exact ⟨rfl, HB8.out⟩
        | some r =>
          obtain ⟨A8, N8, C8, vs8, rfl, hrow8⟩ := h8 r hob
          obtain ⟨-, g1, g2, g3, g4, g5⟩ := doc_some hob hbs
          obtain ⟨FL, hFL⟩ : ∃ FL, r.bl.flatten = FL := ⟨_, rfl⟩
          rw [hFL] at hrow8 g1 g2 g3 g4 g5
          have hcap9 : N8 ≤ C8 := by
            obtain ⟨_, _, e9, h, _⟩ := hrow8.sl
            injection e9 with _ e9 e9'
            omega
          have C9 := encode_any w8 A8 N8 C8 FL hrow8.rd hcap9 g3 (by omega) (by omega) EA (HS.out.below hb88)
          have HB8 := Lib.hid hb88
          have HG1 := Lib.hid g1
          have HG2 := Lib.hid g2
          clear h8 h8n hb8 hb88 hob hrow8 hFL g1 g2 g3 g4 g5 hcap9
          go_wp2_with fail
          with_reducible refine C9.mono ?_
          rintro e w9 ⟨h9, -⟩
          clear C9
          obtain ⟨A9, N9, C9, rfl, ho9, hb9⟩ := h9 HG1.out
          rw [HG2.out] at ho9
          have hb99 := HB8.out.trans (hb9.mono HB8.out.size)
          have r1 := run_str (P := Tryd.prog) Tryd.underlying24 Tryd.underlying5 Tryd.underlying9 ho9.rd
          have r2 := run_str (P := Tryd.prog) Tryd.underlying24 Tryd.underlying5 Tryd.underlying9 (HR3.out.below hb99 (Nat.le_refl _))
          have HB9 := Lib.hid hb99
          clear h9 ho9 hb9 hb99
          go_wp2
          go_ret
          exact ⟨rfl, HB9.out⟩
    · have tm : decide ((0 : Int) < (mo.length : Int)) = false := decide_eq_false (by omega)
      have tm2 : decide (0 < mo.length) = false := decide_eq_false hm
      have HBW := Lib.hid HB6.out
      clear hm HCUT HMORE HO6 HE6 HB6
      have C8 := dec_any w6 a3 n3 c3 bs (HR3.out.below HBW.out (Nat.le_refl _)) (by omega) (fun r hr => by have := (doc_some hr hbs).2.2.2.2.1; omega) EA (HS.out.below HBW.out)
      go_wp2_with fail
      with_reducible refine C8.mono ?_
      rintro e w8 ⟨h8, h8n, hb8⟩
      clear C8
      have hb88 := HBW.out.trans (hb8.mono HBW.out.size)
      cases hob : openV bs with
      | none =>
        obtain rfl := h8n hob
        have C9 := num_Corrupt w8 EA (HS.out.below hb88)
        have HB8 := Lib.hid hb88
        clear h8 h8n hb8 hb88 hob
        unfold errV at C9 ⊢
        go_wp2_with fail
        with_reducible refine C9.mono ?_
        rintro e w9 ⟨rfl, rfl⟩
        go_wp2
        go_ret
        exact ⟨rfl, HB8.out⟩
      | some r =>
        obtain ⟨A8, N8, C8, vs8, rfl, hrow8⟩ := h8 r hob
        obtain ⟨-, g1, g2, g3, g4, g5⟩ := doc_some hob hbs
        obtain ⟨FL, hFL⟩ : ∃ FL, r.bl.flatten = FL := ⟨_, rfl⟩
        rw [hFL] at hrow8 g1 g2 g3 g4 g5
        have hcap9 : N8 ≤ C8 := by
          obtain ⟨_, _, e9, h, _⟩ := hrow8.sl
          injection e9 with _ e9 e9'
          omega
        have C9 := encode_any w8 A8 N8 C8 FL hrow8.rd hcap9 g3 (by omega) (by omega) EA (HS.out.below hb88)
        have HB8 := Lib.hid hb88
        have HG1 := Lib.hid g1
        have HG2 := Lib.hid g2
        clear h8 h8n hb8 hb88 hob hrow8 hFL g1 g2 g3 g4 g5 hcap9
        go_wp2_with fail
        with_reducible refine C9.mono ?_
        rintro e w9 ⟨h9, -⟩
        clear C9
        obtain ⟨A9, N9, C9, rfl, ho9, hb9⟩ := h9 HG1.out
        rw [HG2.out] at ho9
        have hb99 := HB8.out.trans (hb9.mono HB8.out.size)
        have r1 := run_str (P := Tryd.prog) Tryd.underlying24 Tryd.underlying5 Tryd.underlying9 ho9.rd
        have r2 := run_str (P := Tryd.prog) Tryd.underlying24 Tryd.underlying5 Tryd.underlying9 (HR3.out.below hb99 (Nat.le_refl _))
        have HB9 := Lib.hid hb99
        clear h9 ho9 hb9 hb99
        go_wp2
        go_ret
        exact ⟨rfl, HB9.out⟩
  · obtain ⟨rfl, hb3⟩ := hno ok
    have hb23 := HB2.out.trans (hb3.mono HB2.out.size)
    have HBW := Lib.hid hb23
    clear hyes hno hb3 hb23 HB2 HE2
    unfold errV
    have C8 := dec_any w3 a3 n3 c3 bs (HR3.out.below HBW.out (Nat.le_refl _)) (by omega) (fun r hr => by have := (doc_some hr hbs).2.2.2.2.1; omega) EA (HS.out.below HBW.out)
    go_wp2_with fail
    with_reducible refine C8.mono ?_
    rintro e w8 ⟨h8, h8n, hb8⟩
    clear C8
    have hb88 := HBW.out.trans (hb8.mono HBW.out.size)
    cases hob : openV bs with
    | none =>
      obtain rfl := h8n hob
      have C9 := num_Corrupt w8 EA (HS.out.below hb88)
      have HB8 := Lib.hid hb88
      clear h8 h8n hb8 hb88 hob
      unfold errV at C9 ⊢
      go_wp2_with fail
      with_reducible refine C9.mono ?_
      rintro e w9 ⟨rfl, rfl⟩
      go_wp2
      go_ret
      exact ⟨rfl, HB8.out⟩
    | some r =>
      obtain ⟨A8, N8, C8, vs8, rfl, hrow8⟩ := h8 r hob
      obtain ⟨-, g1, g2, g3, g4, g5⟩ := doc_some hob hbs
      obtain ⟨FL, hFL⟩ : ∃ FL, r.bl.flatten = FL := ⟨_, rfl⟩
      rw [hFL] at hrow8 g1 g2 g3 g4 g5
      have hcap9 : N8 ≤ C8 := by
        obtain ⟨_, _, e9, h, _⟩ := hrow8.sl
        injection e9 with _ e9 e9'
        omega
      have C9 := encode_any w8 A8 N8 C8 FL hrow8.rd hcap9 g3 (by omega) (by omega) EA (HS.out.below hb88)
      have HB8 := Lib.hid hb88
      have HG1 := Lib.hid g1
      have HG2 := Lib.hid g2
      clear h8 h8n hb8 hb88 hob hrow8 hFL g1 g2 g3 g4 g5 hcap9
      go_wp2_with fail
      with_reducible refine C9.mono ?_
      rintro e w9 ⟨h9, -⟩
      clear C9
      obtain ⟨A9, N9, C9, rfl, ho9, hb9⟩ := h9 HG1.out
      rw [HG2.out] at ho9
      have hb99 := HB8.out.trans (hb9.mono HB8.out.size)
      have r1 := run_str (P := Tryd.prog) Tryd.underlying24 Tryd.underlying5 Tryd.underlying9 ho9.rd
      have r2 := run_str (P := Tryd.prog) Tryd.underlying24 Tryd.underlying5 Tryd.underlying9 (HR3.out.below hb99 (Nat.le_refl _))
      have HB9 := Lib.hid hb99
      clear h9 ho9 hb9 hb99
      go_wp2
      go_ret
      exact ⟨rfl, HB9.out⟩
end Go.Proofs.YthnpbfadblcicaaDoor
