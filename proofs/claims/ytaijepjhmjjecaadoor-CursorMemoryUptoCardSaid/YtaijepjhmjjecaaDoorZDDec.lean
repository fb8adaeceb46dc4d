/- posts: the document's Decode. -/
import Derived.Test.YtaijepjhmjjecaaDoorZG24
namespace Go.Proofs.YtaijepjhmjjecaaDoor
set_option linter.unusedVariables false
open Go.ChangeShapes Go.WideShapes Go.ChangeAt Go.RowKit

def finS (n : Nat) : Option (List UInt8) → Option (List PostV)
  | none => none
  | some l => lsQ ((n + 15) / 16) (-1) n l
/-- The reader, and that what lay before stays. -/
structure RdS (w W : World) (rp : Nat) (sl : Value) (b : List UInt8) (k : Nat) (bad : Bool) : Prop where
  dr : Dr W rp sl k bad
  le : k ≤ b.length
  below : Below w.heap.size w W
  hp : w.heap.size ≤ rp
theorem RdS.read {w W w2 : World} {rp : Nat} {sl : Value} {b : List UInt8} {k k2 : Nat} {bad bad2 : Bool} (h : RdS w W rp sl b k bad) (hd : Dr w2 rp sl k2 bad2) (hk : k2 ≤ b.length) (he : Eff (· = rp) W w2) : RdS w w2 rp sl b k2 bad2 :=
  ⟨hd, hk, h.below.trans (he.below (fun q hq => by have := h.hp; omega) h.below.size), h.hp⟩
theorem RdS.step {w W w2 : World} {rp : Nat} {sl : Value} {b : List UInt8} {k : Nat} {bad : Bool} (h : RdS w W rp sl b k bad) (hb : Below W.heap.size W w2) : RdS w w2 rp sl b k bad :=
  ⟨h.dr.eff (Eff.of_below hb (fun _ => False)) (fun f => f), h.le, h.below.trans (hb.mono h.below.size), h.hp⟩
theorem RowP.rp {w w2 : World} {base rp : Nat} {v sl : Value} {ps : List PostV} {vs : Nat → Value} {k : Nat} {bad : Bool} (h : RowP w base v ps vs) (hd : Dr w rp sl k bad) (he : Eff (· = rp) w w2) : RowP w2 base v ps vs :=
  h.eff he (fun q hq e => by
    subst e
    rcases hq with hq | ⟨i, hi, hq⟩
    · exact row_ne_type h.row hd.blk (by decide) hq
    · exact (h.own i hi).ne_type hd.blk (by decide) hq)
set_option maxRecDepth 100000 in
set_option maxHeartbeats 8000000 in
theorem rdec_any (w : World) (a : Option Addr) (nn cc : Nat) (b : List UInt8) (hr : Rd w (.slice a nn cc) (bytesV b)) (hb : b.length ≤ 31000000) (EA : Nat → Addr) (hS : Sent w EA) :
    Calls Tryd.prog 13 #[.slice a nn cc] w (RDecPost w b) := by
  have hd1 : Dr (w.alloc (.cells #[.slice a nn cc, .int .i64 0, .bool false] 82)) w.heap.size (.slice a nn cc) 0 false := ⟨heap_alloc_new w _⟩
  have hst1 : RdS w (w.alloc (.cells #[.slice a nn cc, .int .i64 0, .bool false] 82)) w.heap.size (.slice a nn cc) b 0 false := ⟨hd1, by omega, (Below.refl _ w).alloc (Nat.le_refl _) _, Nat.le_refl _⟩
  have hrd : ∀ W, Below w.heap.size w W → Rd W (.slice a nn cc) (bytesV b) := fun W h => hr.below h (Nat.le_refl _)
  obtain ⟨n, k1, b1, t, k2, b2, e1, e2, n63, t63, hk1, hk2, hbt, hbf⟩ := doc_two b
  obtain ⟨DOC, hDOC⟩ : ∃ DOC, docV b = DOC := ⟨_, rfl⟩
  have hbf2 : b2 = false → finS n (skQ ((n + 15) / 16 - 0) (b.drop k2)) = DOC := fun h => by
    rw [Nat.sub_zero, ← hDOC, hbf h]; cases skQ ((n + 15) / 16) (b.drop k2) <;> rfl
  rw [hDOC] at hbt
  have HST1 := Lib.hid hst1
  have HRD := Lib.hid hrd
  have HE1 := Lib.hid e1
  have HE2 := Lib.hid e2
  have HBT := Lib.hid hbt
  have HBF := Lib.hid hbf2
  have HDOC := Lib.hid hDOC
  have HS := Lib.hid hS
  clear hd1 hst1 hrd e1 e2 hbt hbf hbf2 hDOC hS
  go_enter Tryd.func13, Tryd.ntmps13
  go_upto_region 2 with fail
  generalize w.alloc (.cells #[.slice a nn cc, .int .i64 0, .bool false] 82) = w1 at HST1 ⊢
  have C2 := num8_any w1 w.heap.size a nn cc b 0 false HST1.out.dr (HRD.out _ HST1.out.below) (by omega) (by omega)
  rw [HE1.out] at C2
  go_wp2_with fail
  with_reducible refine C2.mono ?_
  rintro e w2 ⟨rfl, hd2, he2⟩
  clear C2
  have hst2 := HST1.out.read hd2 hk1 he2
  have C3 := num8_any w2 w.heap.size a nn cc b k1 b1 hst2.dr (HRD.out _ hst2.below) (by omega) hk1
  rw [HE2.out] at C3
  have HST2 := Lib.hid hst2
  clear hd2 he2 hst2 HST1
  go_wp2_with fail
  with_reducible refine C3.mono ?_
  rintro e w3 ⟨rfl, hd3, he3⟩
  clear C3
  have HST3 := Lib.hid (HST2.out.read hd3 hk2 he3)
  clear hd3 he3 HST2
  go_wp2
  go_loopw [6] (fun s6 wr => ∃ (i kk : Nat) (bad : Bool), s6 = .int .i64 (16 * i : Nat) ∧ RdS w wr w.heap.size (.slice a nn cc) b kk bad ∧ i ≤ b.length + 1 ∧ (bad = true → DOC = none) ∧ (bad = false → 2 * i ≤ kk ∧ i ≤ (n + 15) / 16 ∧ finS n (skQ ((n + 15) / 16 - i) (b.drop kk)) = DOC)) (fun s6 _ => n + 16 - (intOf s6).toNat)
  case atStart => exact ⟨0, k2, b2, rfl, HST3.out, by omega, HBT.out, fun h => ⟨by omega, by omega, HBF.out h⟩⟩
  case round =>
    clear HST3 HBT HBF
    obtain ⟨i, kk, bad, rfl, hst, hib, hbt, hbf⟩ := hrel
    have q2 : wr.cell? ⟨w.heap.size, 2, none⟩ = some (.bool bad) := blk_cell hst.dr.blk 2
    obtain ⟨Q, hQ⟩ : ∃ Q, 16 * i = Q := ⟨_, rfl⟩
    have hQb : Q ≤ 600000000 := by omega
    rw [hQ]
    by_cases hgo : Q < n ∧ bad = false
    · obtain ⟨hlt, rfl⟩ := hgo
      have i1 : (Q : Int) < (n : Int) := by omega
      obtain ⟨z1, z2, z3⟩ := hbf rfl
      obtain ⟨x, kx, bx, y, ky, bY, f1, f2, f3, f4, f5, f6⟩ := sk_two b kk ((n + 15) / 16 - (i + 1)) hst.le
      rw [show (n + 15) / 16 - (i + 1) + 1 = (n + 15) / 16 - i by omega] at f5 f6
      have C4 := num8_any wr w.heap.size a nn cc b kk false hst.dr (HRD.out _ hst.below) (by omega) hst.le
      rw [f1] at C4
      have hkk := hst.le
      have HST := Lib.hid hst
      have HF2 := Lib.hid f2
      have HF5 := Lib.hid (show bY = true → DOC = none from fun h => by rw [← z3, f5 h]; rfl)
      have HF6 := Lib.hid (show bY = false → kk + 2 ≤ ky ∧ finS n (skQ ((n + 15) / 16 - (i + 1)) (b.drop ky)) = DOC from fun h => ⟨(f6 h).2, by rw [← (f6 h).1]; exact z3⟩)
      have HZ := Lib.hid (And.intro z1 hQ)
      clear hst f1 f2 f5 f6 z1 z2 z3 hbt hbf hQ
      go_wp2_with fail
      with_reducible refine C4.mono ?_
      rintro e w5 ⟨rfl, hd5, he5⟩
      clear C4
      have hst5 := HST.out.read hd5 f3 he5
      have C5 := num8_any w5 w.heap.size a nn cc b kx bx hst5.dr (HRD.out _ hst5.below) (by omega) f3
      rw [HF2.out] at C5
      have HST5 := Lib.hid hst5
      clear hd5 he5 hst5 HST q2
      go_wp2_with fail
      with_reducible refine C5.mono ?_
      rintro e w6 ⟨rfl, hd6, he6⟩
      clear C5
      have HST6 := Lib.hid (HST5.out.read hd6 f4 he6)
      clear hd6 he6 HST5
      go_wp2
      go_roundw
      case rel =>
        obtain ⟨z1, hQ⟩ := HZ.out
        refine ⟨i + 1, ky, bY, ?_, HST6.out, by omega, HF5.out, fun h => ⟨by have := (HF6.out h).1; omega, by omega, (HF6.out h).2⟩⟩
        rw [show 16 * (i + 1) = Q + 16 by omega]
        go_num
      case measure => simp [intOf]; omega
    · have hfinal : (bad = true → DOC = none) ∧ (bad = false → (n + 15) / 16 ≤ b.length ∧ contL [] (lsQ ((n + 15) / 16 - 0) (-1) (n - 16 * 0) (b.drop kk)) = DOC) := by
        refine ⟨hbt, fun h => ?_⟩
        obtain ⟨z1, z2, z3⟩ := hbf h
        have hin : (n + 15) / 16 - i = 0 := by
          rcases Nat.lt_or_ge Q n with h9 | h9
          · exact absurd ⟨h9, h⟩ hgo
          · omega
        have := hst.le
        rw [hin, skQ] at z3
        refine ⟨by omega, ?_⟩
        rw [Nat.sub_zero, Nat.mul_zero, Nat.sub_zero, ← z3]
        show contL [] (lsQ ((n + 15) / 16) (-1) n (b.drop kk)) = lsQ ((n + 15) / 16) (-1) n (b.drop kk)
        unfold contL
        cases lsQ ((n + 15) / 16) (-1) n (b.drop kk) <;> simp
      have hbA := (Below.refl wr.heap.size wr).alloc (Nat.le_refl _) (.cells #[] 41)
      have hstA := hst.step hbA
      have hrowA := rowP_empty wr w.heap.size hst.below.size
      have HFN := Lib.hid hfinal
      have HSTA := Lib.hid hstA
      have HROWA := Lib.hid hrowA
      have hcond : ¬ (Q < n) ∨ bad = true := by
        cases bad with
        | true => exact .inr rfl
        | false => exact .inl (fun h => hgo ⟨h, rfl⟩)
      clear hst hbt hbf hfinal hbA hstA hrowA hgo hQ hib
      have hjoin : ∀ tb : Bool, (tb = true → (Q : Int) < (n : Int)) → True := fun _ _ => trivial
      clear hjoin
      by_cases hlt : Q < n
      · have hbd : bad = true := hcond.resolve_left (fun h => h hlt)
        subst hbd
        have i1 : (Q : Int) < (n : Int) := by omega
        clear hcond
        go_upto_region 10 with fail
        generalize wr.alloc (.cells #[] 41) = W1 at HSTA HROWA ⊢
        generalize wr.heap.size = GL at HROWA ⊢
        clear q2 i1
        go_wp2
        obtain ⟨wo, rfl⟩ : ∃ wo : World, wo = wr := ⟨_, rfl⟩
        go_loopw [7, 8] (fun s7 s8 wr => ∃ (i kk : Nat) (bad : Bool) (b2 : Int) (done : List PostV) (vs : Nat → Value) (A : Option Addr) (C : Nat), s7 = .slice A done.length C ∧ s8 = .int .i64 b2 ∧ RdS w wr w.heap.size (.slice a nn cc) b kk bad ∧ RowP wr w.heap.size (.slice A done.length C) done vs ∧ done.length ≤ 16 * b.length + 16 ∧
            (bad = true → DOC = none) ∧ (bad = false → -1 ≤ b2 ∧ b2 < 2147483647 ∧ i ≤ (n + 15) / 16 ∧ (n + 15) / 16 ≤ b.length ∧ done.length = min (16 * i) n ∧ contL done (lsQ ((n + 15) / 16 - i) b2 (n - 16 * i) (b.drop kk)) = DOC)) (fun s7 _ wr => (n - slN s7) + badN wr w.heap.size)
        case atStart => exact ⟨0, kk, true, -1, [], _, _, _, rfl, rfl, HSTA.out, HROWA.out, by simp, (fun h => HFN.out.1 (by first | exact h | trivial)), (fun h => by first | exact ⟨by omega, by omega, by omega, (HFN.out.2 h).1, by simp, (HFN.out.2 h).2⟩ | cases h)⟩
        case round =>
          clear HSTA HROWA HFN
          obtain ⟨i, kk, bad, b2, done, vs, A, C, rfl, rfl, hst, hrow, hdl, hbt, hbf⟩ := hrel
          have q2 : wr.cell? ⟨w.heap.size, 2, none⟩ = some (.bool bad) := blk_cell hst.dr.blk 2
          by_cases hgo : done.length < n ∧ bad = false
          · obtain ⟨hlt, rfl⟩ := hgo
            obtain ⟨z1, z2, z3, z4, z5, z6⟩ := hbf rfl
            have hdi : done.length = 16 * i := by omega
            obtain ⟨R, hR⟩ : ∃ R, n - done.length = R := ⟨_, rfl⟩
            obtain ⟨D, hD⟩ : ∃ D, min 16 R = D := ⟨_, rfl⟩
            rw [show (n + 15) / 16 - i = ((n + 15) / 16 - (i + 1)) + 1 by omega, lsQ, show n - 16 * i = R by omega, hD] at z6
            have i1 : (done.length : Int) < (n : Int) := by omega
            have s1 : IntKind.i64.wrap ((n : Int) - (done.length : Int)) = (R : Int) := by rw [IntKind.wrap_i64]; omega
            have hmn : min (16 : Int) (R : Int) = (D : Int) := by omega
            have hD1 : 1 ≤ D ∧ D ≤ 16 := by omega
            have C4 := blk8_any wr w.heap.size a nn cc b kk hst.dr (fun W he => HRD.out _ (hst.below.trans (he.below (fun q hq => by omega) hst.below.size))) hb hst.le b2 z1 z2 D hD1.2
            have hbad1 := hst.dr.badN
            have HZ6 := Lib.hid z6
            have HZZ := Lib.hid (And.intro z1 (And.intro z2 (And.intro z3 (And.intro z4 (And.intro z5 (And.intro hdi (And.intro hR (And.intro hD (And.intro hlt hdl)))))))))
            have HST := Lib.hid hst
            have HROW := Lib.hid hrow
            have HBAD1 := Lib.hid hbad1
            clear z1 z2 z3 z4 z5 z6 hdi hR hD hlt hst hrow hbt hbf hbad1 hdl
            go_wp2_with fail
            with_reducible refine C4.mono ?_
            rintro e w5 ⟨A5, N5, C5, ps5, vs5, k5, bad5, rfl, hrow5, hl5, hd5, hk5, he5, hn5, hs5⟩
            clear C4 s1 hmn i1 q2
            obtain rfl : N5 = ps5.length := by
              obtain ⟨_, _, e9, _⟩ := hrow5.sl
              injection e9
            have hst5 := HST.out.read hd5 hk5 he5
            have hrowA := HROW.out.rp HST.out.dr he5
            have hsp : ∀ x y q, x < done.length → y < ps5.length → (vs x).ownBlock = some q → (vs5 y).ownBlock ≠ some q := fun x y q hx hy h1 h2 => by
              have g1 := ((HROW.out.own x hx).lt q h1).2
              have g2 := ((hrow5.own y hy).lt q h2).1
              omega
            have hgw := HST.out.below.size
            have hz5 := hst5.below.size
            have hln : done.length + ps5.length ≤ 1000000000 := by have := HZZ.out.2.2.2.2.2.2.2.2.2; omega
            have HROWA := Lib.hid hrowA
            have HROW5 := Lib.hid hrow5
            have HST5 := Lib.hid hst5
            have HSP := Lib.hid hsp
            have HLN := Lib.hid hln
            have HN5 := Lib.hid (And.intro hn5 hs5)
            clear hrowA hrow5 hst5 hsp hln hn5 hs5 hd5 he5
            go_wp2_with (at_builtin; with_reducible refine apPs HROWA.out HROW5.out HSP.out hgw HLN.out hz5 rfl _ _ rfl rfl rfl ?_)
            intro v6 w6 hrow6 hg6
            have he6 : Eff (fun q => (Value.slice A done.length C).ownBlock = some q) w5 w6 := (Eff.refl _ w5).grown hg6 (fun q hq _ => hq)
            have hst6 : RdS w w6 w.heap.size (.slice a nn cc) b k5 bad5 := ⟨HST5.out.dr.eff he6 (fun e => row_ne_type HROWA.out.row HST5.out.dr.blk (by decide) e), HST5.out.le, HST5.out.below.grown hg6 hz5 (fun q hq => (HROWA.out.lt q hq).1), HST5.out.hp⟩
            have hb6 := hst6.dr.badN
            obtain ⟨L, hL⟩ : ∃ L, done ++ ps5 = L := ⟨_, rfl⟩
            have hLl : L.length = done.length + ps5.length := by rw [← hL, List.length_append]
            rw [hL] at hrow6
            obtain ⟨A6, C6, rfl, _⟩ := hrow6.sl
            have hnew : (bad5 = true → DOC = none) ∧ (bad5 = false → ps5.length = D ∧ -1 ≤ lastV b2 ps5 ∧ lastV b2 ps5 < 2147483647 ∧ contL L (lsQ ((n + 15) / 16 - (i + 1)) (lastV b2 ps5) (n - 16 * (i + 1)) (b.drop k5)) = DOC) := by
              obtain ⟨z1, z2, z3, z4, z5', hdi, hR, hD, hlt, hdl⟩ := HZZ.out
              have hz6 := HZ6.out
              obtain ⟨hn5, hs5⟩ := HN5.out
              cases hq : blkQ b2 D (b.drop kk) with
              | none =>
                rw [hq] at hz6
                exact ⟨fun _ => hz6.symm, (fun h => by rw [hn5 hq] at h; cases h)⟩
              | some y =>
                obtain ⟨p0, l0⟩ := y
                obtain ⟨y1, y2, y3⟩ := hs5 p0 l0 hq
                subst y2 y3
                rw [hq] at hz6
                simp only at hz6
                obtain ⟨m1, K, m2, m3⟩ := blkQ_len z1 hq
                have hlv := lastV_ge ps5 b2 z1 z2 (fun x hx => (m2.p x hx).1)
                refine ⟨(fun h => by rw [y1] at h; cases h), fun _ => ⟨m1, hlv.1, hlv.2, ?_⟩⟩
                rw [← hz6, show n - 16 * (i + 1) = R - 16 by omega, ← hL]
                cases lsQ ((n + 15) / 16 - (i + 1)) (lastV b2 ps5) (R - 16) (b.drop k5) with
                | none => rfl
                | some y => simp [contL]
            have HNEW := Lib.hid hnew
            have HST6 := Lib.hid hst6
            have HROW6 := Lib.hid hrow6
            have HB6 := Lib.hid hb6
            have HLL := Lib.hid hLl
            have HL := Lib.hid hL
            have hLb : L.length ≤ 600000000 := by have := HZZ.out.2.2.2.2.2.2.2.2.2; omega
            clear hnew hst6 hrow6 hb6 he6 hg6 hLl hL HROWA HROW5 HST5 HSP
            have hrel9 : ∀ b9 : Int, (bad5 = false → b9 = lastV b2 ps5) → ∃ (i' kk' : Nat) (bad' : Bool) (b2' : Int) (done' : List PostV) (vs' : Nat → Value) (A' : Option Addr) (C' : Nat), Value.slice A6 L.length C6 = .slice A' done'.length C' ∧ Value.int .i64 b9 = .int .i64 b2' ∧ RdS w w6 w.heap.size (.slice a nn cc) b kk' bad' ∧ RowP w6 w.heap.size (.slice A' done'.length C') done' vs' ∧ done'.length ≤ 16 * b.length + 16 ∧
                (bad' = true → DOC = none) ∧ (bad' = false → -1 ≤ b2' ∧ b2' < 2147483647 ∧ i' ≤ (n + 15) / 16 ∧ (n + 15) / 16 ≤ b.length ∧ done'.length = min (16 * i') n ∧ contL done' (lsQ ((n + 15) / 16 - i') b2' (n - 16 * i') (b.drop kk')) = DOC) := fun b9 h9 => by
              obtain ⟨z1, z2, z3, z4, z5', hdi, hR, hD, hlt, hdl⟩ := HZZ.out
              have hLL := HLL.out
              refine ⟨i + 1, k5, bad5, b9, L, _, A6, C6, rfl, rfl, HST6.out, HROW6.out, by omega, HNEW.out.1, fun h => ?_⟩
              obtain ⟨m1, m2, m3, m4⟩ := HNEW.out.2 h
              rw [h9 h]
              exact ⟨m2, m3, by omega, z4, by omega, m4⟩
            have HREL := Lib.hid hrel9
            have HMS := Lib.hid (show (n - L.length) + badN w6 w.heap.size < (n - done.length) + badN wr w.heap.size by
              obtain ⟨z1, z2, z3, z4, z5', hdi, hR, hD, hlt, hdl⟩ := HZZ.out
              have hLL := HLL.out
              rw [HB6.out, HBAD1.out]
              cases hb5 : bad5 with
              | true => simp; omega
              | false =>
                have := (HNEW.out.2 hb5).1
                simp; omega)
            clear hrel9
            by_cases hL0 : 0 < L.length
            · obtain ⟨j, hj⟩ : ∃ j, j + 1 = L.length := ⟨L.length - 1, by omega⟩
              have hjl : j < L.length := by omega
              obtain ⟨gl, e1, _, _, cd, _, _⟩ := HROW6.out.at_ j hjl
              have hlast : bad5 = false → L[j].doc = lastV b2 ps5 := fun h => by
                have m1 := (HNEW.out.2 h).1
                have h1 := lastV_at b2 ps5 (ps5.length - 1) (by omega) (by omega)
                rw [h1]
                have hLL := HLL.out
                obtain ⟨X, hX⟩ : ∃ X, ps5[ps5.length - 1]? = some X := ⟨ps5[ps5.length - 1]'(by omega), List.getElem?_eq_getElem (by omega)⟩
                have h3 : (done ++ ps5)[j]? = some X := by
                  rw [List.getElem?_append_right (by omega), show j - done.length = ps5.length - 1 by omega]; exact hX
                rw [HL.out, List.getElem?_eq_getElem hjl] at h3
                rw [List.getElem?_eq_getElem (by omega)] at hX
                rw [Option.some.inj h3, Option.some.inj hX]
              obtain ⟨dd, hdd⟩ : ∃ dd, L[j].doc = dd := ⟨_, rfl⟩
              rw [hdd] at cd hlast
              subst e1
              have HLAST := Lib.hid hlast
              have t1 : decide ((0 : Int) < (L.length : Int)) = true := decide_eq_true (by omega)
              have t2 : decide (0 < L.length) = true := decide_eq_true hL0
              have s1 : IntKind.i64.wrap ((L.length : Int) - 1) = (j : Int) := by rw [IntKind.wrap_i64]; omega
              have j1 : (j : Int) < (L.length : Int) := by omega
              clear hlast hdd hj hjl hL0 HST6 HROW6 HL HLL HNEW HB6 HBAD1 HZ6 HZZ HROW HST HN5
              go_wp2
              go_roundw
              case rel => exact HREL.out dd HLAST.out
              case measure => exact HMS.out
            · have t1 : decide ((0 : Int) < (L.length : Int)) = false := decide_eq_false (by omega)
              have t2 : decide (0 < L.length) = false := decide_eq_false hL0
              have hb2 : bad5 = false → b2 = lastV b2 ps5 := fun h => by
                have m1 := (HNEW.out.2 h).1
                have hLL := HLL.out
                omega
              have HB2 := Lib.hid hb2
              clear hb2 hL0 HST6 HROW6 HL HLL HNEW HB6 HBAD1 HZ6 HZZ HROW HST HN5
              go_wp2
              go_roundw
              case rel => exact HREL.out b2 HB2.out
              case measure => exact HMS.out
          · have hfinal : (bad = true → DOC = none) ∧ (bad = false → DOC = some done) := by
              refine ⟨hbt, fun h => ?_⟩
              obtain ⟨z1, z2, z3, z4, z5, z6⟩ := hbf h
              have hin : (n + 15) / 16 - i = 0 := by
                rcases Nat.lt_or_ge done.length n with h9 | h9
                · exact absurd ⟨h9, h⟩ hgo
                · omega
              rw [hin, lsQ] at z6
              rw [← z6]; simp [contL]
            have hcond : ¬ (done.length < n) ∨ bad = true := by
              cases bad with
              | true => exact .inr rfl
              | false => exact .inl (fun h => hgo ⟨h, rfl⟩)
            have HFN := Lib.hid hfinal
            have HST := Lib.hid hst
            have HROW := Lib.hid hrow
            clear hst hrow hbt hbf hfinal hgo
            by_cases hbd : bad = true
            · subst hbd
              have hno : openV b = none := open_none_doc hb (fun ps h _ _ => by rw [HDOC.out, HFN.out.1 (by first | rfl | trivial)] at h; cases h)
              have HNO := Lib.hid hno
              have HB := Lib.hid HST.out.below
              clear hno HFN HST HROW
              by_cases hlt : done.length < n
              · have i1 : (done.length : Int) < (n : Int) := by omega
                clear hlt hcond
                go_wp2
                go_ret2
                exact ⟨fun r hr => (by rw [HNO.out] at hr; cases hr), fun _ => rfl, HB.out⟩
              · have i1 : ¬ ((done.length : Int) < (n : Int)) := by omega
                clear hlt hcond
                go_wp2
                go_ret2
                exact ⟨fun r hr => (by rw [HNO.out] at hr; cases hr), fun _ => rfl, HB.out⟩
            · have hbf : bad = false := by simpa using hbd
              subst hbf
              have hlt : ¬ (done.length < n) := hcond.resolve_right (by decide)
              have i1 : ¬ ((done.length : Int) < (n : Int)) := by omega
              have hdoc : docV b = some done := by rw [HDOC.out]; exact HFN.out.2 rfl
              have hln := docV_len hdoc
              have hfit := hln.fit hb
              have h9t := hln.t
              have h9n := hln.n
              obtain ⟨_, _, e9, hcap, _⟩ := HROW.out.sl
              have hcap2 : done.length ≤ C := by injection e9 with _ _ e9; omega
              clear e9 hcap
              have C9 := renc_any wr A done.length C done HROW.out.rd hcap2 hfit (by omega) (by omega) EA (HS.out.below HST.out.below)
              have HDC := Lib.hid hdoc
              clear hbd hcond hlt hdoc hln hfit h9t h9n HFN
              go_wp2_with fail
              with_reducible refine C9.mono ?_
              rintro e w9 ⟨h9, h9n⟩
              clear C9
              by_cases ok : okV (-1) done
              · obtain ⟨A9, N9, C9, rfl, ho9, hb9⟩ := h9 ok
                have hb99 := HST.out.below.trans (hb9.mono HST.out.below.size)
                have r1 := run_str (P := Tryd.prog) Tryd.underlying30 Tryd.underlying5 Tryd.underlying9 ho9.rd
                have r2 := run_str (P := Tryd.prog) Tryd.underlying30 Tryd.underlying5 Tryd.underlying9 (HRD.out _ hb99)
                have HROW9 := Lib.hid (HROW.out.below hb9 (Nat.le_refl _))
                have HB9 := Lib.hid hb99
                clear h9 h9n ho9 hb9 hb99 HROW HST q2
                by_cases heq : imageV done = b
                · obtain ⟨r, hor, hrf⟩ := open_of_doc hb HDC.out ok heq
                  have HOR := Lib.hid hor
                  have HRF := Lib.hid hrf
                  rw [heq] at r1
                  clear hor hrf heq
                  go_wp2
                  go_ret2
                  refine ⟨fun r' hr' => ?_, fun h => (by rw [HOR.out] at h; cases h), HB9.out⟩
                  rw [HOR.out] at hr'
                  injection hr' with hr'
                  subst hr'
                  rw [HRF.out]
                  exact ⟨_, _, _, _, rfl, HROW9.out⟩
                · have hno : openV b = none := open_none_doc hb (fun ps h _ h2 => by rw [HDC.out] at h; injection h with h; subst h; exact heq h2)
                  have ts : ((strOf (imageV done)).toList == (strOf b).toList) = false := by rw [strOf_toList, strOf_toList]; simpa using heq
                  have HNO := Lib.hid hno
                  clear hno heq
                  go_wp2
                  go_ret2
                  exact ⟨fun r hr => (by rw [HNO.out] at hr; cases hr), fun _ => rfl, HB9.out⟩
              · obtain ⟨rfl, hb9⟩ := h9n ok
                have hno : openV b = none := open_none_doc hb (fun ps h h2 _ => by rw [HDC.out] at h; injection h with h; subst h; exact ok h2)
                obtain ⟨G, hG⟩ : ∃ G, checkV (-1) done = G := ⟨_, rfl⟩
                have hg0 : G ≠ 0 := fun e => ok (hG.trans e)
                rw [hG]
                have t0 : ((G : Int) != 0) = true := by simp; omega
                have HB9 := Lib.hid (HST.out.below.trans (hb9.mono HST.out.below.size))
                have HNO := Lib.hid hno
                clear h9 h9n hb9 hno hG hg0 HROW HST q2
                go_wp2
                go_ret2
                exact ⟨fun r hr => (by rw [HNO.out] at hr; cases hr), fun _ => rfl, HB9.out⟩
      · have i1 : ¬ ((Q : Int) < (n : Int)) := by omega
        clear hcond
        go_upto_region 10 with fail
        generalize wr.alloc (.cells #[] 41) = W1 at HSTA HROWA ⊢
        generalize wr.heap.size = GL at HROWA ⊢
        clear q2 i1
        go_wp2
        obtain ⟨wo, rfl⟩ : ∃ wo : World, wo = wr := ⟨_, rfl⟩
        go_loopw [7, 8] (fun s7 s8 wr => ∃ (i kk : Nat) (bad : Bool) (b2 : Int) (done : List PostV) (vs : Nat → Value) (A : Option Addr) (C : Nat), s7 = .slice A done.length C ∧ s8 = .int .i64 b2 ∧ RdS w wr w.heap.size (.slice a nn cc) b kk bad ∧ RowP wr w.heap.size (.slice A done.length C) done vs ∧ done.length ≤ 16 * b.length + 16 ∧
            (bad = true → DOC = none) ∧ (bad = false → -1 ≤ b2 ∧ b2 < 2147483647 ∧ i ≤ (n + 15) / 16 ∧ (n + 15) / 16 ≤ b.length ∧ done.length = min (16 * i) n ∧ contL done (lsQ ((n + 15) / 16 - i) b2 (n - 16 * i) (b.drop kk)) = DOC)) (fun s7 _ wr => (n - slN s7) + badN wr w.heap.size)
        case atStart => exact ⟨0, kk, bad, -1, [], _, _, _, rfl, rfl, HSTA.out, HROWA.out, by simp, (fun h => HFN.out.1 (by first | exact h | trivial)), (fun h => by first | exact ⟨by omega, by omega, by omega, (HFN.out.2 h).1, by simp, (HFN.out.2 h).2⟩ | cases h)⟩
        case round =>
          clear HSTA HROWA HFN
          obtain ⟨i, kk, bad, b2, done, vs, A, C, rfl, rfl, hst, hrow, hdl, hbt, hbf⟩ := hrel
          have q2 : wr.cell? ⟨w.heap.size, 2, none⟩ = some (.bool bad) := blk_cell hst.dr.blk 2
          by_cases hgo : done.length < n ∧ bad = false
          · obtain ⟨hlt, rfl⟩ := hgo
            obtain ⟨z1, z2, z3, z4, z5, z6⟩ := hbf rfl
            have hdi : done.length = 16 * i := by omega
            obtain ⟨R, hR⟩ : ∃ R, n - done.length = R := ⟨_, rfl⟩
            obtain ⟨D, hD⟩ : ∃ D, min 16 R = D := ⟨_, rfl⟩
            rw [show (n + 15) / 16 - i = ((n + 15) / 16 - (i + 1)) + 1 by omega, lsQ, show n - 16 * i = R by omega, hD] at z6
            have i1 : (done.length : Int) < (n : Int) := by omega
            have s1 : IntKind.i64.wrap ((n : Int) - (done.length : Int)) = (R : Int) := by rw [IntKind.wrap_i64]; omega
            have hmn : min (16 : Int) (R : Int) = (D : Int) := by omega
            have hD1 : 1 ≤ D ∧ D ≤ 16 := by omega
            have C4 := blk8_any wr w.heap.size a nn cc b kk hst.dr (fun W he => HRD.out _ (hst.below.trans (he.below (fun q hq => by omega) hst.below.size))) hb hst.le b2 z1 z2 D hD1.2
            have hbad1 := hst.dr.badN
            have HZ6 := Lib.hid z6
            have HZZ := Lib.hid (And.intro z1 (And.intro z2 (And.intro z3 (And.intro z4 (And.intro z5 (And.intro hdi (And.intro hR (And.intro hD (And.intro hlt hdl)))))))))
            have HST := Lib.hid hst
            have HROW := Lib.hid hrow
            have HBAD1 := Lib.hid hbad1
            clear z1 z2 z3 z4 z5 z6 hdi hR hD hlt hst hrow hbt hbf hbad1 hdl
            go_wp2_with fail
            with_reducible refine C4.mono ?_
            rintro e w5 ⟨A5, N5, C5, ps5, vs5, k5, bad5, rfl, hrow5, hl5, hd5, hk5, he5, hn5, hs5⟩
            clear C4 s1 hmn i1 q2
            obtain rfl : N5 = ps5.length := by
              obtain ⟨_, _, e9, _⟩ := hrow5.sl
              injection e9
            have hst5 := HST.out.read hd5 hk5 he5
            have hrowA := HROW.out.rp HST.out.dr he5
            have hsp : ∀ x y q, x < done.length → y < ps5.length → (vs x).ownBlock = some q → (vs5 y).ownBlock ≠ some q := fun x y q hx hy h1 h2 => by
              have g1 := ((HROW.out.own x hx).lt q h1).2
              have g2 := ((hrow5.own y hy).lt q h2).1
              omega
            have hgw := HST.out.below.size
            have hz5 := hst5.below.size
            have hln : done.length + ps5.length ≤ 1000000000 := by have := HZZ.out.2.2.2.2.2.2.2.2.2; omega
            have HROWA := Lib.hid hrowA
            have HROW5 := Lib.hid hrow5
            have HST5 := Lib.hid hst5
            have HSP := Lib.hid hsp
            have HLN := Lib.hid hln
            have HN5 := Lib.hid (And.intro hn5 hs5)
            clear hrowA hrow5 hst5 hsp hln hn5 hs5 hd5 he5
            go_wp2_with (at_builtin; with_reducible refine apPs HROWA.out HROW5.out HSP.out hgw HLN.out hz5 rfl _ _ rfl rfl rfl ?_)
            intro v6 w6 hrow6 hg6
            have he6 : Eff (fun q => (Value.slice A done.length C).ownBlock = some q) w5 w6 := (Eff.refl _ w5).grown hg6 (fun q hq _ => hq)
            have hst6 : RdS w w6 w.heap.size (.slice a nn cc) b k5 bad5 := ⟨HST5.out.dr.eff he6 (fun e => row_ne_type HROWA.out.row HST5.out.dr.blk (by decide) e), HST5.out.le, HST5.out.below.grown hg6 hz5 (fun q hq => (HROWA.out.lt q hq).1), HST5.out.hp⟩
            have hb6 := hst6.dr.badN
            obtain ⟨L, hL⟩ : ∃ L, done ++ ps5 = L := ⟨_, rfl⟩
            have hLl : L.length = done.length + ps5.length := by rw [← hL, List.length_append]
            rw [hL] at hrow6
            obtain ⟨A6, C6, rfl, _⟩ := hrow6.sl
            have hnew : (bad5 = true → DOC = none) ∧ (bad5 = false → ps5.length = D ∧ -1 ≤ lastV b2 ps5 ∧ lastV b2 ps5 < 2147483647 ∧ contL L (lsQ ((n + 15) / 16 - (i + 1)) (lastV b2 ps5) (n - 16 * (i + 1)) (b.drop k5)) = DOC) := by
              obtain ⟨z1, z2, z3, z4, z5', hdi, hR, hD, hlt, hdl⟩ := HZZ.out
              have hz6 := HZ6.out
              obtain ⟨hn5, hs5⟩ := HN5.out
              cases hq : blkQ b2 D (b.drop kk) with
              | none =>
                rw [hq] at hz6
                exact ⟨fun _ => hz6.symm, (fun h => by rw [hn5 hq] at h; cases h)⟩
              | some y =>
                obtain ⟨p0, l0⟩ := y
                obtain ⟨y1, y2, y3⟩ := hs5 p0 l0 hq
                subst y2 y3
                rw [hq] at hz6
                simp only at hz6
                obtain ⟨m1, K, m2, m3⟩ := blkQ_len z1 hq
                have hlv := lastV_ge ps5 b2 z1 z2 (fun x hx => (m2.p x hx).1)
                refine ⟨(fun h => by rw [y1] at h; cases h), fun _ => ⟨m1, hlv.1, hlv.2, ?_⟩⟩
                rw [← hz6, show n - 16 * (i + 1) = R - 16 by omega, ← hL]
                cases lsQ ((n + 15) / 16 - (i + 1)) (lastV b2 ps5) (R - 16) (b.drop k5) with
                | none => rfl
                | some y => simp [contL]
            have HNEW := Lib.hid hnew
            have HST6 := Lib.hid hst6
            have HROW6 := Lib.hid hrow6
            have HB6 := Lib.hid hb6
            have HLL := Lib.hid hLl
            have HL := Lib.hid hL
            have hLb : L.length ≤ 600000000 := by have := HZZ.out.2.2.2.2.2.2.2.2.2; omega
            clear hnew hst6 hrow6 hb6 he6 hg6 hLl hL HROWA HROW5 HST5 HSP
            have hrel9 : ∀ b9 : Int, (bad5 = false → b9 = lastV b2 ps5) → ∃ (i' kk' : Nat) (bad' : Bool) (b2' : Int) (done' : List PostV) (vs' : Nat → Value) (A' : Option Addr) (C' : Nat), Value.slice A6 L.length C6 = .slice A' done'.length C' ∧ Value.int .i64 b9 = .int .i64 b2' ∧ RdS w w6 w.heap.size (.slice a nn cc) b kk' bad' ∧ RowP w6 w.heap.size (.slice A' done'.length C') done' vs' ∧ done'.length ≤ 16 * b.length + 16 ∧
                (bad' = true → DOC = none) ∧ (bad' = false → -1 ≤ b2' ∧ b2' < 2147483647 ∧ i' ≤ (n + 15) / 16 ∧ (n + 15) / 16 ≤ b.length ∧ done'.length = min (16 * i') n ∧ contL done' (lsQ ((n + 15) / 16 - i') b2' (n - 16 * i') (b.drop kk')) = DOC) := fun b9 h9 => by
              obtain ⟨z1, z2, z3, z4, z5', hdi, hR, hD, hlt, hdl⟩ := HZZ.out
              have hLL := HLL.out
              refine ⟨i + 1, k5, bad5, b9, L, _, A6, C6, rfl, rfl, HST6.out, HROW6.out, by omega, HNEW.out.1, fun h => ?_⟩
              obtain ⟨m1, m2, m3, m4⟩ := HNEW.out.2 h
              rw [h9 h]
              exact ⟨m2, m3, by omega, z4, by omega, m4⟩
            have HREL := Lib.hid hrel9
            have HMS := Lib.hid (show (n - L.length) + badN w6 w.heap.size < (n - done.length) + badN wr w.heap.size by
              obtain ⟨z1, z2, z3, z4, z5', hdi, hR, hD, hlt, hdl⟩ := HZZ.out
              have hLL := HLL.out
              rw [HB6.out, HBAD1.out]
              cases hb5 : bad5 with
              | true => simp; omega
              | false =>
                have := (HNEW.out.2 hb5).1
                simp; omega)
            clear hrel9
            by_cases hL0 : 0 < L.length
            · obtain ⟨j, hj⟩ : ∃ j, j + 1 = L.length := ⟨L.length - 1, by omega⟩
              have hjl : j < L.length := by omega
              obtain ⟨gl, e1, _, _, cd, _, _⟩ := HROW6.out.at_ j hjl
              have hlast : bad5 = false → L[j].doc = lastV b2 ps5 := fun h => by
                have m1 := (HNEW.out.2 h).1
                have h1 := lastV_at b2 ps5 (ps5.length - 1) (by omega) (by omega)
                rw [h1]
                have hLL := HLL.out
                obtain ⟨X, hX⟩ : ∃ X, ps5[ps5.length - 1]? = some X := ⟨ps5[ps5.length - 1]'(by omega), List.getElem?_eq_getElem (by omega)⟩
                have h3 : (done ++ ps5)[j]? = some X := by
                  rw [List.getElem?_append_right (by omega), show j - done.length = ps5.length - 1 by omega]; exact hX
                rw [HL.out, List.getElem?_eq_getElem hjl] at h3
                rw [List.getElem?_eq_getElem (by omega)] at hX
                rw [Option.some.inj h3, Option.some.inj hX]
              obtain ⟨dd, hdd⟩ : ∃ dd, L[j].doc = dd := ⟨_, rfl⟩
              rw [hdd] at cd hlast
              subst e1
              have HLAST := Lib.hid hlast
              have t1 : decide ((0 : Int) < (L.length : Int)) = true := decide_eq_true (by omega)
              have t2 : decide (0 < L.length) = true := decide_eq_true hL0
              have s1 : IntKind.i64.wrap ((L.length : Int) - 1) = (j : Int) := by rw [IntKind.wrap_i64]; omega
              have j1 : (j : Int) < (L.length : Int) := by omega
              clear hlast hdd hj hjl hL0 HST6 HROW6 HL HLL HNEW HB6 HBAD1 HZ6 HZZ HROW HST HN5
              go_wp2
              go_roundw
              case rel => exact HREL.out dd HLAST.out
              case measure => exact HMS.out
            · have t1 : decide ((0 : Int) < (L.length : Int)) = false := decide_eq_false (by omega)
              have t2 : decide (0 < L.length) = false := decide_eq_false hL0
              have hb2 : bad5 = false → b2 = lastV b2 ps5 := fun h => by
                have m1 := (HNEW.out.2 h).1
                have hLL := HLL.out
                omega
              have HB2 := Lib.hid hb2
              clear hb2 hL0 HST6 HROW6 HL HLL HNEW HB6 HBAD1 HZ6 HZZ HROW HST HN5
              go_wp2
              go_roundw
              case rel => exact HREL.out b2 HB2.out
              case measure => exact HMS.out
          · have hfinal : (bad = true → DOC = none) ∧ (bad = false → DOC = some done) := by
              refine ⟨hbt, fun h => ?_⟩
              obtain ⟨z1, z2, z3, z4, z5, z6⟩ := hbf h
              have hin : (n + 15) / 16 - i = 0 := by
                rcases Nat.lt_or_ge done.length n with h9 | h9
                · exact absurd ⟨h9, h⟩ hgo
                · omega
              rw [hin, lsQ] at z6
              rw [← z6]; simp [contL]
            have hcond : ¬ (done.length < n) ∨ bad = true := by
              cases bad with
              | true => exact .inr rfl
              | false => exact .inl (fun h => hgo ⟨h, rfl⟩)
            have HFN := Lib.hid hfinal
            have HST := Lib.hid hst
            have HROW := Lib.hid hrow
            clear hst hrow hbt hbf hfinal hgo
            by_cases hbd : bad = true
            · subst hbd
              have hno : openV b = none := open_none_doc hb (fun ps h _ _ => by rw [HDOC.out, HFN.out.1 (by first | rfl | trivial)] at h; cases h)
              have HNO := Lib.hid hno
              have HB := Lib.hid HST.out.below
              clear hno HFN HST HROW
              by_cases hlt : done.length < n
              · have i1 : (done.length : Int) < (n : Int) := by omega
                clear hlt hcond
                go_wp2
                go_ret2
                exact ⟨fun r hr => (by rw [HNO.out] at hr; cases hr), fun _ => rfl, HB.out⟩
              · have i1 : ¬ ((done.length : Int) < (n : Int)) := by omega
                clear hlt hcond
                go_wp2
                go_ret2
                exact ⟨fun r hr => (by rw [HNO.out] at hr; cases hr), fun _ => rfl, HB.out⟩
            · have hbf : bad = false := by simpa using hbd
              subst hbf
              have hlt : ¬ (done.length < n) := hcond.resolve_right (by decide)
              have i1 : ¬ ((done.length : Int) < (n : Int)) := by omega
              have hdoc : docV b = some done := by rw [HDOC.out]; exact HFN.out.2 rfl
              have hln := docV_len hdoc
              have hfit := hln.fit hb
              have h9t := hln.t
              have h9n := hln.n
              obtain ⟨_, _, e9, hcap, _⟩ := HROW.out.sl
              have hcap2 : done.length ≤ C := by injection e9 with _ _ e9; omega
              clear e9 hcap
              have C9 := renc_any wr A done.length C done HROW.out.rd hcap2 hfit (by omega) (by omega) EA (HS.out.below HST.out.below)
              have HDC := Lib.hid hdoc
              clear hbd hcond hlt hdoc hln hfit h9t h9n HFN
              go_wp2_with fail
              with_reducible refine C9.mono ?_
              rintro e w9 ⟨h9, h9n⟩
              clear C9
              by_cases ok : okV (-1) done
              · obtain ⟨A9, N9, C9, rfl, ho9, hb9⟩ := h9 ok
                have hb99 := HST.out.below.trans (hb9.mono HST.out.below.size)
                have r1 := run_str (P := Tryd.prog) Tryd.underlying30 Tryd.underlying5 Tryd.underlying9 ho9.rd
                have r2 := run_str (P := Tryd.prog) Tryd.underlying30 Tryd.underlying5 Tryd.underlying9 (HRD.out _ hb99)
                have HROW9 := Lib.hid (HROW.out.below hb9 (Nat.le_refl _))
                have HB9 := Lib.hid hb99
                clear h9 h9n ho9 hb9 hb99 HROW HST q2
                by_cases heq : imageV done = b
                · obtain ⟨r, hor, hrf⟩ := open_of_doc hb HDC.out ok heq
                  have HOR := Lib.hid hor
                  have HRF := Lib.hid hrf
                  rw [heq] at r1
                  clear hor hrf heq
                  go_wp2
                  go_ret2
                  refine ⟨fun r' hr' => ?_, fun h => (by rw [HOR.out] at h; cases h), HB9.out⟩
                  rw [HOR.out] at hr'
                  injection hr' with hr'
                  subst hr'
                  rw [HRF.out]
                  exact ⟨_, _, _, _, rfl, HROW9.out⟩
                · have hno : openV b = none := open_none_doc hb (fun ps h _ h2 => by rw [HDC.out] at h; injection h with h; subst h; exact heq h2)
                  have ts : ((strOf (imageV done)).toList == (strOf b).toList) = false := by rw [strOf_toList, strOf_toList]; simpa using heq
                  have HNO := Lib.hid hno
                  clear hno heq
                  go_wp2
                  go_ret2
                  exact ⟨fun r hr => (by rw [HNO.out] at hr; cases hr), fun _ => rfl, HB9.out⟩
              · obtain ⟨rfl, hb9⟩ := h9n ok
                have hno : openV b = none := open_none_doc hb (fun ps h h2 _ => by rw [HDC.out] at h; injection h with h; subst h; exact ok h2)
                obtain ⟨G, hG⟩ : ∃ G, checkV (-1) done = G := ⟨_, rfl⟩
                have hg0 : G ≠ 0 := fun e => ok (hG.trans e)
                rw [hG]
                have t0 : ((G : Int) != 0) = true := by simp; omega
                have HB9 := Lib.hid (HST.out.below.trans (hb9.mono HST.out.below.size))
                have HNO := Lib.hid hno
                clear h9 h9n hb9 hno hG hg0 HROW HST q2
                go_wp2
                go_ret2
                exact ⟨fun r hr => (by rw [HNO.out] at hr; cases hr), fun _ => rfl, HB9.out⟩
end Go.Proofs.YtaijepjhmjjecaaDoor
