/- Merged: DocK, WBytes. -/
import Derived.Test.YthnpbfadblcicaaDoorZG9
import Derived.Test.YthnpbfadblcicaaDoorZG1
import Derived.Test.YthnpbfadblcicaaDoorZG4
/- The document's Packed: bit by bit. -/
namespace Go.Proofs.YthnpbfadblcicaaDoor
set_option linter.unusedVariables false
open Go.ChangeShapes Go.WideShapes Go.ChangeAt Go.RowKit

/-- The same as pckO, of numbers. -/
def pckN (l : List Nat) : List UInt8 × Nat := if l ≠ [] ∧ widL l = 0 ∧ 65536 < l.length then ([], 3) else (pckB l, 0)
theorem pckN_nil : pckN [] = (uvar 0, 0) := by unfold pckN; rw [if_neg (by simp)]; simp [pckB]
theorem pckN_lim {l : List Nat} (hw : widL l = 0) (hb : 65536 < l.length) : pckN l = ([], 3) := by
  unfold pckN; rw [if_pos ⟨fun e => by subst e; simp at hb, hw, hb⟩]
theorem pckN_ok {l : List Nat} (hne : l ≠ []) (hw : widL l ≠ 0 ∨ l.length ≤ 65536) : pckN l = (uvar l.length ++ [UInt8.ofNat (widL l)] ++ leB ((widL l * l.length + 7) / 8) (packN (widL l) l), 0) := by
  unfold pckN; rw [if_neg (by rintro ⟨_, h1, h2⟩; rcases hw with hw | hw; exact hw h1; omega)]
  unfold pckB packB
  rw [if_neg hne, Nat.mul_comm (widL l)]; simp

set_option maxRecDepth 100000 in
set_option maxHeartbeats 1000000 in
theorem rpk_neg (w : World) (a : Option Addr) (n c : Nat) (l : List Int) (hr : Rd w (.slice a n c) (intL l)) (hl : l.length ≤ 1000000000) (hneg : anyNeg l = true) :
    Calls Tryd.prog 70 #[.slice a n c] w fun e w' => ∃ v, e = .returned (.tuple #[v, .int .i64 8]) ∧ Own w' w.heap.size 5 v (bytesV []) ∧ Below w.heap.size w w' := by
  obtain ⟨rfl, hg⟩ := rd_get hr
  have HG := Lib.hid hg
  have HNEG := Lib.hid hneg
  clear hg hr hneg
  go_enter Tryd.func70, Tryd.ntmps70
  go_wp2
  go_loopw [15] (fun s wr => ∃ i : Nat, s = .int .i64 i ∧ i ≤ l.length ∧ anyNeg (l.take i) = false ∧ w = wr) (fun s _ => l.length - (intOf s).toNat)
  case atStart => exact ⟨0, rfl, Nat.zero_le _, rfl, rfl⟩
  case round =>
    obtain ⟨i, rfl, hi, hno, rfl⟩ := hrel
    by_cases hlt : i < l.length
    · obtain ⟨b, o, rfl, hg⟩ := HG.out (by omega)
      have hc := hg i hlt
      obtain ⟨z, hz⟩ : ∃ z, l[i] = z := ⟨_, rfl⟩
      rw [hz] at hc
      have HZ := Lib.hid hz
      have HN := Lib.hid hno
      clear hg hz hno
      by_cases hn : z < 0
      · go_wp2
        go_ret2
        exact ⟨_, rfl, own_empty _ _ _ (Nat.le_refl _), (Below.refl _ _).alloc (Nat.le_refl _) _⟩
      · go_wp2
        go_roundw
        case rel =>
          refine ⟨i + 1, by go_num, by omega, ?_, by first | rfl | trivial⟩
          rw [anyNeg_snoc l i hlt, HN.out, HZ.out]; simp; omega
        case measure => simp [intOf]; omega
    · obtain rfl : i = l.length := by omega
      rw [List.take_length] at hno
      exact absurd (hno.symm.trans HNEG.out) (by decide)

set_option maxRecDepth 100000 in
set_option maxHeartbeats 4000000 in
theorem rpk_ok (w : World) (a : Option Addr) (n c : Nat) (l : List Nat) (hr : Rd w (.slice a n c) (intL (natI l))) (hl : l.length ≤ 1000000000) (hf : ∀ x ∈ l, x < 2 ^ 63) :
    Calls Tryd.prog 70 #[.slice a n c] w fun e w' => ∃ v, e = .returned (.tuple #[v, .int .i64 ((pckN l).2 : Nat)]) ∧ Own w' w.heap.size 5 v (bytesV (pckN l).1) ∧ Below w.heap.size w w' := by
  obtain ⟨rfl, hg⟩ := rd_nat hr
  have HG := Lib.hid hg
  have HF := Lib.hid hf
  have HR := Lib.hid hr
  have HU := Lib.hid (uvar_le l.length (by omega)).2
  have HW63 := Lib.hid (widL_63 hf)
  have HFIT := Lib.hid (widL_fits (l := l) (fun x hx => Nat.lt_trans (hf x hx) (by decide)))
  clear hg hf hr
  go_enter Tryd.func70, Tryd.ntmps70
  go_wp2
  go_loopw [15] (fun s wr => ∃ i : Nat, s = .int .i64 i ∧ i ≤ l.length ∧ w = wr) (fun s _ => l.length - (intOf s).toNat)
  case atStart => exact ⟨0, rfl, Nat.zero_le _, rfl⟩
  case round =>
    obtain ⟨i, rfl, hi, rfl⟩ := hrel
    by_cases hlt : i < l.length
    · obtain ⟨b, o, rfl, hg⟩ := HG.out (by omega)
      have hc := hg i hlt
      obtain ⟨z, hz⟩ : ∃ z, l[i] = z := ⟨_, rfl⟩
      rw [hz] at hc
      have hz0 : decide ((z : Int) < 0) = false := decide_eq_false (by omega)
      clear hg hz
      go_wp2
      go_roundw
      case rel => exact ⟨i + 1, by go_num, by omega, by first | rfl | trivial⟩
      case measure => simp [intOf]; omega
    · obtain rfl : i = l.length := by omega
      have C1 := ruvar_any l.length w (by omega)
      go_wp2_with fail
      refine C1.mono ?_
      rintro e w1 ⟨v1, rfl, ho, hb⟩
      clear C1
      by_cases h0 : l.length = 0
      · have hnil : l = [] := List.length_eq_zero_iff.1 h0
        subst hnil
        go_wp2
        go_ret2
        exact ⟨_, by rw [pckN_nil]; rfl, by rw [pckN_nil]; exact ho, hb⟩
      · have C2 := rwid_any w1 a _ c l (HR.out.below hb (Nat.le_refl _)) hl HF.out
        have HNE := Lib.hid (show l ≠ [] from fun e => h0 (by rw [e]; rfl))
        have q0 : decide (l.length = 0) = false := decide_eq_false h0
        have q1 : ((l.length : Int) == 0) = false := beq_eq_false_iff_ne.2 (by omega)
        go_wp2_with fail
        refine C2.mono ?_
        rintro e w2 ⟨rfl, rfl⟩
        clear C2 q0 q1
        have hw63 := HW63.out
        obtain ⟨W, hW⟩ : ∃ W, widL l = W := ⟨_, rfl⟩
        rw [hW] at hw63 ⊢
        have HWW := Lib.hid hW
        clear hW
        have HO := Lib.hid ho
        have HB := Lib.hid hb
        have hb0 := hb.size
        have hl' : (bytesV (uvar l.length)).length < 1000000000000 := by rw [bytesV_length]; have := HU.out; omega
        clear hb
        by_cases hlim : W = 0 ∧ 65536 < l.length
        · obtain ⟨h1, h2⟩ := hlim
          subst h1
          have q2 : (65536 : Int) < l.length := by omega
          go_wp2
          go_ret2
          exact ⟨_, by rw [pckN_lim HWW.out h2]; rfl, by rw [pckN_lim HWW.out h2]; exact own_empty _ _ _ hb0, HB.out.alloc hb0 _⟩
        · have HOK := Lib.hid (show widL l ≠ 0 ∨ l.length ≤ 65536 by rw [HWW.out]; omega)
          have hcase : (((W : Int) == 0) = true ∧ decide ((65536 : Int) < l.length) = false) ∨ ((W : Int) == 0) = false := by
            by_cases hw0 : W = 0
            · exact .inl ⟨by rw [hw0]; rfl, decide_eq_false (fun h => hlim ⟨hw0, by omega⟩)⟩
            · exact .inr (beq_eq_false_iff_ne.2 (by omega))
          clear hlim
          obtain ⟨av, nv, cv, rfl⟩ := own_sl ho
          rcases hcase with ⟨q2, q3⟩ | q2
          all_goals
            go_wp2_with (at_builtin; with_reducible refine ap1 elBytes rfl ho hl' hb0 rfl _ _ rfl rfl rfl ?_)
            intro v2 w2 ho2 hg2
            have hb2 := HB.out.grown hg2 hb0 (fun k hk => (ho.lt k hk).1)
            have ho2' : Own w2 w.heap.size 5 v2 (bytesV (uvar l.length ++ [UInt8.ofNat W])) := by
              rw [bytesV_snoc]; exact own_last ho2 (by rw [u8_ofNat]; omega)
            obtain ⟨PRE, hPRE⟩ : ∃ P, uvar l.length ++ [UInt8.ofNat W] = P := ⟨_, rfl⟩
            have hPL : PRE.length ≤ 11 := by rw [← hPRE]; simp only [List.length_append, List.length_cons, List.length_nil]; have := HU.out; omega
            rw [hPRE] at ho2'
            have HPRE := Lib.hid hPRE
            clear hPRE
            have HO2 := Lib.hid ho2'
            have HB2 := Lib.hid hb2
            clear ho2 hg2 hb2 ho2' HO HB ho
            go_wp2
            go_loopw [6, 8, 9, 48] (fun s6 s8 s9 s48 wr => ∃ (i h c : Nat) (B : List UInt8), s48 = .int .i64 i ∧ i ≤ l.length ∧ s8 = .int .i64 h ∧ s9 = .int .i64 c ∧ Bits (W * i) (packN W (l.take i)) B h c ∧ Own wr w.heap.size 5 s6 (bytesV (PRE ++ B)) ∧ Below w.heap.size w wr) (fun _ _ _ s _ => l.length - (intOf s).toNat)
            case atStart => exact ⟨0, 0, 0, [], rfl, Nat.zero_le _, rfl, rfl, by simpa [packN] using bits_zero, by simpa using HO2.out, HB2.out⟩
            case round =>
              clear HO2 HB2
              obtain ⟨i, h, c, B, rfl, hi, rfl, rfl, hB, ho, hb⟩ := hrel
              have hb0 := hb.size
              by_cases hlt : i < l.length
              · have hrd := HR.out.below hb (Nat.le_refl _)
                obtain ⟨_, hg0⟩ := rd_nat hrd
                obtain ⟨b, o, rfl, hg⟩ := hg0 (by omega)
                have hc := hg i hlt
                have hx := HFIT.out l[i] (List.getElem_mem hlt)
                rw [HWW.out] at hx
                have hx63 := HF.out l[i] (List.getElem_mem hlt)
                have hsn := packN_snoc W (l.take i) l[i]
                rw [← take_one hlt, List.length_take, Nat.min_eq_left hi] at hsn
                have hTi : W * i ≤ 63 * i := Nat.mul_le_mul_right _ hw63
                obtain ⟨x, hxx⟩ : ∃ x, l[i] = x := ⟨_, rfl⟩
                obtain ⟨A, hA⟩ : ∃ A, packN W (l.take i) = A := ⟨_, rfl⟩
                rw [hxx] at hc hx hx63 hsn
                rw [hA] at hB hsn
                have HSN := Lib.hid hsn
                have HX := Lib.hid hx
                have HBB := Lib.hid hB
                have HOO := Lib.hid ho
                have HB := Lib.hid hb
                have HTI := Lib.hid hTi
                have hxI : (x : Int) ≤ 9223372036854775807 := by omega
                clear hg hg0 hrd hsn hx hB ho hb hxx hA hTi hx63
                go_wp2
                obtain ⟨wo, hwo⟩ : ∃ wo, wo = wr := ⟨_, rfl⟩
                go_loopw [6, 8, 9, 12] (fun s6 s8 s9 s12 wr => ∃ (k h c : Nat) (B : List UInt8), s12 = .int .i64 k ∧ k ≤ W ∧ s8 = .int .i64 h ∧ s9 = .int .i64 c ∧ Bits (W * i + k) (A + x % 2 ^ k * 2 ^ (W * i)) B h c ∧ Own wr w.heap.size 5 s6 (bytesV (PRE ++ B)) ∧ Below w.heap.size w wr) (fun _ _ _ s _ => W - (intOf s).toNat)
                case atStart => exact ⟨0, h, c, B, rfl, Nat.zero_le _, rfl, rfl, by simpa [Nat.mod_one] using HBB.out, HOO.out, HB.out⟩
                case round =>
                  clear HBB HOO HB
                  obtain ⟨k, h, c, B, rfl, hk, rfl, rfl, hB, ho, hb⟩ := hrel
                  have hb0 := hb.size
                  by_cases hkw : k < W
                  · have hnx := bit_next x k (W * i) A
                    have hβ : x / 2 ^ k % 2 < 2 := Nat.mod_lt _ (by decide)
                    have hβe : (x : Int) / 2 ^ k % 2 = ((x / 2 ^ k % 2 : Nat) : Int) := by simp
                    have hq0 : (0 : Int) ≤ (x : Int) / 2 ^ k := Int.ediv_nonneg (by omega) (Int.pow_nonneg (by decide))
                    obtain ⟨β, hββ⟩ : ∃ β, x / 2 ^ k % 2 = β := ⟨_, rfl⟩
                    rw [hββ] at hnx hβ hβe
                    obtain ⟨h256, h7, h8⟩ := hB.step β hβ
                    rw [← hnx] at h7 h8
                    have hh := hB.hlt
                    have hlB : B.length ≤ 63 * 1000000000 := by rw [hB.b, leB_length]; have := HTI.out; omega
                    have hl' : (bytesV (PRE ++ B)).length < 1000000000000 := by
                      rw [bytesV_length, List.length_append]; omega
                    have hsh : (β : Int) * 2 ^ h = ((β * 2 ^ h : Nat) : Int) := by simp
                    obtain ⟨s, hs⟩ : ∃ s, β * 2 ^ h = s := ⟨_, rfl⟩
                    rw [hs] at h256 h7 h8 hsh
                    have qs1 : (0 : Int) ≤ (k : Int) := by omega
                    have qs2 : (k : Int) ≤ 64 := by omega
                    have qs3 : (0 : Int) ≤ (h : Int) := by omega
                    have qs4 : (h : Int) ≤ 64 := by omega
                    have H7 := Lib.hid h7
                    have H8 := Lib.hid h8
                    have HB := Lib.hid hb
                    clear hnx hββ h7 h8 hs hB
                    by_cases he : h = 7
                    · have d1 : ((h : Int) + 1 == 8) = true := by rw [he]; rfl
                      have HB8 := Lib.hid (H8.out he)
                      obtain ⟨a2, n2, c2, rfl⟩ := own_sl ho
                      clear he H7 H8
                      go_wp2_with (at_builtin; with_reducible refine ap1 elBytes rfl ho hl' hb0 rfl _ _ rfl rfl rfl ?_)
                      intro v3 w3 ho3 hg3
                      have hb3 := HB.out.grown hg3 hb0 (fun k hk => (ho.lt k hk).1)
                      have HO3 := Lib.hid (show Own w3 w.heap.size 5 v3 (bytesV (PRE ++ (B ++ [UInt8.ofNat (c + s)]))) by
                        rw [← List.append_assoc, bytesV_snoc]; exact own_last ho3 (by rw [u8_ofNat]; omega))
                      have HB3 := Lib.hid hb3
                      clear ho3 hg3 hb3 ho HB
                      go_wp2
                      go_roundw
                      case rel => exact ⟨k + 1, 0, 0, _, by go_num, by omega, rfl, rfl, HB8.out, HO3.out, HB3.out⟩
                      case measure => simp [intOf]; omega
                    · have d1 : ((h : Int) + 1 == 8) = false := beq_eq_false_iff_ne.2 (by omega)
                      have HB7 := Lib.hid (H7.out (by omega))
                      have HO3 := Lib.hid ho
                      have HB3 := HB
                      clear he H7 H8 ho
                      go_wp2
                      go_roundw
                      case rel => exact ⟨k + 1, h + 1, c + s, B, by go_num, by omega, by go_num, by go_num, HB7.out, HO3.out, HB3.out⟩
                      case measure => simp [intOf]; omega
                  · have hkW : k = W := by omega
                    rw [hkW, Nat.mod_eq_of_lt HX.out, ← HSN.out, ← Nat.mul_succ] at hB
                    have HBB := Lib.hid hB
                    have HOO := Lib.hid ho
                    have HB := Lib.hid hb
                    clear hB ho hb hkW
                    go_wp2
                    go_roundw
                    case rel => exact ⟨i + 1, h, c, B, by go_num, by omega, rfl, rfl, HBB.out, HOO.out, HB.out⟩
                    case measure => simp [intOf]; omega
              · obtain rfl : i = l.length := by omega
                rw [List.take_length] at hB
                have hTi : W * l.length ≤ 63 * l.length := Nat.mul_le_mul_right _ hw63
                have hlB : B.length ≤ 63 * 1000000000 := by rw [hB.b, leB_length]; omega
                have hl' : (bytesV (PRE ++ B)).length < 1000000000000 := by
                  rw [bytesV_length, List.length_append]; omega
                have hok := pckN_ok HNE.out HOK.out
                rw [HWW.out, HPRE.out] at hok
                have hlt := hB.clt
                have h256 : c < 256 := by have := two_pow_lt (W * l.length % 8) (Nat.mod_lt _ (by decide)); omega
                have HDONE := Lib.hid hB.done
                have HK := Lib.hid hok
                have hh := hB.hlt
                clear hok hB hlt hTi
                by_cases h0 : h = 0
                · have d1 : decide (0 < h) = false := decide_eq_false (by omega)
                  have HD := Lib.hid (HDONE.out.1 h0)
                  have HOO := Lib.hid ho
                  clear h0 ho
                  go_wp2
                  go_ret2
                  exact ⟨_, by rw [HK.out]; rfl, by rw [HK.out, ← HD.out]; exact HOO.out, hb⟩
                · have d1 : decide (0 < h) = true := decide_eq_true (by omega)
                  have HD := Lib.hid (HDONE.out.2 (by omega))
                  obtain ⟨a2, n2, c2, rfl⟩ := own_sl ho
                  clear h0
                  go_wp2_with (at_builtin; with_reducible refine ap1 elBytes rfl ho hl' hb0 rfl _ _ rfl rfl rfl ?_)
                  intro v3 w3 ho3 hg3
                  have hb3 := hb.grown hg3 hb0 (fun k hk => (ho.lt k hk).1)
                  have HO3 := Lib.hid (show Own w3 w.heap.size 5 v3 (bytesV (PRE ++ (B ++ [UInt8.ofNat c]))) by
                    rw [← List.append_assoc, bytesV_snoc]; exact own_last ho3 (by rw [u8_ofNat]; omega))
                  clear ho3 hg3
                  go_wp2
                  go_ret2
                  exact ⟨_, by rw [HK.out]; rfl, by rw [HK.out, ← HD.out]; exact HO3.out, hb3⟩
end Go.Proofs.YthnpbfadblcicaaDoor

/- codec.Writer: Bytes. -/
namespace Go.Proofs.YthnpbfadblcicaaDoor
set_option linter.unusedVariables false
open Go.ChangeShapes Go.WideShapes Go.ChangeAt Go.RowKit

theorem cat_one (w : World) (v : Value) (bs : List UInt8) (hr : Rd w v (bytesV bs)) (hn : bs.length ≤ 1000000000) :
    Calls Tryd.prog 35 #[.slice (some ⟨w.heap.size, 0, none⟩) 1 1] (w.alloc (.cells #[v] 24)) fun e w' => ∃ v', e = .returned v' ∧ Own w' w.heap.size 5 v' (bytesV bs) ∧ Below w.heap.size w w' := by
  have hB0 : Below w.heap.size w (w.alloc (.cells #[v] 24)) := (Below.refl _ _).alloc (Nat.le_refl _) _
  have hr1 := hr.below hB0 (Nat.le_refl _)
  have hls : Rd (w.alloc (.cells #[v] 24)) (.slice (some ⟨w.heap.size, 0, none⟩) 1 1) [v] := (own_one w w.heap.size 24 _ (Nat.le_refl _)).rd
  have hBs : Rds (w.alloc (.cells #[v] 24)) [v] (fun _ => bs) := fun k x hx => by
    match k, hx with
    | 0, hx => simp at hx; subst hx; exact hr1
    | k + 1, hx => simp at hx
  have hcl : catL (fun _ => bs) 1 = bs := by simp [catL]
  have C1 := cat_any _ _ 1 1 _ _ hls hBs (by simp) (by simpa [hcl] using hn)
  rw [show [v].length = 1 from rfl, hcl] at C1
  refine C1.mono ?_
  rintro e w1 ⟨v, rfl, ho, hb⟩
  exact ⟨v, rfl, own_base ho (by simp), hB0.trans (hb.mono (by simp))⟩
set_option maxRecDepth 100000 in
theorem wbytes_any (w : World) (base p : Nat) (v : Value) (bs : List UInt8) (h : Wr w base p v bs) (hl : bs.length ≤ 1000000000) :
    Calls Tryd.prog 36 #[.pointer (some ⟨p, 0, none⟩)] w fun e w' => ∃ v', e = .returned v' ∧ Own w' w.heap.size 5 v' (bytesV bs) ∧ Below w.heap.size w w' := by
  have hc := h.read
  have C1 := cat_one w v bs h.own.rd hl
  obtain ⟨a, n, c, rfl⟩ := own_sl h.own
  go_enter Tryd.func36, Tryd.ntmps36
  go_wp2_with fail
  refine C1.mono ?_
  rintro e w1 ⟨v', rfl, ho, hb⟩
  go_wp2
  go_ret
  exact ⟨_, rfl, ho, hb⟩
end Go.Proofs.YthnpbfadblcicaaDoor
