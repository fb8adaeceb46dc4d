/- codec.Writer: Packed. -/
import Derived.Test.YthnpbfadblcicaaDoorZG6
import Derived.Test.YthnpbfadblcicaaDoorZG1
namespace Go.Proofs.YthnpbfadblcicaaDoor
set_option linter.unusedVariables false
open Go.ChangeShapes Go.WideShapes Go.ChangeAt Go.RowKit

def natI (l : List Nat) : List Int := l.map fun (x : Nat) => (x : Int)
theorem natI_length (l : List Nat) : (natI l).length = l.length := by simp [natI]
theorem natI_get (l : List Nat) (i : Nat) (h : i < l.length) : (natI l)[i]'(by rw [natI_length]; exact h) = (l[i] : Int) := by simp [natI]
theorem anyNeg_nat (l : List Nat) : anyNeg (natI l) = false := by
  rw [anyNeg, List.any_eq_false]
  intro x hx
  obtain ⟨k, _, rfl⟩ := List.mem_map.1 hx
  simp
theorem i64_or_nat (a b : Nat) (ha : a < 2 ^ 63) (hb : b < 2 ^ 63) : bits .or .i64 (a : Int) (b : Int) = ((a ||| b : Nat) : Int) := by
  have h : a ||| b < 2 ^ 63 := Nat.or_lt_two_pow ha hb
  have e : bits .or .i64 (a : Int) (b : Int) = IntKind.i64.wrap (((BitVec.ofInt 64 a ||| BitVec.ofInt 64 b).toNat : Nat) : Int) := rfl
  rw [e, BitVec.toNat_or, BitVec.toNat_ofInt, BitVec.toNat_ofInt]
  have e1 : ((a : Int) % ((2 ^ 64 : Nat) : Int)).toNat = a := by omega
  have e2 : ((b : Int) % ((2 ^ 64 : Nat) : Int)).toNat = b := by omega
  rw [e1, e2, IntKind.wrap_i64]
  omega
theorem rd_nat {w : World} {a : Option Addr} {n c : Nat} {l : List Nat} (h : Rd w (.slice a n c) (intL (natI l))) : n = l.length ∧ (0 < l.length → ∃ b o, a = some ⟨b, o, none⟩ ∧ ∀ (j : Nat) (hj : j < l.length), w.cell? ⟨b, o + j, none⟩ = some (.int .i64 (l[j] : Nat))) := by
  obtain ⟨h1, h2⟩ := rd_get h
  rw [natI_length] at h1
  refine ⟨h1, fun h0 => ?_⟩
  obtain ⟨b, o, e, hg⟩ := h2 (by rw [natI_length]; exact h0)
  exact ⟨b, o, e, fun j hj => by rw [hg j (by rw [natI_length]; exact hj), natI_get l j hj]⟩

set_option maxRecDepth 100000 in
theorem wpck_neg (w : World) (p : Nat) (a : Option Addr) (n c : Nat) (l : List Int) (hr : Rd w (.slice a n c) (intL l)) (hl : l.length ≤ 1000000000) (hn : anyNeg l = true) (eR : Value) (hR : w.cell? ⟨7, 0, none⟩ = some eR) :
    Calls Tryd.prog 53 #[.pointer (some ⟨p, 0, none⟩), .slice a n c] w fun e w' => e = .returned eR ∧ w = w' := by
  have hq := anyb_any w a n c l hr (by omega)
  have HN := Lib.hid hn
  clear hn
  go_enter Tryd.func53, Tryd.ntmps53
  go_wp2_with fail
  refine hq.mono ?_
  rintro e w' ⟨rfl, rfl⟩
  rw [HN.out]
  go_wp2
  go_ret
  exact ⟨rfl, rfl⟩

set_option maxRecDepth 100000 in
set_option maxHeartbeats 1000000 in
theorem wpck_ok (w : World) (base p : Nat) (v : Value) (bs : List UInt8) (h : Wr w base p v bs) (hb : base ≤ w.heap.size) (hbl : bs.length ≤ 10000000000) (a : Option Addr) (n c : Nat) (l : List Nat) (hr : Rd w (.slice a n c) (intL (natI l))) (hl : l.length ≤ 1000000000) (hf : ∀ x ∈ l, x < 2 ^ 63)
    (hcase : l = [] ∨ (0 < l.length ∧ widL l = 0 ∧ l.length ≤ 65536) ∨ (0 < l.length ∧ 0 < widL l)) (hoff : 0 < l.length → ∀ b o, a = some ⟨b, o, none⟩ → ¬ WrB p v b) :
    Calls Tryd.prog 53 #[.pointer (some ⟨p, 0, none⟩), .slice a n c] w fun e w' => e = .returned .nilIface ∧ ∃ v', Wr w' base p v' (bs ++ pckB l) ∧ Wrote w w' p v v' := by
  have hq := anyb_any w a n c (natI l) hr (by rw [natI_length]; omega)
  obtain ⟨rfl, hg⟩ := rd_nat hr
  have HG := Lib.hid hg
  have HF := Lib.hid hf
  have HC := Lib.hid hcase
  have hO : orL l < 2 ^ 63 := orL_lt l hf
  have HW := Lib.hid (bitLen_orL l (fun x hx => Nat.lt_trans (hf x hx) (by decide)))
  have hW63 := widL_63 hf
  have hlen := (uvar_le l.length (by omega)).2
  have hf64 : ∀ x ∈ l, x < 2 ^ widL l := widL_fits (fun x hx => Nat.lt_trans (hf x hx) (by decide))
  have HFW := Lib.hid hf64
  clear hg hf hcase hf64
  go_enter Tryd.func53, Tryd.ntmps53
  go_wp2_with fail
  refine hq.mono ?_
  rintro e w' ⟨rfl, rfl⟩
  rw [anyNeg_nat]
  clear hq
  go_wp2
  go_loopw [5, 17] (fun s5 s17 wr => ∃ i : Nat, s17 = .int .i64 i ∧ i ≤ l.length ∧ s5 = .int .i64 (orL (l.take i) : Nat) ∧ w = wr) (fun _ s _ => l.length - (intOf s).toNat)
  case atStart => exact ⟨0, rfl, Nat.zero_le _, rfl, rfl⟩
  case round =>
    obtain ⟨i, rfl, hi, rfl, rfl⟩ := hrel
    by_cases hlt : i < l.length
    · obtain ⟨b, o, rfl, hg⟩ := HG.out (by omega)
      have hc := hg i hlt
      have hx := HF.out l[i] (List.getElem_mem hlt)
      have ht : orL (l.take (i + 1)) = orL (l.take i) ||| l[i] := by rw [List.take_add_one, List.getElem?_eq_getElem hlt, Option.toList_some, orL_snoc]
      have hot : orL (l.take i) < 2 ^ 63 := orL_lt _ (fun x hx => HF.out x (List.mem_of_mem_take hx))
      have hor := i64_or_nat (orL (l.take i)) l[i] hot hx
      have HT := Lib.hid (hor.trans (congrArg Nat.cast ht.symm))
      clear hg ht hor
      go_wp2
      go_roundw
      case rel => exact ⟨i + 1, by go_num, by omega, by rw [HT.out], by first | rfl | trivial⟩
      case measure => simp [intOf]; omega
    · obtain rfl : i = l.length := by omega
      rw [List.take_length]
      have hO2 : ((orL l : Nat) : Int) ≤ 9223372036854775807 := by omega
      go_wp2_with fail
      refine (len_any _ _ (by omega) (by omega)).mono ?_
      rintro e w' ⟨rfl, rfl⟩
      rw [Int.toNat_natCast, HW.out]
      obtain ⟨W, hW⟩ : ∃ W, widL l = W := ⟨_, rfl⟩
      have HWW := Lib.hid hW
      have hWl : W ≤ 63 := by omega
      rw [hW]
      clear hW hW63
      rcases HC.out with h0 | ⟨h0, h1, h2⟩ | ⟨h0, h1⟩
      · subst h0
        have h0 : W = 0 := HWW.out.symm
        subst h0
        have C1 := wuv_any w base p v bs h hb (by omega) 0 (by omega)
        go_wp2_with fail
        refine C1.mono ?_
        rintro e w1 ⟨rfl, v1, hw1, hwr1⟩
        go_wp2
        go_ret
        exact ⟨rfl, v1, by simpa [pckB] using hw1, hwr1⟩
      · rw [HWW.out] at h1
        have hW0 := Lib.hid h1
        clear h1
        have C1 := wuv_any w base p v bs h hb (by omega) l.length (by omega)
        have d1 : decide ((65536 : Int) < l.length) = false := by simp; omega
        have d2 : ((l.length : Int) == 0) = false := by simpa using (by omega : ¬ (l.length = 0))
        have d0 : ((W : Int) == 0) = true := by simpa using hW0.out
        go_wp2_with fail
        refine C1.mono ?_
        rintro e w1 ⟨rfl, v1, hw1, hwr1⟩
        have hsz := hwr1.eff.size
        have C2 := wbyte_any w1 base p v1 _ hw1 (by omega) (by rw [List.length_append]; omega) (UInt8.ofNat W)
        rw [u8_val W (by omega)] at C2
        have HR1 := Lib.hid hwr1
        clear C1 hwr1 hw1
        go_wp2_with fail
        refine C2.mono ?_
        rintro e w2 ⟨rfl, v2, hw2, hwr2⟩
        have HR2 := Lib.hid (HR1.out.trans hwr2)
        clear C2 HR1 hwr2
        have hsz2 := HR2.out.eff.size
        have hc2 := hw2.read
        have hown2 := hw2.own
        obtain ⟨a2, F, c2, rfl⟩ := own_sl hown2
        have hFl := hown2.len
        rw [bytesV_length] at hFl
        have hFb : F ≤ 10000000012 := by rw [hFl]; simp only [List.length_append, List.length_cons, List.length_nil]; omega
        have HFl := Lib.hid hFl.symm
        have hLW0 : (l.length : Int) * (W : Int) = 0 := by rw [hW0.out]; simp
        have hLWa : 0 ≤ (l.length : Int) * (W : Int) := by omega
        have hLWb : (l.length : Int) * (W : Int) ≤ 5 := by omega
        have qS : ((l.length : Int) * (W : Int) + 7) / 8 = ((0 : Nat) : Int) := by omega
        clear hFl hLW0
        have hl2 : (bytesV (bs ++ uvar l.length ++ [UInt8.ofNat W])).length + 0 < 1000000000001 := by rw [bytesV_length, HFl.out]; omega
        go_wp2_with (at_builtin; with_reducible refine apZ elBytes Tryd.underlying3 rfl rfl hown2 hl2 (Nat.le_trans hb hsz2) rfl _ _ rfl rfl (by go_simp) ?_)
        intro v3 w3 g1 g2 g3 g4
        obtain ⟨hc3, hf3⟩ := wr_cell hw2 g4
        obtain ⟨a3, L, C, rfl⟩ := own_sl g1
        have g1' : Own w3 base 5 (.slice a3 L C) (bytesV (bs ++ uvar l.length ++ [UInt8.ofNat W])) := own_to g1 (by simp)
        obtain ⟨hw4, hwr4⟩ := wr_app hw2 g1' (g3.imp id (fun h => ⟨_, h.1, by omega⟩)) g4
        have HR4 := Lib.hid (HR2.out.trans hwr4)
        have hL := g1'.len
        rw [bytesV_length, HFl.out] at hL
        subst hL
        have hcap := own_cap g1'
        have hne : l ≠ [] := fun e => by rw [e] at h0; simp at h0
        have HP := Lib.hid (show bs ++ pckB l = bs ++ uvar l.length ++ [UInt8.ofNat W] by rw [pckB, if_neg hne, packB, HWW.out, hW0.out]; simp [leB])
        clear g1 g1' g2 g3 g4 hwr4 hown2 hw2 hl2 hne
        have hcl : L < C ∨ L = C := by omega
        rcases hcl with hcl | rfl
        · go_wp2
          go_loopw [69] (fun s wr => ∃ i : Nat, s = .int .i64 i ∧ i ≤ l.length ∧ Wr wr base p (.slice a3 L C) (bs ++ uvar l.length ++ [UInt8.ofNat W]) ∧ Wrote w wr p v (.slice a3 L C)) (fun s _ => l.length - (intOf s).toNat)
          case atStart => exact ⟨0, rfl, Nat.zero_le _, hw4, HR4.out⟩
          case round =>
            clear hw4
            obtain ⟨i, rfl, hi, hw, hwr⟩ := hrel
            by_cases hlt : i < l.length
            · have hr2 := hr.eff hwr.eff (fun b o l' c' e => hoff (by omega) b o (by injection e))
              obtain ⟨_, hgg⟩ := rd_nat hr2
              obtain ⟨b, o, rfl, hg⟩ := hgg (by omega)
              have hc := hg i hlt
              have hx63 := HF.out l[i] (List.getElem_mem hlt)
              have hcw := hw.read
              have C1 := fun v => wput_none wr v (i * W) W l[i] (by rw [hW0.out]; exact Nat.le_refl _)
              simp only [Int.natCast_mul] at C1
              have k0 : (i : Int) * (W : Int) = 0 := by rw [hW0.out]; simp
              have k1 : 0 ≤ (i : Int) * (W : Int) := by omega
              have k2 : (i : Int) * (W : Int) ≤ 5 := by omega
              have HWR := Lib.hid hw
              have HE := Lib.hid hwr
              clear hg hgg hr2 hw hwr k0
              go_wp2_with fail
              refine (C1 _).mono ?_
              rintro e w5 ⟨rfl, rfl⟩
              go_wp2
              go_roundw
              case rel => exact ⟨i + 1, by go_num, by omega, HWR.out, HE.out⟩
              case measure => simp [intOf]; omega
            · obtain rfl : i = l.length := by omega
              go_wp2
              go_ret
              exact ⟨rfl, _, by rw [HP.out]; exact hw, hwr⟩
        · go_wp2
          go_loopw [69] (fun s wr => ∃ i : Nat, s = .int .i64 i ∧ i ≤ l.length ∧ Wr wr base p (.slice a3 L L) (bs ++ uvar l.length ++ [UInt8.ofNat W]) ∧ Wrote w wr p v (.slice a3 L L)) (fun s _ => l.length - (intOf s).toNat)
          case atStart => exact ⟨0, rfl, Nat.zero_le _, hw4, HR4.out⟩
          case round =>
            clear hw4
            obtain ⟨i, rfl, hi, hw, hwr⟩ := hrel
            by_cases hlt : i < l.length
            · have hr2 := hr.eff hwr.eff (fun b o l' c' e => hoff (by omega) b o (by injection e))
              obtain ⟨_, hgg⟩ := rd_nat hr2
              obtain ⟨b, o, rfl, hg⟩ := hgg (by omega)
              have hc := hg i hlt
              have hx63 := HF.out l[i] (List.getElem_mem hlt)
              have hcw := hw.read
              have C1 := fun v => wput_none wr v (i * W) W l[i] (by rw [hW0.out]; exact Nat.le_refl _)
              simp only [Int.natCast_mul] at C1
              have k0 : (i : Int) * (W : Int) = 0 := by rw [hW0.out]; simp
              have k1 : 0 ≤ (i : Int) * (W : Int) := by omega
              have k2 : (i : Int) * (W : Int) ≤ 5 := by omega
              have HWR := Lib.hid hw
              have HE := Lib.hid hwr
              clear hg hgg hr2 hw hwr k0
              go_wp2_with fail
              refine (C1 _).mono ?_
              rintro e w5 ⟨rfl, rfl⟩
              go_wp2
              go_roundw
              case rel => exact ⟨i + 1, by go_num, by omega, HWR.out, HE.out⟩
              case measure => simp [intOf]; omega
            · obtain rfl : i = l.length := by omega
              go_wp2
              go_ret
              exact ⟨rfl, _, by rw [HP.out]; exact hw, hwr⟩
      · rw [HWW.out] at h1
        have C1 := wuv_any w base p v bs h hb (by omega) l.length (by omega)
        have d0 : ((W : Int) == 0) = false := by simpa using (by omega : ¬ (W = 0))
        have d2 : ((l.length : Int) == 0) = false := by simpa using (by omega : ¬ (l.length = 0))
        go_wp2_with fail
        refine C1.mono ?_
        rintro e w1 ⟨rfl, v1, hw1, hwr1⟩
        have hsz := hwr1.eff.size
        have C2 := wbyte_any w1 base p v1 _ hw1 (by omega) (by rw [List.length_append]; omega) (UInt8.ofNat W)
        rw [u8_val W (by omega)] at C2
        have HR1 := Lib.hid hwr1
        clear C1 hwr1 hw1
        go_wp2_with fail
        refine C2.mono ?_
        rintro e w2 ⟨rfl, v2, hw2, hwr2⟩
        have HR2 := Lib.hid (HR1.out.trans hwr2)
        clear C2 HR1 hwr2
        have hsz2 := HR2.out.eff.size
        have hc2 := hw2.read
        have hown2 := hw2.own
        obtain ⟨a2, F, c2, rfl⟩ := own_sl hown2
        have hFl := hown2.len
        rw [bytesV_length] at hFl
        have hFb : F ≤ 10000000012 := by rw [hFl]; simp only [List.length_append, List.length_cons, List.length_nil]; omega
        have HFl := Lib.hid hFl.symm
        obtain ⟨S, hS⟩ : ∃ S, (l.length * W + 7) / 8 = S := ⟨_, rfl⟩
        have hLW : l.length * W ≤ 1000000000 * 63 := Nat.mul_le_mul hl hWl
        have hLWi : (l.length : Int) * (W : Int) ≤ 63000000000 := by rw [← Int.natCast_mul]; omega
        have hLW0 : 0 ≤ (l.length : Int) * (W : Int) := by rw [← Int.natCast_mul]; omega
        have hS2 : S ≤ 8000000000 := by omega
        have qS : ((l.length : Int) * (W : Int) + 7) / 8 = (S : Nat) := by rw [← Int.natCast_mul]; omega
        have hSS := Lib.hid hS
        clear hS hFl
        have hl2 : (bytesV (bs ++ uvar l.length ++ [UInt8.ofNat W])).length + S < 1000000000001 := by rw [bytesV_length, HFl.out]; omega
        go_wp2_with (at_builtin; with_reducible refine apZ elBytes Tryd.underlying3 rfl rfl hown2 hl2 (Nat.le_trans hb hsz2) rfl _ _ rfl rfl (by go_simp) ?_)
        intro v3 w3 g1 g2 g3 g4
        obtain ⟨hc3, hf3⟩ := wr_cell hw2 g4
        obtain ⟨a3, L, C, rfl⟩ := own_sl g1
        have g1' : Own w3 base 5 (.slice a3 L C) (bytesV (bs ++ uvar l.length ++ [UInt8.ofNat W] ++ List.replicate S 0)) := own_to g1 (by rw [bytesV_append]; simp [bytesV])
        obtain ⟨hw4, hwr4⟩ := wr_app hw2 g1' (g3.imp id (fun h => ⟨_, h.1, by omega⟩)) g4
        have HR4 := Lib.hid (HR2.out.trans hwr4)
        have hL := g1'.len
        rw [bytesV_length, List.length_append, HFl.out, List.length_replicate] at hL
        have hS0 : 0 < S := by
          have h3 := Nat.mul_le_mul h0 h1
          rw [← hSS.out]; omega
        have hL0 : 0 < L := by omega
        obtain ⟨g, rfl⟩ := g1'.someAt hL0
        subst hL
        have hcap := own_cap g1'
        clear g1 g1' g2 g3 g4 hwr4 hown2 hw2 hl2
        go_wp2
        go_loopw [69] (fun s wr => ∃ i : Nat, s = .int .i64 i ∧ i ≤ l.length ∧ Wr wr base p (.slice (some ⟨g, 0, none⟩) (F + S) C) (bs ++ uvar l.length ++ [UInt8.ofNat W] ++ leB S (packN W (l.take i))) ∧ Wrote w wr p v (.slice (some ⟨g, 0, none⟩) (F + S) C)) (fun s _ => l.length - (intOf s).toNat)
        case atStart => exact ⟨0, rfl, Nat.zero_le _, by rw [List.take_zero, packN, leB_zero]; exact hw4, HR4.out⟩
        case round =>
          clear hw4
          obtain ⟨i, rfl, hi, hw, hwr⟩ := hrel
          by_cases hlt : i < l.length
          · have hr2 := hr.eff hwr.eff (fun b o l' c' e => hoff (by omega) b o (by injection e))
            obtain ⟨_, hgg⟩ := rd_nat hr2
            obtain ⟨b, o, rfl, hg⟩ := hgg (by omega)
            have hc := hg i hlt
            have hx := HFW.out l[i] (List.getElem_mem hlt)
            rw [HWW.out] at hx
            have hx63 := HF.out l[i] (List.getElem_mem hlt)
            have hcw := hw.read
            have hiW : i * W ≤ l.length * W := Nat.mul_le_mul_right _ hi
            have hiW1 : (i + 1) * W ≤ l.length * W := Nat.mul_le_mul_right _ hlt
            rw [Nat.add_mul, Nat.one_mul] at hiW1
            have hS8 : l.length * W ≤ 8 * S := by rw [← hSS.out]; omega
            have hNlt : packN W (l.take i) < 2 ^ (W * i) := by
              have := packN_lt W (l.take i) (fun x hx => by have := HFW.out x (List.mem_of_mem_take hx); rwa [HWW.out] at this)
              rwa [List.length_take, Nat.min_eq_left hi] at this
            have hN256 : packN W (l.take i) % 256 ^ S = packN W (l.take i) := Nat.mod_eq_of_lt (by
              rw [show (256 : Nat) = 2 ^ 8 by rfl, ← Nat.pow_mul]
              exact Nat.lt_of_lt_of_le hNlt (Nat.pow_le_pow_right (by decide) (by rw [Nat.mul_comm]; omega)))
            have C1 := wput_any wr base g (C - F) (bs ++ uvar l.length ++ [UInt8.ofNat W]) (leB S (packN W (l.take i))) (F + S) C (i * W) W l[i] F S HFl.out (leB_length _ _) hw.own (by rw [leN_leB, hN256, Nat.mul_comm]; exact hNlt) hx hWl (by rw [leB_length]; omega) (by rw [HFl.out, leB_length]; omega)
            rw [Int.natCast_mul, leB_length, leN_leB, hN256] at C1
            have ht : packN W (l.take (i + 1)) = packN W (l.take i) + l[i] * 2 ^ (i * W) := by
              rw [List.take_add_one, List.getElem?_eq_getElem hlt, Option.toList_some, packN_snoc, List.length_take, Nat.min_eq_left hi, Nat.mul_comm W]
            rw [← ht] at C1
            have k1 : (i : Int) * (W : Int) ≤ 63000000000 := by rw [← Int.natCast_mul]; omega
            have k0 : 0 ≤ (i : Int) * (W : Int) := by rw [← Int.natCast_mul]; omega
            have k2 : F < C := by omega
            have HWR := Lib.hid hw
            have HE := Lib.hid hwr
            clear hg hgg hr2 ht hN256 hw hwr
            go_wp2_with fail
            refine C1.mono ?_
            rintro e w5 ⟨rfl, ho5, he5⟩
            have hw5 : Wr w5 base p (.slice (some ⟨g, 0, none⟩) (F + S) C) (bs ++ uvar l.length ++ [UInt8.ofNat W] ++ leB S (packN W (l.take (i + 1)))) :=
              ⟨(he5.block p (lt_of_heap HWR.out.blk) (fun e => HWR.out.own.ne_type HWR.out.blk (by decide) (by simp [Value.ownBlock, e]))).trans HWR.out.blk, HWR.out.hp, ho5⟩
            have hwr5 : Wrote w w5 p v (.slice (some ⟨g, 0, none⟩) (F + S) C) := HE.out.trans ⟨he5.mono (fun k hk _ => .inr (by subst hk; rfl)), Fresh.refl _ _⟩
            have H5 := Lib.hid hw5; have HE5 := Lib.hid hwr5
            clear hw5 hwr5 ho5 he5 C1
            go_wp2
            go_roundw
            case rel => exact ⟨i + 1, by go_num, by omega, H5.out, HE5.out⟩
            case measure => simp [intOf]; omega
          · obtain rfl : i = l.length := by omega
            rw [List.take_length] at hw
            go_wp2
            go_ret
            refine ⟨rfl, _, ?_, hwr⟩
            have hne : l ≠ [] := fun e => by rw [e] at h0; simp at h0
            rw [pckB, if_neg hne, packB, HWW.out, hSS.out]
            simpa [List.append_assoc] using hw
end Go.Proofs.YthnpbfadblcicaaDoor
