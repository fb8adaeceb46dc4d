/- Merged: Packed, Form, GetPut. -/
import Derived.Test.YtaijepjhmjjecaaDoorZG5
import Derived.Test.YtaijepjhmjjecaaDoorZG1
/- codec.Writer: Packed. -/
namespace Go.Proofs.YtaijepjhmjjecaaDoor
set_option linter.unusedVariables false
open Go.ChangeShapes Go.WideShapes Go.ChangeAt Go.RowKit

def natI (l : List Nat) : List Int := l.map fun (x : Nat) => (x : Int)
theorem natI_length (l : List Nat) : (natI l).length = l.length := by simp [natI]
theorem natI_get (l : List Nat) (i : Nat) (h : i < l.length) : (natI l)[i]'(by rw [natI_length]; exact h) = (l[i] : Int) := by simp [natI]
theorem anyNeg_nat (l : List Nat) : anyNeg (natI l) = false := by
  rw [anyNeg, List.any_eq_false]
  intro x hx
  obtain ⟨k, _, rfl⟩ := List.mem_map.1 hx
  simp
theorem i64_or_nat (a b : Nat) (ha : a < 2 ^ 63) (hb : b < 2 ^ 63) : bits .or .i64 (a : Int) (b : Int) = ((a ||| b : Nat) : Int) := by
  have h : a ||| b < 2 ^ 63 := Nat.or_lt_two_pow ha hb
  have e : bits .or .i64 (a : Int) (b : Int) = IntKind.i64.wrap (((BitVec.ofInt 64 a ||| BitVec.ofInt 64 b).toNat : Nat) : Int) := rfl
  rw [e, BitVec.toNat_or, BitVec.toNat_ofInt, BitVec.toNat_ofInt]
  have e1 : ((a : Int) % ((2 ^ 64 : Nat) : Int)).toNat = a := by omega
  have e2 : ((b : Int) % ((2 ^ 64 : Nat) : Int)).toNat = b := by omega
  rw [e1, e2, IntKind.wrap_i64]
  omega
theorem rd_nat {w : World} {a : Option Addr} {n c : Nat} {l : List Nat} (h : Rd w (.slice a n c) (intL (natI l))) : n = l.length ∧ (0 < l.length → ∃ b o, a = some ⟨b, o, none⟩ ∧ ∀ (j : Nat) (hj : j < l.length), w.cell? ⟨b, o + j, none⟩ = some (.int .i64 (l[j] : Nat))) := by
  obtain ⟨h1, h2⟩ := rd_get h
  rw [natI_length] at h1
  refine ⟨h1, fun h0 => ?_⟩
  obtain ⟨b, o, e, hg⟩ := h2 (by rw [natI_length]; exact h0)
  exact ⟨b, o, e, fun j hj => by rw [hg j (by rw [natI_length]; exact hj), natI_get l j hj]⟩

set_option maxRecDepth 100000 in
theorem wpck_neg (w : World) (p : Nat) (a : Option Addr) (n c : Nat) (l : List Int) (hr : Rd w (.slice a n c) (intL l)) (hl : l.length ≤ 1000000000) (hn : anyNeg l = true) (eR : Value) (hR : w.cell? ⟨7, 0, none⟩ = some eR) :
    Calls Tryd.prog 85 #[.pointer (some ⟨p, 0, none⟩), .slice a n c] w fun e w' => e = .returned eR ∧ w = w' := by
  have hq := anyb_any w a n c l hr (by omega)
  have HN := Lib.hid hn
  clear hn
  go_enter Tryd.func85, Tryd.ntmps85
  go_wp2_with fail
  refine hq.mono ?_
  rintro e w' ⟨rfl, rfl⟩
  rw [HN.out]
  go_wp2
  go_ret
  exact ⟨rfl, rfl⟩

set_option maxRecDepth 100000 in
set_option maxHeartbeats 1000000 in
theorem wpck_ok (w : World) (base p : Nat) (v : Value) (bs : List UInt8) (h : Wr w base p v bs) (hb : base ≤ w.heap.size) (hbl : bs.length ≤ 10000000000) (a : Option Addr) (n c : Nat) (l : List Nat) (hr : Rd w (.slice a n c) (intL (natI l))) (hl : l.length ≤ 1000000000) (hf : ∀ x ∈ l, x < 2 ^ 63)
    (hcase : l = [] ∨ (0 < l.length ∧ widL l = 0 ∧ l.length ≤ 65536) ∨ (0 < l.length ∧ 0 < widL l)) (hoff : 0 < l.length → ∀ b o, a = some ⟨b, o, none⟩ → ¬ WrB p v b) :
    Calls Tryd.prog 85 #[.pointer (some ⟨p, 0, none⟩), .slice a n c] w fun e w' => e = .returned .nilIface ∧ ∃ v', Wr w' base p v' (bs ++ pckB l) ∧ Wrote w w' p v v' := by
  have hq := anyb_any w a n c (natI l) hr (by rw [natI_length]; omega)
  obtain ⟨rfl, hg⟩ := rd_nat hr
  have HG := Lib.hid hg
  have HF := Lib.hid hf
  have HC := Lib.hid hcase
  have hO : orL l < 2 ^ 63 := orL_lt l hf
  have HW := Lib.hid (bitLen_orL l (fun x hx => Nat.lt_trans (hf x hx) (by decide)))
  have hW63 := widL_63 hf
  have hlen := (uvar_le l.length (by omega)).2
  have hf64 : ∀ x ∈ l, x < 2 ^ widL l := widL_fits (fun x hx => Nat.lt_trans (hf x hx) (by decide))
  have HFW := Lib.hid hf64
  clear hg hf hcase hf64
  go_enter Tryd.func85, Tryd.ntmps85
  go_wp2_with fail
  refine hq.mono ?_
  rintro e w' ⟨rfl, rfl⟩
  rw [anyNeg_nat]
  clear hq
  go_wp2
  go_loopw [5, 17] (fun s5 s17 wr => ∃ i : Nat, s17 = .int .i64 i ∧ i ≤ l.length ∧ s5 = .int .i64 (orL (l.take i) : Nat) ∧ w = wr) (fun _ s _ => l.length - (intOf s).toNat)
  case atStart => exact ⟨0, rfl, Nat.zero_le _, rfl, rfl⟩
  case round =>
    obtain ⟨i, rfl, hi, rfl, rfl⟩ := hrel
    by_cases hlt : i < l.length
    · obtain ⟨b, o, rfl, hg⟩ := HG.out (by omega)
      have hc := hg i hlt
      have hx := HF.out l[i] (List.getElem_mem hlt)
      have ht : orL (l.take (i + 1)) = orL (l.take i) ||| l[i] := by rw [List.take_add_one, List.getElem?_eq_getElem hlt, Option.toList_some, orL_snoc]
      have hot : orL (l.take i) < 2 ^ 63 := orL_lt _ (fun x hx => HF.out x (List.mem_of_mem_take hx))
      have hor := i64_or_nat (orL (l.take i)) l[i] hot hx
      have HT := Lib.hid (hor.trans (congrArg Nat.cast ht.symm))
      clear hg ht hor
      go_wp2
      go_roundw
      case rel => exact ⟨i + 1, by go_num, by omega, by rw [HT.out], by first | rfl | trivial⟩
      case measure => simp [intOf]; omega
    · obtain rfl : i = l.length := by omega
      rw [List.take_length]
      have hO2 : ((orL l : Nat) : Int) ≤ 9223372036854775807 := by omega
      go_wp2_with fail
      refine (len_any _ _ (by omega) (by omega)).mono ?_
      rintro e w' ⟨rfl, rfl⟩
      rw [Int.toNat_natCast, HW.out]
      obtain ⟨W, hW⟩ : ∃ W, widL l = W := ⟨_, rfl⟩
      have HWW := Lib.hid hW
      have hWl : W ≤ 63 := by omega
      rw [hW]
      clear hW hW63
      rcases HC.out with h0 | ⟨h0, h1, h2⟩ | ⟨h0, h1⟩
      · subst h0
        have h0 : W = 0 := HWW.out.symm
        subst h0
        have C1 := wuv_any w base p v bs h hb (by omega) 0 (by omega)
        go_wp2_with fail
        refine C1.mono ?_
        rintro e w1 ⟨rfl, v1, hw1, hwr1⟩
        go_wp2
        go_ret
        exact ⟨rfl, v1, by simpa [pckB] using hw1, hwr1⟩
      · rw [HWW.out] at h1
        have hW0 := Lib.hid h1
        clear h1
        have C1 := wuv_any w base p v bs h hb (by omega) l.length (by omega)
        have d1 : decide ((65536 : Int) < l.length) = false := by simp; omega
        have d2 : ((l.length : Int) == 0) = false := by simpa using (by omega : ¬ (l.length = 0))
        have d0 : ((W : Int) == 0) = true := by simpa using hW0.out
        go_wp2_with fail
        refine C1.mono ?_
        rintro e w1 ⟨rfl, v1, hw1, hwr1⟩
        have hsz := hwr1.eff.size
        have C2 := wbyte_any w1 base p v1 _ hw1 (by omega) (by rw [List.length_append]; omega) (UInt8.ofNat W)
        rw [u8_val W (by omega)] at C2
        have HR1 := Lib.hid hwr1
        clear C1 hwr1 hw1
        go_wp2_with fail
        refine C2.mono ?_
        rintro e w2 ⟨rfl, v2, hw2, hwr2⟩
        have HR2 := Lib.hid (HR1.out.trans hwr2)
        clear C2 HR1 hwr2
        have hsz2 := HR2.out.eff.size
        have hc2 := hw2.read
        have hown2 := hw2.own
        obtain ⟨a2, F, c2, rfl⟩ := own_sl hown2
        have hFl := hown2.len
        rw [bytesV_length] at hFl
        have hFb : F ≤ 10000000012 := by rw [hFl]; simp only [List.length_append, List.length_cons, List.length_nil]; omega
        have HFl := Lib.hid hFl.symm
        have hLW0 : (l.length : Int) * (W : Int) = 0 := by rw [hW0.out]; simp
        have hLWa : 0 ≤ (l.length : Int) * (W : Int) := by omega
        have hLWb : (l.length : Int) * (W : Int) ≤ 5 := by omega
        have qS : ((l.length : Int) * (W : Int) + 7) / 8 = ((0 : Nat) : Int) := by omega
        clear hFl hLW0
        have hl2 : (bytesV (bs ++ uvar l.length ++ [UInt8.ofNat W])).length + 0 < 1000000000001 := by rw [bytesV_length, HFl.out]; omega
        go_wp2_with (at_builtin; with_reducible refine apZ elBytes Tryd.underlying3 rfl rfl hown2 hl2 (Nat.le_trans hb hsz2) rfl _ _ rfl rfl (by go_simp) ?_)
        intro v3 w3 g1 g2 g3 g4
        obtain ⟨hc3, hf3⟩ := wr_cell hw2 g4
        obtain ⟨a3, L, C, rfl⟩ := own_sl g1
        have g1' : Own w3 base 5 (.slice a3 L C) (bytesV (bs ++ uvar l.length ++ [UInt8.ofNat W])) := own_to g1 (by simp)
        obtain ⟨hw4, hwr4⟩ := wr_app hw2 g1' (g3.imp id (fun h => ⟨_, h.1, by omega⟩)) g4
        have HR4 := Lib.hid (HR2.out.trans hwr4)
        have hL := g1'.len
        rw [bytesV_length, HFl.out] at hL
        subst hL
        have hcap := own_cap g1'
        have hne : l ≠ [] := fun e => by rw [e] at h0; simp at h0
        have HP := Lib.hid (show bs ++ pckB l = bs ++ uvar l.length ++ [UInt8.ofNat W] by rw [pckB, if_neg hne, packB, HWW.out, hW0.out]; simp [leB])
        clear g1 g1' g2 g3 g4 hwr4 hown2 hw2 hl2 hne
        have hcl : L < C ∨ L = C := by omega
        rcases hcl with hcl | rfl
        · go_wp2
          go_loopw [69] (fun s wr => ∃ i : Nat, s = .int .i64 i ∧ i ≤ l.length ∧ Wr wr base p (.slice a3 L C) (bs ++ uvar l.length ++ [UInt8.ofNat W]) ∧ Wrote w wr p v (.slice a3 L C)) (fun s _ => l.length - (intOf s).toNat)
          case atStart => exact ⟨0, rfl, Nat.zero_le _, hw4, HR4.out⟩
          case round =>
            clear hw4
            obtain ⟨i, rfl, hi, hw, hwr⟩ := hrel
            by_cases hlt : i < l.length
            · have hr2 := hr.eff hwr.eff (fun b o l' c' e => hoff (by omega) b o (by injection e))
              obtain ⟨_, hgg⟩ := rd_nat hr2
              obtain ⟨b, o, rfl, hg⟩ := hgg (by omega)
              have hc := hg i hlt
              have hx63 := HF.out l[i] (List.getElem_mem hlt)
              have hcw := hw.read
              have C1 := fun v => wput_none wr v (i * W) W l[i] (by rw [hW0.out]; exact Nat.le_refl _)
              simp only [Int.natCast_mul] at C1
              have k0 : (i : Int) * (W : Int) = 0 := by rw [hW0.out]; simp
              have k1 : 0 ≤ (i : Int) * (W : Int) := by omega
              have k2 : (i : Int) * (W : Int) ≤ 5 := by omega
              have HWR := Lib.hid hw
              have HE := Lib.hid hwr
              clear hg hgg hr2 hw hwr k0
              go_wp2_with fail
              refine (C1 _).mono ?_
              rintro e w5 ⟨rfl, rfl⟩
              go_wp2
              go_roundw
              case rel => exact ⟨i + 1, by go_num, by omega, HWR.out, HE.out⟩
              case measure => simp [intOf]; omega
            · obtain rfl : i = l.length := by omega
              go_wp2
              go_ret
              exact ⟨rfl, _, by rw [HP.out]; exact hw, hwr⟩
        · go_wp2
          go_loopw [69] (fun s wr => ∃ i : Nat, s = .int .i64 i ∧ i ≤ l.length ∧ Wr wr base p (.slice a3 L L) (bs ++ uvar l.length ++ [UInt8.ofNat W]) ∧ Wrote w wr p v (.slice a3 L L)) (fun s _ => l.length - (intOf s).toNat)
          case atStart => exact ⟨0, rfl, Nat.zero_le _, hw4, HR4.out⟩
          case round =>
            clear hw4
            obtain ⟨i, rfl, hi, hw, hwr⟩ := hrel
            by_cases hlt : i < l.length
            · have hr2 := hr.eff hwr.eff (fun b o l' c' e => hoff (by omega) b o (by injection e))
              obtain ⟨_, hgg⟩ := rd_nat hr2
              obtain ⟨b, o, rfl, hg⟩ := hgg (by omega)
              have hc := hg i hlt
              have hx63 := HF.out l[i] (List.getElem_mem hlt)
              have hcw := hw.read
              have C1 := fun v => wput_none wr v (i * W) W l[i] (by rw [hW0.out]; exact Nat.le_refl _)
              simp only [Int.natCast_mul] at C1
              have k0 : (i : Int) * (W : Int) = 0 := by rw [hW0.out]; simp
              have k1 : 0 ≤ (i : Int) * (W : Int) := by omega
              have k2 : (i : Int) * (W : Int) ≤ 5 := by omega
              have HWR := Lib.hid hw
              have HE := Lib.hid hwr
              clear hg hgg hr2 hw hwr k0
              go_wp2_with fail
              refine (C1 _).mono ?_
              rintro e w5 ⟨rfl, rfl⟩
              go_wp2
              go_roundw
              case rel => exact ⟨i + 1, by go_num, by omega, HWR.out, HE.out⟩
              case measure => simp [intOf]; omega
            · obtain rfl : i = l.length := by omega
              go_wp2
              go_ret
              exact ⟨rfl, _, by rw [HP.out]; exact hw, hwr⟩
      · rw [HWW.out] at h1
        have C1 := wuv_any w base p v bs h hb (by omega) l.length (by omega)
        have d0 : ((W : Int) == 0) = false := by simpa using (by omega : ¬ (W = 0))
        have d2 : ((l.length : Int) == 0) = false := by simpa using (by omega : ¬ (l.length = 0))
        go_wp2_with fail
        refine C1.mono ?_
        rintro e w1 ⟨rfl, v1, hw1, hwr1⟩
        have hsz := hwr1.eff.size
        have C2 := wbyte_any w1 base p v1 _ hw1 (by omega) (by rw [List.length_append]; omega) (UInt8.ofNat W)
        rw [u8_val W (by omega)] at C2
        have HR1 := Lib.hid hwr1
        clear C1 hwr1 hw1
        go_wp2_with fail
        refine C2.mono ?_
        rintro e w2 ⟨rfl, v2, hw2, hwr2⟩
        have HR2 := Lib.hid (HR1.out.trans hwr2)
        clear C2 HR1 hwr2
        have hsz2 := HR2.out.eff.size
        have hc2 := hw2.read
        have hown2 := hw2.own
        obtain ⟨a2, F, c2, rfl⟩ := own_sl hown2
        have hFl := hown2.len
        rw [bytesV_length] at hFl
        have hFb : F ≤ 10000000012 := by rw [hFl]; simp only [List.length_append, List.length_cons, List.length_nil]; omega
        have HFl := Lib.hid hFl.symm
        obtain ⟨S, hS⟩ : ∃ S, (l.length * W + 7) / 8 = S := ⟨_, rfl⟩
        have hLW : l.length * W ≤ 1000000000 * 63 := Nat.mul_le_mul hl hWl
        have hLWi : (l.length : Int) * (W : Int) ≤ 63000000000 := by rw [← Int.natCast_mul]; omega
        have hLW0 : 0 ≤ (l.length : Int) * (W : Int) := by rw [← Int.natCast_mul]; omega
        have hS2 : S ≤ 8000000000 := by omega
        have qS : ((l.length : Int) * (W : Int) + 7) / 8 = (S : Nat) := by rw [← Int.natCast_mul]; omega
        have hSS := Lib.hid hS
        clear hS hFl
        have hl2 : (bytesV (bs ++ uvar l.length ++ [UInt8.ofNat W])).length + S < 1000000000001 := by rw [bytesV_length, HFl.out]; omega
        go_wp2_with (at_builtin; with_reducible refine apZ elBytes Tryd.underlying3 rfl rfl hown2 hl2 (Nat.le_trans hb hsz2) rfl _ _ rfl rfl (by go_simp) ?_)
        intro v3 w3 g1 g2 g3 g4
        obtain ⟨hc3, hf3⟩ := wr_cell hw2 g4
        obtain ⟨a3, L, C, rfl⟩ := own_sl g1
        have g1' : Own w3 base 5 (.slice a3 L C) (bytesV (bs ++ uvar l.length ++ [UInt8.ofNat W] ++ List.replicate S 0)) := own_to g1 (by rw [bytesV_append]; simp [bytesV])
        obtain ⟨hw4, hwr4⟩ := wr_app hw2 g1' (g3.imp id (fun h => ⟨_, h.1, by omega⟩)) g4
        have HR4 := Lib.hid (HR2.out.trans hwr4)
        have hL := g1'.len
        rw [bytesV_length, List.length_append, HFl.out, List.length_replicate] at hL
        have hS0 : 0 < S := by
          have h3 := Nat.mul_le_mul h0 h1
          rw [← hSS.out]; omega
        have hL0 : 0 < L := by omega
        obtain ⟨g, rfl⟩ := g1'.someAt hL0
        subst hL
        have hcap := own_cap g1'
        clear g1 g1' g2 g3 g4 hwr4 hown2 hw2 hl2
        go_wp2
        go_loopw [69] (fun s wr => ∃ i : Nat, s = .int .i64 i ∧ i ≤ l.length ∧ Wr wr base p (.slice (some ⟨g, 0, none⟩) (F + S) C) (bs ++ uvar l.length ++ [UInt8.ofNat W] ++ leB S (packN W (l.take i))) ∧ Wrote w wr p v (.slice (some ⟨g, 0, none⟩) (F + S) C)) (fun s _ => l.length - (intOf s).toNat)
        case atStart => exact ⟨0, rfl, Nat.zero_le _, by rw [List.take_zero, packN, leB_zero]; exact hw4, HR4.out⟩
        case round =>
          clear hw4
          obtain ⟨i, rfl, hi, hw, hwr⟩ := hrel
          by_cases hlt : i < l.length
          · have hr2 := hr.eff hwr.eff (fun b o l' c' e => hoff (by omega) b o (by injection e))
            obtain ⟨_, hgg⟩ := rd_nat hr2
            obtain ⟨b, o, rfl, hg⟩ := hgg (by omega)
            have hc := hg i hlt
            have hx := HFW.out l[i] (List.getElem_mem hlt)
            rw [HWW.out] at hx
            have hx63 := HF.out l[i] (List.getElem_mem hlt)
            have hcw := hw.read
            have hiW : i * W ≤ l.length * W := Nat.mul_le_mul_right _ hi
            have hiW1 : (i + 1) * W ≤ l.length * W := Nat.mul_le_mul_right _ hlt
            rw [Nat.add_mul, Nat.one_mul] at hiW1
            have hS8 : l.length * W ≤ 8 * S := by rw [← hSS.out]; omega
            have hNlt : packN W (l.take i) < 2 ^ (W * i) := by
              have := packN_lt W (l.take i) (fun x hx => by have := HFW.out x (List.mem_of_mem_take hx); rwa [HWW.out] at this)
              rwa [List.length_take, Nat.min_eq_left hi] at this
            have hN256 : packN W (l.take i) % 256 ^ S = packN W (l.take i) := Nat.mod_eq_of_lt (by
              rw [show (256 : Nat) = 2 ^ 8 by rfl, ← Nat.pow_mul]
              exact Nat.lt_of_lt_of_le hNlt (Nat.pow_le_pow_right (by decide) (by rw [Nat.mul_comm]; omega)))
            have C1 := wput_any wr base g (C - F) (bs ++ uvar l.length ++ [UInt8.ofNat W]) (leB S (packN W (l.take i))) (F + S) C (i * W) W l[i] F S HFl.out (leB_length _ _) hw.own (by rw [leN_leB, hN256, Nat.mul_comm]; exact hNlt) hx hWl (by rw [leB_length]; omega) (by rw [HFl.out, leB_length]; omega)
            rw [Int.natCast_mul, leB_length, leN_leB, hN256] at C1
            have ht : packN W (l.take (i + 1)) = packN W (l.take i) + l[i] * 2 ^ (i * W) := by
              rw [List.take_add_one, List.getElem?_eq_getElem hlt, Option.toList_some, packN_snoc, List.length_take, Nat.min_eq_left hi, Nat.mul_comm W]
            rw [← ht] at C1
            have k1 : (i : Int) * (W : Int) ≤ 63000000000 := by rw [← Int.natCast_mul]; omega
            have k0 : 0 ≤ (i : Int) * (W : Int) := by rw [← Int.natCast_mul]; omega
            have k2 : F < C := by omega
            have HWR := Lib.hid hw
            have HE := Lib.hid hwr
            clear hg hgg hr2 ht hN256 hw hwr
            go_wp2_with fail
            refine C1.mono ?_
            rintro e w5 ⟨rfl, ho5, he5⟩
            have hw5 : Wr w5 base p (.slice (some ⟨g, 0, none⟩) (F + S) C) (bs ++ uvar l.length ++ [UInt8.ofNat W] ++ leB S (packN W (l.take (i + 1)))) :=
              ⟨(he5.block p (lt_of_heap HWR.out.blk) (fun e => HWR.out.own.ne_type HWR.out.blk (by decide) (by simp [Value.ownBlock, e]))).trans HWR.out.blk, HWR.out.hp, ho5⟩
            have hwr5 : Wrote w w5 p v (.slice (some ⟨g, 0, none⟩) (F + S) C) := HE.out.trans ⟨he5.mono (fun k hk _ => .inr (by subst hk; rfl)), Fresh.refl _ _⟩
            have H5 := Lib.hid hw5; have HE5 := Lib.hid hwr5
            clear hw5 hwr5 ho5 he5 C1
            go_wp2
            go_roundw
            case rel => exact ⟨i + 1, by go_num, by omega, H5.out, HE5.out⟩
            case measure => simp [intOf]; omega
          · obtain rfl : i = l.length := by omega
            rw [List.take_length] at hw
            go_wp2
            go_ret
            refine ⟨rfl, _, ?_, hwr⟩
            have hne : l ≠ [] := fun e => by rw [e] at h0; simp at h0
            rw [pckB, if_neg hne, packB, HWW.out, hSS.out]
            simpa [List.append_assoc] using hw
end Go.Proofs.YtaijepjhmjjecaaDoor

/- What a Reader has taken is, written again, just those bytes. -/
namespace Go.Proofs.YtaijepjhmjjecaaDoor
set_option linter.unusedVariables false

theorem take_of {l a t : List UInt8} (h : l = a ++ t) {j : Nat} (hj : a.length = j) : l.take j = a := by rw [h, ← hj]; exact List.take_left
theorem formU {l : List UInt8} {u k : Nat} (h : getU l = .ok (u, k)) : l.take k = uvar u ∧ u < 2 ^ 64 ∧ k = (uvar u).length := by
  obtain ⟨h1, h2, t, h3⟩ := getU_ok h
  exact ⟨take_of h3 h2.symm, h1, h2⟩
def asc : Int → List Int → Prop
  | _, [] => True
  | last, z :: r => last < z ∧ z ≤ 9223372036854775807 ∧ asc z r
theorem asc_mem {last : Int} : ∀ {l : List Int}, asc last l → ∀ z ∈ l, last < z ∧ z ≤ 9223372036854775807
  | [], _, z, hz => by cases hz
  | y :: r, h, z, hz => by
    obtain ⟨h1, h2, h3⟩ := h
    rcases List.mem_cons.1 hz with rfl | hz
    · exact ⟨h1, h2⟩
    · have := asc_mem h3 z hz; omega
theorem asc_rises {last : Int} : ∀ {l : List Int}, asc last l → rises l
  | [], _ => fun i h => by simp at h
  | [y], _ => fun i h => by simp at h
  | y :: x :: r, ⟨_, _, h⟩ => fun i hi => by
    cases i with
    | zero => exact h.1
    | succ i => exact asc_rises h i (by simpa using hi)
theorem getR_form : ∀ (n : Nat) (last : Int) (l : List UInt8) (r : List Int) (j : Nat), -1 ≤ last → getR n last l = .ok (r, j) → l.take j = gapsB last r ∧ (gapsB last r).length = j ∧ r.length = n ∧ asc last r
  | 0, last, l, r, j, _, h => by
    rw [getR] at h; injection h with h; injection h with h1 h2; subst h1 h2
    exact ⟨rfl, rfl, rfl, trivial⟩
  | n + 1, last, l, r, j, hl, h => by
    rw [getR] at h
    cases hg : getU l with
    | error e => rw [hg] at h; cases h
    | ok y =>
      obtain ⟨u, k⟩ := y
      rw [hg] at h
      simp only at h
      split at h
      · cases h
      · next hb =>
        cases hr : getR n (last + u + 1) (l.drop k) with
        | error e => rw [hr] at h; cases h
        | ok y =>
          obtain ⟨r', j'⟩ := y
          rw [hr] at h
          injection h with h; injection h with h1 h2; subst h1 h2
          obtain ⟨e1, e2, e3, e4⟩ := getR_form n (last + u + 1) (l.drop k) r' j' (by omega) hr
          obtain ⟨f1, f2, f3⟩ := formU hg
          have hu : (last + u + 1 - last - 1).toNat = u := by omega
          refine ⟨?_, ?_, by simp [e3], by omega, by omega, e4⟩
          · rw [gapsB, hu, ← e1, ← f1, ← List.take_add]
          · rw [gapsB, hu, List.length_append, e2, f3]
theorem ris_form {most : Int} {l : List UInt8} {r : List Int} {j : Nat} (h : getRis most l = .ok (r, j)) : l.take j = risB r ∧ asc (-1) r := by
  unfold getRis at h
  cases hg : getUpto most l with
  | error e => rw [hg] at h; cases h
  | ok y =>
    obtain ⟨n, k⟩ := y
    rw [hg] at h
    simp only at h
    obtain ⟨hu, _⟩ := getUpto_len hg
    cases hr : getR n (-1) (l.drop k) with
    | error e => rw [hr] at h; cases h
    | ok y =>
      obtain ⟨r', j'⟩ := y
      rw [hr] at h
      injection h with h; injection h with h1 h2; subst h1 h2
      obtain ⟨e1, e2, e3, e4⟩ := getR_form n (-1) _ r' j' (by omega) hr
      obtain ⟨f1, f2, f3⟩ := formU hu
      exact ⟨by rw [risB, e3, ← e1, ← f1, ← List.take_add], e4⟩
theorem asc_neg {l : List Int} (h : asc (-1) l) : anyNeg l = false := by
  rw [anyNeg, List.any_eq_false]
  intro x hx
  have := asc_mem h x hx
  simp; omega
theorem asc_fit {l : List Int} (h : asc (-1) l) : FitL l := fun z hz => by have := asc_mem h z hz; omega
theorem getPB_form {n : Nat} {l : List UInt8} {r : List Nat} {j : Nat} (hn : n ≠ 0) (h : getPB n l = .ok (r, j)) :
    l.take j = packB r ∧ r.length = n ∧ (∀ x ∈ r, x < 2 ^ 63) ∧ ((0 < r.length ∧ widL r = 0 ∧ r.length ≤ 65536) ∨ (0 < r.length ∧ 0 < widL r)) := by
  cases l with
  | nil => cases h
  | cons x rr =>
    rw [getPB] at h
    obtain ⟨m, hm⟩ : ∃ m, x.toNat = m := ⟨_, rfl⟩
    rw [hm] at h
    split at h
    · cases h
    · next h1 =>
      split at h
      · cases h
      · next h2 =>
        split at h
        · next h3 =>
          injection h with h; injection h with e1 e2; subst e1 e2
          obtain ⟨S, hS⟩ : ∃ S, (n * m + 7) / 8 = S := ⟨_, rfl⟩
          rw [hS] at h3 ⊢
          obtain ⟨N, hN⟩ : ∃ N, leN (rr.take S) = N := ⟨_, rfl⟩
          rw [hN] at h3 ⊢
          have hSl : S ≤ rr.length := by
            rcases Nat.eq_zero_or_pos m with e | e
            · subst e; omega
            · rw [← hS]; exact packed_size e (fun h4 => h2 ⟨e, h4⟩)
          have hm63 : m ≤ 63 := by omega
          have hlen := unpack_length m n N
          have hNlt : N < 2 ^ (m * n) := by
            have h4 := h3.2
            rw [Nat.mul_comm n m] at h4
            rcases Nat.lt_or_ge N (2 ^ (m * n)) with h5 | h5
            · exact h5
            · have := Nat.div_pos h5 (Nat.two_pow_pos (m * n)); omega
          refine ⟨?_, hlen, fun y hy => Nat.lt_of_lt_of_le (unpack_lt m n N y hy) (Nat.pow_le_pow_right (by decide) hm63), ?_⟩
          · rw [packB, h3.1, hlen, hS, show packN m (unpack m n N) = N from packN_of m n N hNlt, ← hN]
            have e5 : (rr.take S).length = S := by rw [List.length_take]; omega
            have e6 : leB S (leN (rr.take S)) = rr.take S := by
              have := leB_leN (rr.take S); rwa [e5] at this
            rw [e6, Nat.add_comm, List.take_succ_cons, ← hm]
            simp
          · rw [hlen, h3.1]
            rcases Nat.eq_zero_or_pos m with e | e
            · left; exact ⟨by omega, e, by omega⟩
            · right; exact ⟨by omega, e⟩
        · cases h
theorem pk_form {most : Int} {l : List UInt8} {r : List Nat} {j : Nat} (h : getPk most l = .ok (r, j)) :
    l.take j = pckB r ∧ (∀ x ∈ r, x < 2 ^ 63) ∧ (r = [] ∨ (0 < r.length ∧ widL r = 0 ∧ r.length ≤ 65536) ∨ (0 < r.length ∧ 0 < widL r)) := by
  unfold getPk at h
  cases hg : getUpto most l with
  | error e => rw [hg] at h; cases h
  | ok y =>
    obtain ⟨n, k⟩ := y
    rw [hg] at h
    simp only at h
    obtain ⟨hu, _⟩ := getUpto_len hg
    obtain ⟨f1, f2, f3⟩ := formU hu
    split at h
    · next h0 =>
      injection h with h; injection h with e1 e2; subst e1 e2
      exact ⟨by rw [f1, h0]; simp [pckB], (fun x hx => by cases hx), .inl rfl⟩
    · next h0 =>
      cases hr : getPB n (l.drop k) with
      | error e => rw [hr] at h; cases h
      | ok y =>
        obtain ⟨r', j'⟩ := y
        rw [hr] at h
        injection h with h; injection h with e1 e2; subst e1 e2
        obtain ⟨g1, g2, g3, g4⟩ := getPB_form h0 hr
        have hne : r' ≠ [] := fun e => by rw [e] at g2; simp at g2; omega
        exact ⟨by rw [pckB, if_neg hne, g2, ← g1, ← f1, ← List.take_add], g3, .inr g4⟩
theorem w_form {c : Nat} {l : List UInt8} {x j : Nat} (h : getW c l = .ok (x, j)) : l.take j = leB c x ∧ x < 256 ^ c := by
  unfold getW at h
  split at h
  · cases h
  · next h1 =>
    injection h with h; injection h with e1 e2; subst e1 e2
    have e5 : (l.take c).length = c := by rw [List.length_take]; omega
    have e6 := leB_leN (l.take c)
    have e7 := leN_lt (l.take c)
    rw [e5] at e6 e7
    exact ⟨e6.symm, e7⟩
theorem raw_form {n : Int} {l x : List UInt8} {j : Nat} (h : getRaw n l = .ok (x, j)) : l.take j = x := by
  unfold getRaw at h
  split at h
  · cases h
  · split at h
    · cases h
    · injection h with h; injection h with e1 e2; subst e1 e2; rfl
theorem text_form {most : Int} {l x : List UInt8} {j : Nat} (h : getText most l = .ok (x, j)) : l.take j = uvar x.length ++ x := by
  unfold getText at h
  cases hg : getUpto most l with
  | error e => rw [hg] at h; cases h
  | ok y =>
    obtain ⟨n, k⟩ := y
    rw [hg] at h
    simp only at h
    obtain ⟨hu, _⟩ := getUpto_len hg
    obtain ⟨f1, f2, f3⟩ := formU hu
    split at h
    · cases h
    · next h1 =>
      injection h with h; injection h with e1 e2; subst e1 e2
      rw [List.take_add, f1, List.length_take, Nat.min_eq_left (by omega)]
end Go.Proofs.YtaijepjhmjjecaaDoor

/- What is put is read again, whatever stands behind it; cut ahead of its end it is too short. No program occurs here. -/
namespace Go.Proofs.YtaijepjhmjjecaaDoor
set_option linter.unusedVariables false

theorem gp_upto (most : Int) (n : Nat) (h : n < 2 ^ 64) (hm : (n : Int) ≤ most) (t : List UInt8) : getUpto most (uvar n ++ t) = .ok (n, (uvar n).length) := by
  unfold getUpto; rw [getU_uvar n h t]; simp only; rw [if_neg (by omega)]
theorem gp_upto_lim (most : Int) (n : Nat) (h : n < 2 ^ 64) (hm : most < (n : Int)) (t : List UInt8) : getUpto most (uvar n ++ t) = .error 3 := by
  unfold getUpto; rw [getU_uvar n h t]; simp only; rw [if_pos (by omega)]
theorem gc_upto (most : Int) (n k : Nat) (h : n < 2 ^ 64) (hk : k < (uvar n).length) : getUpto most ((uvar n).take k) = .error 1 := by
  unfold getUpto; rw [getU_cut n k h hk]
theorem gp_w (c n : Nat) (hn : n < 256 ^ c) (t : List UInt8) : getW c (leB c n ++ t) = .ok (n, c) := by
  have h1 := leB_length c n
  unfold getW
  rw [if_neg (by rw [List.length_append]; omega), take_of rfl h1, leN_leB, Nat.mod_eq_of_lt hn]
theorem gc_w (c n k : Nat) (hk : k < c) : getW c ((leB c n).take k) = .error 1 := by
  have h1 := leB_length c n
  unfold getW
  rw [if_pos (by rw [List.length_take]; omega)]
theorem gp_raw (cs t : List UInt8) : getRaw cs.length (cs ++ t) = .ok (cs, cs.length) := by
  unfold getRaw
  rw [if_neg (by omega), if_neg (by rw [List.length_append]; omega), Int.toNat_natCast, take_of rfl rfl]
theorem gc_raw (cs : List UInt8) (k : Nat) (hk : k < cs.length) : getRaw cs.length (cs.take k) = .error 1 := by
  unfold getRaw
  rw [if_neg (by omega), if_pos (by rw [List.length_take]; omega)]
theorem gp_text (cs t : List UInt8) (h : cs.length < 2 ^ 64) : getText cs.length ((uvar cs.length ++ cs) ++ t) = .ok (cs, (uvar cs.length ++ cs).length) := by
  unfold getText
  rw [List.append_assoc, gp_upto _ _ h (Int.le_refl _)]
  simp only [List.drop_left]
  rw [if_neg (by rw [List.length_append]; omega), take_of rfl rfl, List.length_append]
theorem take_app {a b : List UInt8} {k : Nat} (h : ¬ k < a.length) : (a ++ b).take k = a ++ b.take (k - a.length) := by
  rw [List.take_append, List.take_of_length_le (by omega)]
theorem take_app_lt {a b : List UInt8} {k : Nat} (h : k < a.length) : (a ++ b).take k = a.take k := by
  rw [List.take_append, show k - a.length = 0 by omega, List.take_zero, List.append_nil]
theorem gc_text (cs : List UInt8) (k : Nat) (h : cs.length < 2 ^ 64) (hk : k < (uvar cs.length ++ cs).length) : getText cs.length ((uvar cs.length ++ cs).take k) = .error 1 := by
  rw [List.length_append] at hk
  unfold getText
  by_cases h1 : k < (uvar cs.length).length
  · rw [take_app_lt h1, gc_upto _ _ _ h h1]
  · rw [take_app h1, gp_upto _ _ h (Int.le_refl _)]
    simp only [List.drop_left]
    rw [if_pos (by rw [List.length_take]; omega)]
theorem gp_r : ∀ (l : List Int) (last : Int) (t : List UInt8), -1 ≤ last → asc last l → getR l.length last (gapsB last l ++ t) = .ok (l, (gapsB last l).length)
  | [], _, _, _, _ => rfl
  | z :: r, last, t, hl, ⟨h1, h2, h3⟩ => by
    rw [List.length_cons, getR, gapsB, List.append_assoc, getU_uvar _ (by omega)]
    simp only
    rw [if_neg (by omega), List.drop_left, show last + ((z - last - 1).toNat : Nat) + 1 = z by omega, gp_r r z t (by omega) h3]
    simp only [List.length_append]
theorem gc_r : ∀ (l : List Int) (last : Int) (k : Nat), -1 ≤ last → asc last l → k < (gapsB last l).length → getR l.length last ((gapsB last l).take k) = .error 1
  | [], _, _, _, _, hk => by simp [gapsB] at hk
  | z :: r, last, k, hl, ⟨h1, h2, h3⟩, hk => by
    rw [gapsB, List.length_append] at hk
    rw [List.length_cons, getR, gapsB]
    by_cases h4 : k < (uvar (z - last - 1).toNat).length
    · rw [take_app_lt h4, getU_cut _ _ (by omega) h4]
    · rw [take_app h4, getU_uvar _ (by omega)]
      simp only
      rw [if_neg (by omega), List.drop_left, show last + ((z - last - 1).toNat : Nat) + 1 = z by omega, gc_r r z _ (by omega) h3 (by omega)]
theorem asc_of : ∀ {l : List Int} {last : Int}, (∀ z ∈ l.head?, last < z) → rises l → FitL l → asc last l
  | [], _, _, _, _ => trivial
  | z :: r, last, h0, hr, hf => by
    refine ⟨h0 z rfl, (hf z List.mem_cons_self).2, asc_of ?_ (fun i h => ?_) (fun y hy => hf y (List.mem_cons_of_mem _ hy))⟩
    · cases r with
      | nil => intro y hy; cases hy
      | cons y r => intro x hx; obtain rfl : y = x := by simpa using hx
                    exact hr 0 (by simp)
    · have := hr (i + 1) (by simpa using h)
      simpa using this
theorem asc_neg1 {l : List Int} (hn : anyNeg l = false) (hr : rises l) (hf : FitL l) : asc (-1) l := asc_of (fun z hz => by
  have := List.any_eq_false.1 hn z (List.mem_of_head? hz)
  simp at this; omega) hr hf
theorem gp_ris {l : List Int} (hn : anyNeg l = false) (hr : rises l) (hf : FitL l) (hl : l.length < 2 ^ 63) (t : List UInt8) : getRis l.length (risB l ++ t) = .ok (l, (risB l).length) := by
  unfold getRis risB
  rw [List.append_assoc, gp_upto _ _ (by omega) (Int.le_refl _)]
  simp only [List.drop_left]
  rw [gp_r l (-1) t (by omega) (asc_neg1 hn hr hf)]
  simp only [List.length_append]
theorem gc_ris {l : List Int} (hn : anyNeg l = false) (hr : rises l) (hf : FitL l) (hl : l.length < 2 ^ 63) (k : Nat) (hk : k < (risB l).length) : getRis l.length ((risB l).take k) = .error 1 := by
  unfold getRis
  unfold risB at hk ⊢
  rw [List.length_append] at hk
  by_cases h1 : k < (uvar l.length).length
  · rw [take_app_lt h1, gc_upto _ _ _ (by omega) h1]
  · rw [take_app h1, gp_upto _ _ (by omega) (Int.le_refl _)]
    simp only [List.drop_left]
    rw [gc_r l (-1) _ (by omega) (asc_neg1 hn hr hf) (by omega)]
theorem unpack_pack (w : Nat) (l : List Nat) (hl : ∀ x ∈ l, x < 2 ^ w) : unpack w l.length (packN w l) = l := by
  apply List.ext_getElem (unpack_length _ _ _)
  intro i h1 h2
  simp only [unpack, List.getElem_map, List.getElem_range]
  exact packN_get w l i h2 hl
theorem gp_pb {l : List Nat} (h0 : l ≠ []) (hf : ∀ x ∈ l, x < 2 ^ 63) (hz : widL l = 0 → l.length ≤ 65536) (t : List UInt8) : getPB l.length (packB l ++ t) = .ok (l, (packB l).length) := by
  have hw := widL_63 hf
  have hx : (UInt8.ofNat (widL l)).toNat = widL l := ofNat_toNat _ (by omega)
  have hfit := widL_fits (l := l) (fun x hx => Nat.lt_trans (hf x hx) (by decide))
  have hN := packN_lt (widL l) l hfit
  have hun := unpack_pack (widL l) l hfit
  unfold packB
  rw [List.cons_append, getPB, hx]
  obtain ⟨W, hW⟩ : ∃ W, widL l = W := ⟨_, rfl⟩
  simp only [hW] at hw hz hfit hN hun ⊢
  obtain ⟨S, hS⟩ : ∃ S, (l.length * W + 7) / 8 = S := ⟨_, rfl⟩
  rw [hS]
  have hlen := leB_length S (packN W l)
  have hS8 : l.length * W ≤ 8 * S := by omega
  have hN2 : packN W l < 256 ^ S := Nat.lt_of_lt_of_le hN (by rw [show (256 : Nat) = 2 ^ 8 by rfl, ← Nat.pow_mul]; exact Nat.pow_le_pow_right (by decide) (by rw [Nat.mul_comm W]; exact hS8))
  rw [take_of rfl hlen, leN_leB, Nat.mod_eq_of_lt hN2, hun, hW]
  rw [if_neg (by intro h; rcases h with h | ⟨h, h2⟩; omega; have := hz h; omega), if_neg, if_pos ⟨rfl, Nat.div_eq_of_lt (by rw [Nat.mul_comm]; exact hN)⟩]
  · rw [List.length_cons, hlen, Nat.add_comm]
  · rintro ⟨h1, h2⟩
    have : l.length ≤ (leB S (packN W l) ++ t).length * 8 / W := by
      rw [Nat.le_div_iff_mul_le h1, List.length_append, hlen]
      omega
    omega
theorem gc_pb {l : List Nat} (h0 : l ≠ []) (hf : ∀ x ∈ l, x < 2 ^ 63) (hz : widL l = 0 → l.length ≤ 65536) (k : Nat) (hk : k < (packB l).length) : getPB l.length ((packB l).take k) = .error 1 := by
  have hw := widL_63 hf
  have hx : (UInt8.ofNat (widL l)).toNat = widL l := ofNat_toNat _ (by omega)
  unfold packB at hk ⊢
  cases k with
  | zero => rfl
  | succ k =>
    rw [List.take_succ_cons, getPB, hx]
    rw [List.length_cons, leB_length] at hk
    obtain ⟨W, hW⟩ : ∃ W, widL l = W := ⟨_, rfl⟩
    simp only [hW] at hw hz hk ⊢
    rw [if_neg (by intro h; rcases h with h | ⟨h, h2⟩; omega; have := hz h; omega), if_pos]
    obtain ⟨S, hS⟩ : ∃ S, (l.length * W + 7) / 8 = S := ⟨_, rfl⟩
    rw [hS] at hk ⊢
    have hW0 : 0 < W := by
      rcases Nat.eq_zero_or_pos W with e | e
      · subst e; omega
      · exact e
    refine ⟨hW0, ?_⟩
    rw [Nat.div_lt_iff_lt_mul hW0, List.length_take, leB_length]
    omega
theorem gp_pk {l : List Nat} (hf : ∀ x ∈ l, x < 2 ^ 63) (hz : l ≠ [] → widL l = 0 → l.length ≤ 65536) (hl : l.length < 2 ^ 63) (t : List UInt8) : getPk l.length (pckB l ++ t) = .ok (l, (pckB l).length) := by
  unfold getPk pckB
  rw [List.append_assoc, gp_upto _ _ (by omega) (Int.le_refl _)]
  simp only [List.drop_left]
  by_cases h0 : l = []
  · subst h0; simp
  · rw [if_neg (by intro h; exact h0 (List.eq_nil_of_length_eq_zero h)), if_neg h0, gp_pb h0 hf (hz h0) t]
    simp only [List.length_append]
theorem gc_pk {l : List Nat} (hf : ∀ x ∈ l, x < 2 ^ 63) (hz : l ≠ [] → widL l = 0 → l.length ≤ 65536) (hl : l.length < 2 ^ 63) (k : Nat) (hk : k < (pckB l).length) : getPk l.length ((pckB l).take k) = .error 1 := by
  unfold getPk
  unfold pckB at hk ⊢
  rw [List.length_append] at hk
  by_cases h1 : k < (uvar l.length).length
  · rw [take_app_lt h1, gc_upto _ _ _ (by omega) h1]
  · rw [take_app h1, gp_upto _ _ (by omega) (Int.le_refl _)]
    simp only [List.drop_left]
    by_cases h0 : l = []
    · subst h0; simp at hk h1; omega
    · rw [if_neg h0] at hk ⊢
      rw [if_neg (by intro h; exact h0 (List.eq_nil_of_length_eq_zero h)), gc_pb h0 hf (hz h0) _ (by omega)]
end Go.Proofs.YtaijepjhmjjecaaDoor
