/- codec.Writer: Varint, Word32, Word64, Raw, Text; Packed of too many noughts. -/
import Derived.Test.YtmmflhippbegaaaDoorZPacked
import Derived.Test.YtmmflhippbegaaaDoorZG3
namespace Go.Proofs.YtmmflhippbegaaaDoor
set_option linter.unusedVariables false
open Go.ChangeShapes Go.WideShapes Go.ChangeAt Go.RowKit

theorem wvar_any (w : World) (base p : Nat) (v : Value) (bs : List UInt8) (h : Wr w base p v bs) (hb : base ≤ w.heap.size) (hl : bs.length ≤ 100000000000) (x : Int) (h0 : -9223372036854775808 ≤ x) (h1 : x ≤ 9223372036854775807) :
    Calls Tryd.prog 55 #[.pointer (some ⟨p, 0, none⟩), .int .i64 x] w fun e w' => e = .returned (.tuple #[]) ∧ ∃ v', Wr w' base p v' (bs ++ uvar (zigI x).toNat) ∧ Wrote w w' p v v' := by
  have hz := zigI_bd x h0 h1
  obtain ⟨n, hn⟩ : ∃ n : Nat, zigI x = n := ⟨(zigI x).toNat, by omega⟩
  have HN := Lib.hid hn
  rw [hn] at hz
  have C1 := wuv_any w base p v bs h hb hl n hz.2
  clear hn
  go_enter Tryd.func55, Tryd.ntmps55
  go_wp2_with fail
  refine (zig_any x _ h0 h1).mono ?_
  rintro e w' ⟨rfl, rfl⟩
  rw [HN.out]
  go_wp2_with fail
  refine C1.mono ?_
  rintro e w1 ⟨rfl, v1, hw1, hr1⟩
  go_wp2
  go_end0
  exact ⟨rfl, v1, by rw [HN.out, Int.toNat_natCast]; exact hw1, hr1⟩

theorem shr_byte (m i : Nat) : (m : Int) / 2 ^ (8 * i) % 256 = ((UInt8.ofNat (m / 256 ^ i % 256)).toNat : Int) := by
  have e : (m : Int) / 2 ^ (8 * i) = ((m / 2 ^ (8 * i) : Nat) : Int) := by simp
  have e2 : (256 : Nat) ^ i = 2 ^ (8 * i) := by rw [show (256 : Nat) = 2 ^ 8 by rfl, ← Nat.pow_mul]
  rw [e, u8_ofNat, ← e2]; omega
set_option maxRecDepth 100000 in
set_option maxHeartbeats 1000000 in
theorem w32_any (w : World) (base p : Nat) (v : Value) (bs : List UInt8) (h : Wr w base p v bs) (hb : base ≤ w.heap.size) (hl : bs.length ≤ 100000000000) (m : Nat) (hm : (m : Int) ≤ 4294967295) :
    Calls Tryd.prog 57 #[.pointer (some ⟨p, 0, none⟩), .int .u32 m] w fun e w' => e = .returned (.tuple #[]) ∧ ∃ v', Wr w' base p v' (bs ++ leB 4 m) ∧ Wrote w w' p v v' := by
  go_enter Tryd.func57, Tryd.ntmps57
  go_wp2
  go_loopw [5] (fun s wr => ∃ (i : Nat) (v' : Value), s = .int .i64 i ∧ i ≤ 4 ∧ Wr wr base p v' (bs ++ leB i m) ∧ Wrote w wr p v v') (fun s _ => 4 - (intOf s).toNat)
  case atStart => exact ⟨0, v, rfl, by omega, by simpa [leB] using h, Wrote.refl _ _ _⟩
  case round =>
    obtain ⟨i, v', rfl, hi, hw, hwr⟩ := hrel
    by_cases hlt : i < 4
    · have hb0 := Nat.le_trans hb hwr.eff.size
      have hl' : (bytesV (bs ++ leB i m)).length < 1000000000000 := by rw [bytesV_length, List.length_append, leB_length]; omega
      have hc := hw.read
      have hown := hw.own
      have hb1 : base ≤ wr.drew.heap.size := hb0
      obtain ⟨av, nv, cv, rfl⟩ := own_sl hown
      have qa : IntKind.i64.wrap (8 * (i : Int)) = 8 * (i : Int) := IntWalk.i64_in _ (by omega)
      go_wp2
      have hwd := hw.drewN 1
      have hca : ∀ o : Obj, (wr.alloc o).cell? ⟨p, 0, none⟩ = some (.slice av nv cv) := fun o => cell?_alloc_old o hc
      go_region_law (refine step_ap1' elBytes rfl hown.drew hl' hb1 rfl (.tmp 12) (.tmp 18) rfl rfl rfl ?_; intro v1 w1 g1 g2 g3 g4; obtain ⟨a1, n1, c1, rfl⟩ := own_sl g1; obtain ⟨hc1, hf1⟩ := wr_cell hwd g4)
      all_goals
        have g1' : Own w1 base 5 (.slice a1 n1 c1) (bytesV (bs ++ leB (i + 1) m)) := by
          rw [leB_succ, ← List.append_assoc, bytesV_snoc, ← shr_byte]
          exact own_last g1 (by rw [IntKind.wrap_u8, show (8 * (i : Int)).toNat = 8 * i by omega])
        obtain ⟨hw2, hwr2⟩ := wr_app hwd g1' (g3.imp id (fun h => ⟨_, h.1, Nat.le_succ _⟩)) g4
        have HW := Lib.hid hw2
        have HR := Lib.hid ((hwr.drewN 1).trans hwr2)
        clear g1 g1' g2 g3 g4 hw2 hwr2 hw hwr hown hwd hca hc
        go_wp2
        go_roundw
        case rel => exact ⟨i + 1, _, by go_num, by omega, HW.out, HR.out⟩
        case measure => simp [intOf]; omega
    · obtain rfl : i = 4 := by omega
      go_wp2
      go_end0
      exact ⟨rfl, _, hw, hwr⟩
set_option maxRecDepth 100000 in
set_option maxHeartbeats 1000000 in
theorem w64_any (w : World) (base p : Nat) (v : Value) (bs : List UInt8) (h : Wr w base p v bs) (hb : base ≤ w.heap.size) (hl : bs.length ≤ 100000000000) (m : Nat) (hm : (m : Int) ≤ 18446744073709551615) :
    Calls Tryd.prog 59 #[.pointer (some ⟨p, 0, none⟩), .int .u64 m] w fun e w' => e = .returned (.tuple #[]) ∧ ∃ v', Wr w' base p v' (bs ++ leB 8 m) ∧ Wrote w w' p v v' := by
  go_enter Tryd.func59, Tryd.ntmps59
  go_wp2
  go_loopw [5] (fun s wr => ∃ (i : Nat) (v' : Value), s = .int .i64 i ∧ i ≤ 8 ∧ Wr wr base p v' (bs ++ leB i m) ∧ Wrote w wr p v v') (fun s _ => 8 - (intOf s).toNat)
  case atStart => exact ⟨0, v, rfl, by omega, by simpa [leB] using h, Wrote.refl _ _ _⟩
  case round =>
    obtain ⟨i, v', rfl, hi, hw, hwr⟩ := hrel
    by_cases hlt : i < 8
    · have hb0 := Nat.le_trans hb hwr.eff.size
      have hl' : (bytesV (bs ++ leB i m)).length < 1000000000000 := by rw [bytesV_length, List.length_append, leB_length]; omega
      have hc := hw.read
      have hown := hw.own
      have hb1 : base ≤ wr.drew.heap.size := hb0
      obtain ⟨av, nv, cv, rfl⟩ := own_sl hown
      have qa : IntKind.i64.wrap (8 * (i : Int)) = 8 * (i : Int) := IntWalk.i64_in _ (by omega)
      go_wp2
      have hwd := hw.drewN 1
      have hca : ∀ o : Obj, (wr.alloc o).cell? ⟨p, 0, none⟩ = some (.slice av nv cv) := fun o => cell?_alloc_old o hc
      go_region_law (refine step_ap1' elBytes rfl hown.drew hl' hb1 rfl (.tmp 12) (.tmp 18) rfl rfl rfl ?_; intro v1 w1 g1 g2 g3 g4; obtain ⟨a1, n1, c1, rfl⟩ := own_sl g1; obtain ⟨hc1, hf1⟩ := wr_cell hwd g4)
      all_goals
        have g1' : Own w1 base 5 (.slice a1 n1 c1) (bytesV (bs ++ leB (i + 1) m)) := by
          rw [leB_succ, ← List.append_assoc, bytesV_snoc, ← shr_byte]
          exact own_last g1 (by rw [IntKind.wrap_u8, show (8 * (i : Int)).toNat = 8 * i by omega])
        obtain ⟨hw2, hwr2⟩ := wr_app hwd g1' (g3.imp id (fun h => ⟨_, h.1, Nat.le_succ _⟩)) g4
        have HW := Lib.hid hw2
        have HR := Lib.hid ((hwr.drewN 1).trans hwr2)
        clear g1 g1' g2 g3 g4 hw2 hwr2 hw hwr hown hwd hca hc
        go_wp2
        go_roundw
        case rel => exact ⟨i + 1, _, by go_num, by omega, HW.out, HR.out⟩
        case measure => simp [intOf]; omega
    · obtain rfl : i = 8 := by omega
      go_wp2
      go_end0
      exact ⟨rfl, _, hw, hwr⟩

set_option maxRecDepth 100000 in
theorem wraw_any (w : World) (base p : Nat) (v : Value) (bs : List UInt8) (h : Wr w base p v bs) (hb : base ≤ w.heap.size) (hl : bs.length ≤ 10000000000) (s : Value) (cs : List UInt8) (hr : Rd w s (bytesV cs)) (hcs : cs.length ≤ 10000000000) :
    Calls Tryd.prog 37 #[.pointer (some ⟨p, 0, none⟩), s] w fun e w' => e = .returned (.tuple #[]) ∧ ∃ v', Wr w' base p v' (bs ++ cs) ∧ Wrote w w' p v v' := by
  have hl' : (bytesV bs).length + (bytesV cs).length < 1000000000001 := by rw [bytesV_length, bytesV_length]; omega
  have hc := h.read
  have hown := h.own
  have HO := Lib.hid (bytesV_one cs)
  have HR := Lib.hid hr
  obtain ⟨av, nv, cv, rfl⟩ := own_sl hown
  obtain ⟨as_, ns, cs_, rfl⟩ : ∃ a n c, s = .slice a n c := by obtain ⟨A, c, h, _⟩ := hr; exact ⟨_, _, _, h⟩
  clear hr
  go_enter Tryd.func37, Tryd.ntmps37
  go_wp2_with (at_builtin; with_reducible refine apN elBytes hown HR.out HO.out hl' hb rfl _ _ rfl rfl rfl ?_)
  intro v1 w1 g1 g2 g3 g4
  obtain ⟨hc1, hf1⟩ := wr_cell h g4
  obtain ⟨a1, n1, c1, rfl⟩ := own_sl g1
  rw [← bytesV_append] at g1
  obtain ⟨hw2, hwr2⟩ := wr_app h g1 (g3.imp id (fun h => ⟨_, h.1, Nat.le_refl _⟩)) g4
  go_wp2
  go_end0
  exact ⟨rfl, _, hw2, hwr2⟩

set_option maxRecDepth 100000 in
theorem wtext_any (w : World) (base p : Nat) (v : Value) (bs : List UInt8) (h : Wr w base p v bs) (hb : base ≤ w.heap.size) (hl : bs.length ≤ 10000000000) (s : ByteArray) (hs : s.size ≤ 10000000000) :
    Calls Tryd.prog 60 #[.pointer (some ⟨p, 0, none⟩), .string s] w fun e w' => e = .returned (.tuple #[]) ∧ ∃ v', Wr w' base p v' (bs ++ (uvar s.size ++ s.data.toList)) ∧ Wrote w w' p v v' := by
  have hu := (uvar_le s.size (by omega)).2
  have C1 := wuv_any w base p v bs h hb (by omega) s.size (by omega)
  go_enter Tryd.func60, Tryd.ntmps60
  go_wp2_with fail
  refine C1.mono ?_
  rintro e w1 ⟨rfl, v1, hw1, hr1⟩
  have hl' : (bytesV (bs ++ uvar s.size)).length + s.size < 1000000000001 := by rw [bytesV_length, List.length_append]; omega
  have hc := hw1.read
  have hown := hw1.own
  have hb1 := Nat.le_trans hb hr1.eff.size
  obtain ⟨av, nv, cv, rfl⟩ := own_sl hown
  go_wp2_with (at_builtin; with_reducible refine apS elBytes Tryd.underlying9 hown hl' hb1 rfl _ _ rfl rfl rfl ?_)
  intro v2 w2 g1 g2 g3 g4
  obtain ⟨hc1, hf1⟩ := wr_cell hw1 g4
  obtain ⟨a1, n1, c1, rfl⟩ := own_sl g1
  rw [← bytesV_append, List.append_assoc] at g1
  obtain ⟨hw2, hwr2⟩ := wr_app hw1 g1 (g3.imp id (fun h => ⟨_, h.1, Nat.le_refl _⟩)) g4
  go_wp2
  go_end0
  exact ⟨rfl, _, hw2, hr1.trans hwr2⟩

set_option maxRecDepth 100000 in
set_option maxHeartbeats 1000000 in
theorem wpck_lim (w : World) (p : Nat) (a : Option Addr) (n c : Nat) (l : List Nat) (hr : Rd w (.slice a n c) (intL (natI l))) (hl : l.length ≤ 1000000000) (hf : ∀ x ∈ l, x < 2 ^ 63) (hz : widL l = 0) (hbig : 65536 < l.length) (eL : Value) (hL : w.cell? ⟨1, 0, none⟩ = some eL) :
    Calls Tryd.prog 16 #[.pointer (some ⟨p, 0, none⟩), .slice a n c] w fun e w' => e = .returned eL ∧ w = w' := by
  have hq := anyb_any w a n c (natI l) hr (by rw [natI_length]; omega)
  obtain ⟨rfl, hg⟩ := rd_nat hr
  have HG := Lib.hid hg
  have HF := Lib.hid hf
  have hO : orL l < 2 ^ 63 := orL_lt l hf
  have HW := Lib.hid ((bitLen_orL l (fun x hx => Nat.lt_trans (hf x hx) (by decide))).trans hz)
  clear hg hf hz
  have d1 : decide ((65536 : Int) < l.length) = true := decide_eq_true (by omega)
  go_enter Tryd.func16, Tryd.ntmps16
  go_wp2_with fail
  refine hq.mono ?_
  rintro e w' ⟨rfl, rfl⟩
  rw [anyNeg_nat]
  clear hq
  go_wp2
  go_loopw [5, 17] (fun s5 s17 wr => ∃ i : Nat, s17 = .int .i64 i ∧ i ≤ l.length ∧ s5 = .int .i64 (orL (l.take i) : Nat) ∧ w = wr) (fun _ s _ => l.length - (intOf s).toNat)
  case atStart => exact ⟨0, rfl, Nat.zero_le _, rfl, rfl⟩
  case round =>
    obtain ⟨i, rfl, hi, rfl, rfl⟩ := hrel
    by_cases hlt : i < l.length
    · obtain ⟨b, o, rfl, hg⟩ := HG.out (by omega)
      have hc := hg i hlt
      have hx := HF.out l[i] (List.getElem_mem hlt)
      have ht : orL (l.take (i + 1)) = orL (l.take i) ||| l[i] := by rw [List.take_add_one, List.getElem?_eq_getElem hlt, Option.toList_some, orL_snoc]
      have hot : orL (l.take i) < 2 ^ 63 := orL_lt _ (fun x hx => HF.out x (List.mem_of_mem_take hx))
      have hor := i64_or_nat (orL (l.take i)) l[i] hot hx
      have HT := Lib.hid (hor.trans (congrArg Nat.cast ht.symm))
      clear hg ht hor
      go_wp2
      go_roundw
      case rel => exact ⟨i + 1, by go_num, by omega, by rw [HT.out], by first | rfl | trivial⟩
      case measure => simp [intOf]; omega
    · obtain rfl : i = l.length := by omega
      rw [List.take_length]
      have hO2 : ((orL l : Nat) : Int) ≤ 9223372036854775807 := by omega
      go_wp2_with fail
      refine (len_any _ _ (by omega) (by omega)).mono ?_
      rintro e w' ⟨rfl, rfl⟩
      rw [Int.toNat_natCast, HW.out]
      go_wp2
      go_ret
      exact ⟨rfl, rfl⟩
end Go.Proofs.YtmmflhippbegaaaDoor
