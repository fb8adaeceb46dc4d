/- The walk of the law AutoReaches. -/
import Derived.Test.YtejmjjgbbojfbaaDoorFuzzA
import Derived.Test.YtejmjjgbbojfbaaDoorWildA
namespace Go.Proofs.YtejmjjgbbojfbaaDoor
set_option linter.unusedVariables false
open Go.ChangeShapes Go.WideShapes Go.ChangeAt Go.RowKit

def tlb (b : ByteArray) : List UInt8 := b.data.toList
structure Ed where
  k : Int
  at_ : Int
  c : UInt8
/-- A list of edits that reads. -/
def RdEds (w : World) (a : Option Addr) (n : Nat) (es : List Ed) : Prop :=
  n = es.length ∧ ∀ i, (h : i < es.length) → ∃ b o, a = some ⟨b, o, none⟩ ∧ w.cell? ⟨b, o + i * 3, none⟩ = some (.int .i64 es[i].k) ∧ w.cell? ⟨b, o + i * 3 + 1, none⟩ = some (.int .i64 es[i].at_) ∧ w.cell? ⟨b, o + i * 3 + 2, none⟩ = some (.int .u8 (es[i].c.toNat : Nat))
theorem RdEds.below {w w' : World} {a : Option Addr} {n : Nat} {es : List Ed} (h : RdEds w a n es) (hb : Below w.heap.size w w') : RdEds w' a n es :=
  ⟨h.1, fun i hi => by
    obtain ⟨b, o, e, h1, h2, h3⟩ := h.2 i hi
    exact ⟨b, o, e, by rw [hb.cell (World.block_lt_of_cell? w _ h1)]; exact h1, by rw [hb.cell (World.block_lt_of_cell? w _ h2)]; exact h2, by rw [hb.cell (World.block_lt_of_cell? w _ h3)]; exact h3⟩⟩
theorem ed_one (w : World) (o : Obj) (cc : UInt8) (ci : Int) (h : (cc.toNat : Int) = ci) : Rd (((w.alloc o).alloc (.cells #[.int .u8 ci] 5)).drew) (.slice (some ⟨w.heap.size + 1, 0, none⟩) 1 1) (bytesV [cc]) := by
  have h1 := (own_one (w.alloc o) 0 5 (.int .u8 ci) (Nat.zero_le _)).drew.rd
  rw [show (w.alloc o).heap.size = w.heap.size + 1 by simp] at h1
  rw [show bytesV [cc] = [.int .u8 ci] by rw [← h]; rfl]; exact h1
theorem tlb_ex (S : ByteArray) (a b : Nat) : tlb (S.extract a b) = ((tlb S).drop a).take (b - a) := by
  cases S with | mk d =>
  have := ByteArray.extract_mk d.toList a b
  rw [Array.toArray_toList] at this
  rw [this]; unfold tlb; simp
theorem tlb_app (a b : ByteArray) : tlb (a ++ b) = tlb a ++ tlb b := by unfold tlb; rw [ByteArray.data_append, Array.toList_append]
theorem tlb_str (l : List UInt8) : tlb (strOf l) = l := by unfold tlb strOf; rw [List.toList_toArray]
theorem tlb_len (S : ByteArray) : (tlb S).length = S.size := Array.length_toList (xs := S.data)
theorem ed_ins (S : ByteArray) (A : Nat) (c : UInt8) (h : A ≤ S.size) : lev (tlb S) (tlb (S.extract 0 A ++ strOf [c] ++ S.extract A S.size)) ≤ 1 ∧ (S.extract 0 A ++ strOf [c] ++ S.extract A S.size).size ≤ S.size + 1 := by
  have hl := tlb_len S
  constructor
  · rw [tlb_app, tlb_app, tlb_str, tlb_ex, tlb_ex, List.drop_zero, Nat.sub_zero, List.take_of_length_le (l := (tlb S).drop A) (by rw [List.length_drop]; omega), List.append_assoc]
    conv => lhs; arg 1; rw [← List.take_append_drop A (tlb S)]
    rw [lev_append_left]
    have := lev_append_right ((tlb S).drop A) [] [c]
    rw [List.nil_append] at this
    rw [this, lev_nil_left]; simp
  · rw [ByteArray.size_append, ByteArray.size_append, ByteArray.size_extract, ByteArray.size_extract, strOf_size]; simp only [List.length_singleton]; omega
theorem ed_ins0 (S : ByteArray) (c : UInt8) : lev (tlb S) (tlb (S ++ strOf [c])) ≤ 1 ∧ (S ++ strOf [c]).size ≤ S.size + 1 := by
  constructor
  · rw [tlb_app, tlb_str]
    have h := lev_append_left (tlb S) [] [c]
    rw [List.append_nil] at h
    rw [h, lev_nil_left]; simp
  · rw [ByteArray.size_append, strOf_size]; simp
theorem ed_del (S : ByteArray) (A : Nat) (h : A < S.size) : lev (tlb S) (tlb (S.extract 0 A ++ S.extract (A + 1) S.size)) ≤ 1 ∧ (S.extract 0 A ++ S.extract (A + 1) S.size).size ≤ S.size + 1 := by
  have hl := tlb_len S
  constructor
  · rw [tlb_app, tlb_ex, tlb_ex, List.drop_zero, Nat.sub_zero, List.take_of_length_le (l := (tlb S).drop (A + 1)) (by rw [List.length_drop]; omega)]
    conv => lhs; arg 1; rw [← List.take_append_drop A (tlb S), List.drop_eq_getElem_cons (by omega)]
    rw [lev_append_left]
    have := lev_append_right ((tlb S).drop (A + 1)) [(tlb S)[A]'(by omega)] []
    rw [List.nil_append] at this
    rw [show ∀ (x : UInt8) l, x :: l = [x] ++ l from fun _ _ => rfl, this, lev_nil_right]; simp
  · rw [ByteArray.size_append, ByteArray.size_extract, ByteArray.size_extract]; omega
theorem ed_rep (S : ByteArray) (A : Nat) (c : UInt8) (h : A < S.size) : lev (tlb S) (tlb (S.extract 0 A ++ strOf [c] ++ S.extract (A + 1) S.size)) ≤ 1 ∧ (S.extract 0 A ++ strOf [c] ++ S.extract (A + 1) S.size).size ≤ S.size + 1 := by
  have hl := tlb_len S
  constructor
  · rw [tlb_app, tlb_app, tlb_str, tlb_ex, tlb_ex, List.drop_zero, Nat.sub_zero, List.take_of_length_le (l := (tlb S).drop (A + 1)) (by rw [List.length_drop]; omega), List.append_assoc]
    conv => lhs; arg 1; rw [← List.take_append_drop A (tlb S), List.drop_eq_getElem_cons (by omega)]
    rw [lev_append_left]
    have := lev_append_right ((tlb S).drop (A + 1)) [(tlb S)[A]'(by omega)] [c]
    rw [show ∀ (x : UInt8) l, x :: l = [x] ++ l from fun _ _ => rfl, this]
    have := lev_le_max [(tlb S)[A]'(by omega)] [c]
    simpa using this
  · rw [ByteArray.size_append, ByteArray.size_append, ByteArray.size_extract, ByteArray.size_extract, strOf_size]; simp only [List.length_singleton]; omega
theorem ed_next {word S T : ByteArray} {i : Nat} (h : lev (tlb word) (tlb S) ≤ i) (h2 : lev (tlb S) (tlb T) ≤ 1) : lev (tlb word) (tlb T) ≤ i + 1 := by
  have := lev_tri (tlb word) (tlb S) (tlb T); omega
set_option maxRecDepth 100000 in
set_option maxHeartbeats 4000000 in
theorem reach_walk (w : World) (word : ByteArray) (a : Option Addr) (n c : Nat) (es : List Ed) (hr : RdEds w a n es) (hnc : n ≤ c) (hn : es.length ≤ 1000000000) (hword : word.size ≤ 1000000000) (hk : ∀ e ∈ es, (-9223372036854775808 ≤ e.k ∧ e.k ≤ 9223372036854775807) ∧ -9223372036854775808 ≤ e.at_ ∧ e.at_ ≤ 9223372036854775807) (eP : Value) (hP : w.cell? ⟨2, 0, none⟩ = some eP) (hnone : a = none → c = 0) :
    Calls Tryd.prog 3 #[.string word, .slice a n c] w fun e w' => e = .returned (.bool true) ∧ Below w.heap.size w w' := by
  have C0 := lives_any w eP hP
  obtain rfl := hr.1
  have HR := Lib.hid hr
  have HK := Lib.hid hk
  clear hr hP hk
  go_enter Tryd.func3, Tryd.ntmps3
  go_wp2_with fail
  refine C0.mono ?_
  rintro e w1 ⟨rfl, hb1⟩
  have HB1 := Lib.hid hb1
  clear C0 hb1
  by_cases h300 : 300 < word.size
  · go_wp2
    go_ret
    exact ⟨rfl, HB1.out⟩
  obtain ⟨m, hm⟩ : ∃ m : Nat, m = min es.length 2 := ⟨_, rfl⟩
  have hm2 : m ≤ 2 := by omega
  have hmn : m ≤ es.length := by omega
  have hmin : min (es.length : Int) 2 = (m : Int) := by omega
  have hmc : m ≤ c := by omega
  clear hm
  cases a with
  | none =>
    obtain rfl := hnone rfl
    obtain rfl : m = 0 := by omega
    go_wp2
    go_loopw [7, 33] (fun s7 s33 wr => ∃ (i : Nat) (S : ByteArray), s33 = .int .i64 i ∧ i ≤ 0 ∧ s7 = .string S ∧ S.size ≤ word.size + i ∧ lev (tlb word) (tlb S) ≤ i ∧ Below w.heap.size w wr) (fun _ s33 _ => 0 - (intOf s33).toNat)
    case atStart => exact ⟨0, word, rfl, Nat.zero_le _, rfl, Nat.le_refl _, Nat.le_of_eq (lev_self _), HB1.out⟩
    case round =>
      obtain ⟨i, S, rfl, hi, rfl, hss, hlev, hb⟩ := hrel
      obtain rfl : i = 0 := by omega
      have HLEV := Lib.hid hlev
      clear hlev
      have C1 := fuzzy_ok wr word 0 (by omega) (by omega : 0 ≤ 2)
      have HB := Lib.hid hb
      clear hb
      go_wp2_with fail
      refine C1.mono ?_
      rintro e w2 ⟨p1, rfl, _, ha1, hb1⟩
      have C2 := fuzzy_ok w2 S 0 (by omega) (by omega : 0 ≤ 2)
      have HA1 := Lib.hid ha1
      have HB2 := Lib.hid (HB.out.trans (hb1.mono HB.out.size))
      clear C1 ha1 hb1
      go_wp2_with fail
      refine C2.mono ?_
      rintro e w3 ⟨p2, rfl, _, ha2, hb2⟩
      have hA1 := HA1.out.below hb2
      have C3 := accepts_any w3 p1 _ hA1 S (by omega)
      have hacc : accM (fuzzM word.data.toList 0) S.data.toList = true := by rw [acc_fz _ _ (by omega : 0 ≤ 2)]; exact decide_eq_true HLEV.out
      rw [hacc] at C3
      have HACC := Lib.hid hacc
      have HA1b := Lib.hid hA1
      have HA2 := Lib.hid ha2
      have HB3 := Lib.hid (HB2.out.trans (hb2.mono HB2.out.size))
      clear C2 ha2 hb2 hA1 hacc
      go_wp2_with fail
      refine C3.mono ?_
      rintro e w4 ⟨rfl, hb3⟩
      have hA2 := HA2.out.below hb3
      have HA1c := Lib.hid (HA1b.out.below hb3)
      have C4 := accepts_any w4 p2 _ hA2 word (by omega)
      rw [show accM (fuzzM S.data.toList 0) word.data.toList = true by rw [acc_fz _ _ (by omega : 0 ≤ 2)]; exact decide_eq_true (by rw [lev_symm]; exact HLEV.out)] at C4
      have HB4 := Lib.hid (HB3.out.trans (hb3.mono HB3.out.size))
      clear C3 hA2 hb3
      go_wp2_with fail
      refine C4.mono ?_
      rintro e w5 ⟨rfl, hb4⟩
      have HA1d := Lib.hid (HA1c.out.below hb4)
      have HB5 := Lib.hid (HB4.out.trans (hb4.mono HB4.out.size))
      clear C4 hb4
      go_wp2
      go_loopw [15] (fun s15 wr => ∃ j : Nat, s15 = .int .i64 j ∧ j ≤ S.size + 1 ∧ IsAuto wr p1 (fuzzM word.data.toList 0) ∧ Below w.heap.size w wr) (fun s15 _ => S.size + 1 - (intOf s15).toNat)
      case atStart => exact ⟨0, rfl, Nat.zero_le _, HA1d.out, HB5.out⟩
      case round =>
        obtain ⟨j, rfl, hj, ha, hb⟩ := hrel
        by_cases hjl : j ≤ S.size
        · have C5 := alive_any _ p1 _ ha (S.extract 0 j) (by rw [ByteArray.size_extract]; omega)
          have hal : aliveM (fuzzM word.data.toList 0) (S.extract 0 j).data.toList = true := by
            have e : (S.extract 0 j).data.toList = (tlb S).take j := by have := tlb_ex S 0 j; rw [List.drop_zero, Nat.sub_zero] at this; exact this
            rw [e]
            refine alive_acc (t := (tlb S).drop j) ?_
            rw [List.take_append_drop]; exact HACC.out
          rw [hal] at C5
          have HA := Lib.hid ha
          have HBB := Lib.hid hb
          clear ha hb hal
          go_wp2_with fail
          refine C5.mono ?_
          rintro e w6 ⟨rfl, hb5⟩
          have HA2 := Lib.hid (HA.out.below hb5)
          have HB6 := Lib.hid (HBB.out.trans (hb5.mono HBB.out.size))
          clear C5 hb5
          go_wp2
          go_roundw
          case rel => exact ⟨j + 1, by go_num, by omega, HA2.out, HB6.out⟩
          case measure => simp [intOf]; omega
        · have HBB := Lib.hid hb
          clear ha hb
          go_wp2
          go_ret
          exact ⟨rfl, HBB.out⟩
  | some ad =>
    go_wp2
    go_loopw [7, 33] (fun s7 s33 wr => ∃ (i : Nat) (S : ByteArray), s33 = .int .i64 i ∧ i ≤ m ∧ s7 = .string S ∧ S.size ≤ word.size + i ∧ lev (tlb word) (tlb S) ≤ i ∧ Below w.heap.size w wr) (fun _ s33 _ => m - (intOf s33).toNat)
    case atStart => exact ⟨0, word, rfl, Nat.zero_le _, rfl, Nat.le_refl _, Nat.le_of_eq (lev_self _), HB1.out⟩
    case round =>
      obtain ⟨i, S, rfl, hi, rfl, hss, hlev, hb⟩ := hrel
      have HLEV := Lib.hid hlev
      clear hlev
      by_cases hlt : i < m
      · obtain ⟨b, o, hab, k0, k1, k2⟩ := (HR.out.below hb).2 i (by omega)
        injection hab with hab
        subst hab
        have hbd := HK.out es[i] (List.getElem_mem (by omega))
        obtain ⟨x, hx⟩ : ∃ x, es[i] = x := ⟨_, rfl⟩
        rw [hx] at k0 k1 k2 hbd
        obtain ⟨kk, at_, cc⟩ := x
        simp only at k0 k1 k2 hbd
        clear hx
        obtain ⟨ci, hci⟩ : ∃ ci : Int, (cc.toNat : Int) = ci := ⟨_, rfl⟩
        rw [hci] at k2
        have HCI := Lib.hid hci
        have HB := Lib.hid hb
        clear hci hb
        by_cases hat : at_ < 0 ∨ (S.size : Int) < at_
        · have g0 : (decide (at_ < 0) || decide ((S.size : Int) < at_)) = true := by
            rcases hat with h | h
            · rw [decide_eq_true h]; rfl
            · rw [decide_eq_true h]; simp
          have g1 : ((S.size : Int) == (S.size : Int)) = true := by simp
          by_cases hneg : at_ < 0
          · clear hat
            by_cases hk1 : kk = 1
            · subst hk1
              have r4 := run_str (P := Tryd.prog) Tryd.underlying26 Tryd.underlying5 Tryd.underlying9 (ed_one wr (.cells #[.int .i64 1, .int .i64 at_, .int .u8 ci] 25) cc ci HCI.out)
              have s1 : S.size + (strOf [cc]).size ≤ 9223372036854775807 := by rw [strOf_size]; simp only [List.length_singleton]; omega
              have s2 : (S ++ strOf [cc]).size + (S.extract S.size S.size).size ≤ 9223372036854775807 := by rw [ByteArray.size_append, ByteArray.size_extract, strOf_size]; simp only [List.length_singleton]; omega
              have hed := ed_ins0 S cc
              have HED := Lib.hid hed
              clear hed
              go_upto_region 14 with fail
              go_region
              go_wp2
              go_roundw
              case rel => exact ⟨i + 1, S ++ strOf [cc], by go_num, by omega, rfl, by have := HED.out.2; omega, ed_next HLEV.out HED.out.1, ((HB.out.alloc HB.out.size _).alloc (Nat.le_trans HB.out.size (by simp)) _).drew⟩
              case measure => simp [intOf]; omega
            · have HK1 := Lib.hid hk1
              go_wp2
              go_roundw
              case rel => exact ⟨i + 1, S, by go_num, by omega, rfl, by omega, Nat.le_succ_of_le HLEV.out, (HB.out.alloc HB.out.size _)⟩
              case measure => simp [intOf]; omega
          · have hbig : (S.size : Int) < at_ := by omega
            clear hat
            by_cases hk1 : kk = 1
            · subst hk1
              have r4 := run_str (P := Tryd.prog) Tryd.underlying26 Tryd.underlying5 Tryd.underlying9 (ed_one wr (.cells #[.int .i64 1, .int .i64 at_, .int .u8 ci] 25) cc ci HCI.out)
              have s1 : S.size + (strOf [cc]).size ≤ 9223372036854775807 := by rw [strOf_size]; simp only [List.length_singleton]; omega
              have s2 : (S ++ strOf [cc]).size + (S.extract S.size S.size).size ≤ 9223372036854775807 := by rw [ByteArray.size_append, ByteArray.size_extract, strOf_size]; simp only [List.length_singleton]; omega
              have hed := ed_ins0 S cc
              have HED := Lib.hid hed
              clear hed
              go_upto_region 14 with fail
              go_region
              go_wp2
              go_roundw
              case rel => exact ⟨i + 1, S ++ strOf [cc], by go_num, by omega, rfl, by have := HED.out.2; omega, ed_next HLEV.out HED.out.1, ((HB.out.alloc HB.out.size _).alloc (Nat.le_trans HB.out.size (by simp)) _).drew⟩
              case measure => simp [intOf]; omega
            · have HK1 := Lib.hid hk1
              go_wp2
              go_roundw
              case rel => exact ⟨i + 1, S, by go_num, by omega, rfl, by omega, Nat.le_succ_of_le HLEV.out, (HB.out.alloc HB.out.size _)⟩
              case measure => simp [intOf]; omega
        · obtain ⟨A, hA⟩ : ∃ A : Nat, at_ = A := ⟨at_.toNat, by omega⟩
          subst hA
          have hA2 : A ≤ S.size := by omega
          have g1 : decide ((A : Int) < 0) = false := decide_eq_false (by omega)
          have g2 : decide ((S.size : Int) < (A : Int)) = false := decide_eq_false (by omega)
          have g2b : decide (S.size < A) = false := decide_eq_false (by omega)
          clear hat
          by_cases hk1 : kk = 1
          · subst hk1
            have r4 := run_str (P := Tryd.prog) Tryd.underlying26 Tryd.underlying5 Tryd.underlying9 (ed_one wr (.cells #[.int .i64 1, .int .i64 (A : Nat), .int .u8 ci] 25) cc ci HCI.out)
            have s1 : (S.extract 0 A).size + (strOf [cc]).size ≤ 9223372036854775807 := by rw [ByteArray.size_extract, strOf_size]; simp only [List.length_singleton]; omega
            have s2 : (S.extract 0 A ++ strOf [cc]).size + (S.extract A S.size).size ≤ 9223372036854775807 := by rw [ByteArray.size_append, ByteArray.size_extract, ByteArray.size_extract, strOf_size]; simp only [List.length_singleton]; omega
            have hed := ed_ins S A cc (by omega)
            have HED := Lib.hid hed
            clear hed
            go_upto_region 14 with fail
            go_region
            go_wp2
            go_roundw
            case rel => exact ⟨i + 1, S.extract 0 A ++ strOf [cc] ++ S.extract A S.size, by go_num, by omega, rfl, by have := HED.out.2; omega, ed_next HLEV.out HED.out.1, ((HB.out.alloc HB.out.size _).alloc (Nat.le_trans HB.out.size (by simp)) _).drew⟩
            case measure => simp [intOf]; omega
          · have HK1 := Lib.hid hk1
            by_cases hAe : A = S.size
            · have t1 : ((A : Int) == (S.size : Int)) = true := by simp; omega
              go_wp2
              go_roundw
              case rel => exact ⟨i + 1, S, by go_num, by omega, rfl, by omega, Nat.le_succ_of_le HLEV.out, (HB.out.alloc HB.out.size _)⟩
              case measure => simp [intOf]; omega
            · have t1 : ((A : Int) == (S.size : Int)) = false := by simp; omega
              have hA3 : A < S.size := by omega
              have hA4 : (A : Int) + 1 ≤ (S.size : Int) := by omega
              by_cases hk2 : kk = 2
              · subst hk2
                have s1 : (S.extract 0 A).size + (S.extract (A + 1) S.size).size ≤ 9223372036854775807 := by rw [ByteArray.size_extract, ByteArray.size_extract]; omega
                have hed := ed_del S A hA3
                have HED := Lib.hid hed
                clear hed
                go_upto_region 17 with fail
                go_quiet (fail)
                go_wp2
                go_roundw
                case rel => exact ⟨i + 1, S.extract 0 A ++ S.extract (A + 1) S.size, by go_num, by omega, rfl, by have := HED.out.2; omega, ed_next HLEV.out HED.out.1, below_drewN (HB.out.alloc HB.out.size _) _⟩
                case measure => simp [intOf]; omega
              · 
                have r4 := run_str (P := Tryd.prog) Tryd.underlying26 Tryd.underlying5 Tryd.underlying9 (ed_one wr (.cells #[.int .i64 kk, .int .i64 (A : Nat), .int .u8 ci] 25) cc ci HCI.out)
                have s1 : (S.extract 0 A).size + (strOf [cc]).size ≤ 9223372036854775807 := by rw [ByteArray.size_extract, strOf_size]; simp only [List.length_singleton]; omega
                have s2 : (S.extract 0 A ++ strOf [cc]).size + (S.extract (A + 1) S.size).size ≤ 9223372036854775807 := by rw [ByteArray.size_append, ByteArray.size_extract, ByteArray.size_extract, strOf_size]; simp only [List.length_singleton]; omega
                have hed := ed_rep S A cc hA3
                have HED := Lib.hid hed
                clear hed
                go_upto_region 12 with fail
                go_region
                go_wp2
                go_roundw
                case rel => exact ⟨i + 1, S.extract 0 A ++ strOf [cc] ++ S.extract (A + 1) S.size, by go_num, by omega, rfl, by have := HED.out.2; omega, ed_next HLEV.out HED.out.1, ((HB.out.alloc HB.out.size _).alloc (Nat.le_trans HB.out.size (by simp)) _).drew⟩
                case measure => simp [intOf]; omega
      · obtain rfl : i = m := by omega
        have C1 := fuzzy_ok wr word i (by omega) hm2
        have HB := Lib.hid hb
        clear hb
        go_wp2_with fail
        refine C1.mono ?_
        rintro e w2 ⟨p1, rfl, _, ha1, hb1⟩
        have C2 := fuzzy_ok w2 S i (by omega) hm2
        have HA1 := Lib.hid ha1
        have HB2 := Lib.hid (HB.out.trans (hb1.mono HB.out.size))
        clear C1 ha1 hb1
        go_wp2_with fail
        refine C2.mono ?_
        rintro e w3 ⟨p2, rfl, _, ha2, hb2⟩
        have hA1 := HA1.out.below hb2
        have C3 := accepts_any w3 p1 _ hA1 S (by omega)
        have hacc : accM (fuzzM word.data.toList i) S.data.toList = true := by rw [acc_fz _ _ hm2]; exact decide_eq_true HLEV.out
        rw [hacc] at C3
        have HACC := Lib.hid hacc
        have HA1b := Lib.hid hA1
        have HA2 := Lib.hid ha2
        have HB3 := Lib.hid (HB2.out.trans (hb2.mono HB2.out.size))
        clear C2 ha2 hb2 hA1 hacc
        go_wp2_with fail
        refine C3.mono ?_
        rintro e w4 ⟨rfl, hb3⟩
        have hA2 := HA2.out.below hb3
        have HA1c := Lib.hid (HA1b.out.below hb3)
        have C4 := accepts_any w4 p2 _ hA2 word (by omega)
        rw [show accM (fuzzM S.data.toList i) word.data.toList = true by rw [acc_fz _ _ hm2]; exact decide_eq_true (by rw [lev_symm]; exact HLEV.out)] at C4
        have HB4 := Lib.hid (HB3.out.trans (hb3.mono HB3.out.size))
        clear C3 hA2 hb3
        go_wp2_with fail
        refine C4.mono ?_
        rintro e w5 ⟨rfl, hb4⟩
        have HA1d := Lib.hid (HA1c.out.below hb4)
        have HB5 := Lib.hid (HB4.out.trans (hb4.mono HB4.out.size))
        clear C4 hb4
        go_wp2
        go_loopw [15] (fun s15 wr => ∃ j : Nat, s15 = .int .i64 j ∧ j ≤ S.size + 1 ∧ IsAuto wr p1 (fuzzM word.data.toList i) ∧ Below w.heap.size w wr) (fun s15 _ => S.size + 1 - (intOf s15).toNat)
        case atStart => exact ⟨0, rfl, Nat.zero_le _, HA1d.out, HB5.out⟩
        case round =>
          obtain ⟨j, rfl, hj, ha, hb⟩ := hrel
          by_cases hjl : j ≤ S.size
          · have C5 := alive_any _ p1 _ ha (S.extract 0 j) (by rw [ByteArray.size_extract]; omega)
            have hal : aliveM (fuzzM word.data.toList i) (S.extract 0 j).data.toList = true := by
              have e : (S.extract 0 j).data.toList = (tlb S).take j := by have := tlb_ex S 0 j; rw [List.drop_zero, Nat.sub_zero] at this; exact this
              rw [e]
              refine alive_acc (t := (tlb S).drop j) ?_
              rw [List.take_append_drop]; exact HACC.out
            rw [hal] at C5
            have HA := Lib.hid ha
            have HBB := Lib.hid hb
            clear ha hb hal
            go_wp2_with fail
            refine C5.mono ?_
            rintro e w6 ⟨rfl, hb5⟩
            have HA2 := Lib.hid (HA.out.below hb5)
            have HB6 := Lib.hid (HBB.out.trans (hb5.mono HBB.out.size))
            clear C5 hb5
            go_wp2
            go_roundw
            case rel => exact ⟨j + 1, by go_num, by omega, HA2.out, HB6.out⟩
            case measure => simp [intOf]; omega
          · have HBB := Lib.hid hb
            clear ha hb
            go_wp2
            go_ret
            exact ⟨rfl, HBB.out⟩
end Go.Proofs.YtejmjjgbbojfbaaDoor
