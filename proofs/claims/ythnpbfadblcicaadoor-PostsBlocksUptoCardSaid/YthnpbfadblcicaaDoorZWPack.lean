/- codec.Writer: Byte; bits.Len; put. -/
import Derived.Test.YthnpbfadblcicaaDoorZWriter
import Derived.Test.YthnpbfadblcicaaDoorZNum
import Derived.Test.YthnpbfadblcicaaDoorZApp
import Derived.Test.YthnpbfadblcicaaDoorZG2
import Derived.RegionTactic
import Derived.ChangeAlike
import Derived.BigRegion
import Derived.Outline
namespace Go.Proofs.YthnpbfadblcicaaDoor
set_option linter.unusedVariables false
open Go.ChangeShapes Go.WideShapes Go.ChangeAt Go.RowKit

theorem len_any (x : Int) (w : World) (h0 : 0 ≤ x) (h1 : x ≤ 18446744073709551615) :
    Calls Tryd.prog 67 #[.int .u64 x] w fun e w' => e = .returned (.int .i64 (Lib.bitLen x.toNat)) ∧ w = w' := by
  go_enter Tryd.func67, Tryd.ntmps67
  go_wp2_with fail
  refine (len64_any _ _ h0 h1).mono ?_
  rintro e w' ⟨rfl, rfl⟩
  go_wp2
  go_ret
  exact ⟨rfl, rfl⟩

theorem wbyte_any (w : World) (base p : Nat) (v : Value) (bs : List UInt8) (h : Wr w base p v bs) (hb : base ≤ w.heap.size) (hl : bs.length ≤ 100000000000) (x : UInt8) :
    Calls Tryd.prog 68 #[.pointer (some ⟨p, 0, none⟩), .int .u8 x.toNat] w fun e w' => e = .returned (.tuple #[]) ∧ ∃ v', Wr w' base p v' (bs ++ [x]) ∧ Wrote w w' p v v' := by
  have hl' : (bytesV bs).length < 1000000000000 := by rw [bytesV_length]; omega
  have hc := h.read
  have hown := h.own
  obtain ⟨av, nv, cv, rfl⟩ := own_sl hown
  go_enter Tryd.func68, Tryd.ntmps68
  go_wp2_with (at_builtin; with_reducible refine ap1' elBytes rfl hown hl' hb rfl _ _ rfl rfl rfl ?_)
  intro v1 w1 g1 g2 g3 g4
  obtain ⟨hc1, hf1⟩ := wr_cell h g4
  obtain ⟨a1, n1, c1, rfl⟩ := own_sl g1
  rw [← bytesV_snoc] at g1
  obtain ⟨hw2, hwr2⟩ := wr_app h g1 (g3.imp id (fun h => ⟨_, h.1, by omega⟩)) g4
  go_wp2
  go_end0
  exact ⟨rfl, _, hw2, hwr2⟩

theorem wrap64_mod (y : Int) : wrap64 y % 256 = y % 256 := by simp only [wrap64]; omega
theorem natMod256 (a : Nat) : (a : Int) % 256 = ((a % 256 : Nat) : Int) := by omega
theorem u8_val (n : Nat) (h : n < 256) : (((UInt8.ofNat n).toNat : Nat) : Int) = (n : Int) := by rw [u8_ofNat]; omega
/-- Byte j of the number M. -/
def byN (M j : Nat) : Nat := M / 256 ^ j % 256
theorem byN_lt (M j : Nat) : byN M j < 256 := Nat.mod_lt _ (by decide)

set_option maxRecDepth 100000 in
set_option maxHeartbeats 1000000 in
theorem wput_any (w : World) (base g c : Nat) (pre cs : List UInt8) (L C at_ wd x F S : Nat) (hF : pre.length = F) (hS : cs.length = S) (hown : Own w base 5 (.slice (some ⟨g, 0, none⟩) L C) (bytesV (pre ++ cs))) (hM : leN cs < 2 ^ at_) (hx : x < 2 ^ wd) (hw63 : wd ≤ 63) (hsz : at_ + wd ≤ 8 * cs.length) (hlen : pre.length + cs.length ≤ 100000000000) :
    Calls Tryd.prog 69 #[.slice (some ⟨g, F, none⟩) S c, .int .i64 at_, .int .i64 wd, .int .i64 x] w fun e w' => e = .returned (.tuple #[]) ∧ Own w' base 5 (.slice (some ⟨g, 0, none⟩) L C) (bytesV (pre ++ leB cs.length (leN cs + x * 2 ^ at_))) ∧ Eff (· = g) w w' := by
  subst hF hS
  have hM0 := Lib.hid hM
  clear hM
  go_enter Tryd.func69, Tryd.ntmps69
  go_wp2
  go_loopw [8] (fun s wr => ∃ d : Nat, s = .int .i64 d ∧ d ≤ 71 ∧ Own wr base 5 (.slice (some ⟨g, 0, none⟩) L C) (bytesV (pre ++ leB cs.length (leN cs + x % 2 ^ d * 2 ^ at_))) ∧ Eff (· = g) w wr) (fun s _ => 71 - (intOf s).toNat)
  case atStart => exact ⟨0, rfl, by omega, by simpa [Nat.mod_one, leB_leN] using hown, Eff.refl _ _⟩
  case round =>
    obtain ⟨d, rfl, hd, ho, he⟩ := hrel
    obtain ⟨j, k, hk, hjk⟩ : ∃ j k : Nat, k < 8 ∧ at_ + d = 8 * j + k := ⟨(at_ + d) / 8, (at_ + d) % 8, by omega, by omega⟩
    by_cases hlt : d < wd
    · have hj : j < cs.length := by omega
      have hget : (bytesV (pre ++ leB cs.length (leN cs + x % 2 ^ d * 2 ^ at_)))[pre.length + j]? = some (.int .u8 ((UInt8.ofNat ((leN cs + x % 2 ^ d * 2 ^ at_) / 256 ^ j % 256)).toNat : Nat)) := by
        unfold bytesV
        rw [List.getElem?_map, List.getElem?_append_right (by omega), Nat.add_sub_cancel_left, leB_get _ _ _ hj]; rfl
      have hc := ho.get hget
      have hfz := ho.frozen (pre.length + j)
      obtain ⟨m, hm⟩ : ∃ m, (leN cs + x % 2 ^ d * 2 ^ at_) / 256 ^ j % 256 = m := ⟨_, rfl⟩
      have hm2 : m < 256 := by rw [← hm]; exact Nat.mod_lt _ (by decide)
      rw [hm] at hc
      rw [show ((UInt8.ofNat m).toNat : Nat) = m by simp; omega] at hc
      have HM := Lib.hid hm
      have hset := ho.set (pre.length + j) (.int .u8 ((m ||| (x / 2 ^ d * 2 ^ k % 256) : Nat) : Int))
      have HS := Lib.hid hset
      have he2 := he.setCell (p := ⟨g, pre.length + j, none⟩) (fun _ => rfl) (.int .u8 ((m ||| (x / 2 ^ d * 2 ^ k % 256) : Nat) : Int))
      have q1 : ((at_ : Int) + d) % 8 = k := by omega
      have q2 : ((at_ : Int) + d) / 8 = j := by omega
      clear hget hm hset
      go_wp2
      go_region
      go_wp2
      go_roundw
      case rel =>
        have e1 : ((x : Int) / 2 ^ d * 2 ^ k) = ((x / 2 ^ d * 2 ^ k : Nat) : Int) := by simp
        have e2 : bits .or .u8 (m : Int) (wrap64 ((x : Int) / 2 ^ d * 2 ^ k) % 256) = ((m ||| (x / 2 ^ d * 2 ^ k % 256) : Nat) : Int) := by
          rw [e1, wrap64_mod, natMod256, u8_or_nat _ _ hm2 (Nat.mod_lt _ (by decide))]
        rw [e2]
        refine ⟨d + (8 - k), by go_num, by omega, ?_, he2.drew⟩
        have hM2 := put_step (leN cs) x at_ d k j hM0.out hjk hk
        rw [hM2, leB_or _ _ _ _ (Nat.mod_lt _ (by decide)) hj, HM.out]
        refine Own.drew (own_to HS.out ?_)
        unfold bytesV
        rw [List.map_append, List.map_append, List.set_append, if_neg (by simp), List.length_map, Nat.add_sub_cancel_left, List.map_set]
        congr 3
        have h8 : (m ||| (x / 2 ^ d * 2 ^ k % 256)) < 2 ^ 8 := Nat.or_lt_two_pow hm2 (Nat.mod_lt _ (by decide))
        exact (u8_val _ h8).symm
      case measure => simp [intOf]; omega
    · have hxd : x % 2 ^ d = x := Nat.mod_eq_of_lt (Nat.lt_of_lt_of_le hx (Nat.pow_le_pow_right (by decide) (by omega)))
      rw [hxd] at ho
      clear hxd
      go_wp2
      go_end0
      exact ⟨rfl, ho, he⟩
/-- Of a number of no bits nothing is laid. -/
theorem wput_none (w : World) (v : Value) (at_ wd x : Nat) (h : wd ≤ 0) :
    Calls Tryd.prog 69 #[v, .int .i64 at_, .int .i64 wd, .int .i64 x] w fun e w' => e = .returned (.tuple #[]) ∧ w = w' := by
  go_enter Tryd.func69, Tryd.ntmps69
  go_wp2
  go_loopw [8] (fun s wr => s = .int .i64 0 ∧ w = wr) (fun s _ => 0)
  case atStart => exact ⟨rfl, rfl⟩
  case round =>
    obtain ⟨rfl, rfl⟩ := hrel
    go_wp2
    go_end0
    exact ⟨rfl, rfl⟩
end Go.Proofs.YthnpbfadblcicaaDoor
