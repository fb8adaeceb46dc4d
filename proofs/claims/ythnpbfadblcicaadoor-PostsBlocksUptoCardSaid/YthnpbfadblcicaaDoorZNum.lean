/- The walks of the functions on single numbers: Zig, Zag, UvarintLen, bits.Len64, and the document's Zig, Zag, Uvarint, Varint. -/
import Derived.Test.YthnpbfadblcicaaDoorZLib
import Derived.Test.YthnpbfadblcicaaDoorProg
import Derived.Test.YthnpbfadblcicaaDoorZEl
namespace Go.Proofs.YthnpbfadblcicaaDoor
open Go.ChangeShapes Go.WideShapes Go.ChangeAt Go.RowKit

def zigI (v : Int) : Int := if 0 ≤ v then 2 * v else -2 * v - 1
theorem zigI_bd (v : Int) (h0 : -9223372036854775808 ≤ v) (h1 : v ≤ 9223372036854775807) : 0 ≤ zigI v ∧ zigI v ≤ 18446744073709551615 := by
  unfold zigI; split <;> omega
def zagI (u : Int) : Int := if u % 2 = 0 then u / 2 else -(u / 2) - 1
theorem zagI_bd (u : Int) (h0 : 0 ≤ u) (h1 : u ≤ 18446744073709551615) : -9223372036854775808 ≤ zagI u ∧ zagI u ≤ 9223372036854775807 := by
  unfold zagI; split <;> omega
theorem zag_zig (v : Int) : zagI (zigI v) = v := by
  unfold zagI zigI; split <;> split <;> omega
theorem zig_zag (u : Int) (h0 : 0 ≤ u) : zigI (zagI u) = u := by
  unfold zagI zigI; split <;> split <;> omega

theorem zig_bits (v : Int) (h0 : -9223372036854775808 ≤ v) (h1 : v ≤ 9223372036854775807) :
    bits .xor .u64 (IntKind.u64.wrap (IntKind.u64.wrap v * 2)) (IntKind.u64.wrap (v / 9223372036854775808)) = zigI v := by
  simp only [IntKind.wrap_u64]
  by_cases h : 0 ≤ v
  · rw [show v / 9223372036854775808 % 18446744073709551616 = 0 by omega, show v % 18446744073709551616 * 2 % 18446744073709551616 = 2 * v by omega, xor_zero _ (by omega) (by omega)]
    unfold zigI; rw [if_pos h]
  · rw [show v / 9223372036854775808 % 18446744073709551616 = 18446744073709551615 by omega, xor_ones _ (by omega) (by omega)]
    unfold zigI; rw [if_neg h]; omega
theorem zag_bits (v : Int) (h0 : 0 ≤ v) (h1 : v ≤ 18446744073709551615) :
    bits .xor .i64 (v / 2) (wrap64 (-wrap64 (bits .and .u64 v 1))) = zagI v := by
  unfold zagI
  rw [u64_and v 1 h0 (by omega) (by omega) (by omega), show (1 : Int).toNat = 1 from rfl, nat_mask1]
  obtain ⟨q, hq⟩ : ∃ q : BitVec 64, q = BitVec.ofInt 64 (v / 2) := ⟨_, rfl⟩
  have hq' : q.toNat = (v / 2).toNat := by rw [hq]; simp [BitVec.toNat_ofInt]; omega
  by_cases h : v % 2 = 0
  · rw [show ((v.toNat % 2 : Nat) : Int) = 0 by omega, if_pos h, xor_i64, ← hq, show wrap64 (-wrap64 0) = 0 by simp only [wrap64]; decide, show BitVec.ofInt 64 0 = 0#64 by decide, BitVec.xor_zero, wrap_i64_nat _ q.isLt, if_pos (by omega), hq']
    omega
  · rw [show ((v.toNat % 2 : Nat) : Int) = 1 by omega, if_neg h, xor_i64, ← hq, show wrap64 (-wrap64 1) = -1 by simp only [wrap64]; decide, show BitVec.ofInt 64 (-1) = BitVec.allOnes 64 by decide, BitVec.xor_allOnes, wrap_i64_nat _ (~~~q).isLt, BitVec.toNat_not, hq', if_neg (by omega)]
    omega

theorem len8_get (j : Nat) (hj : j < Lib.len8tab.size) : (Lib.len8tab[j]).toNat = Lib.bitLen j := by
  have h256 : j < 256 := by rw [Lib.len8tab_size] at hj; exact hj
  have h := Lib.len8_of (j : Int) (by omega) (by omega)
  unfold Lib.len8 at h
  rw [show ((j : Int)).toNat = j from rfl, getElem?_pos Lib.len8tab j hj] at h
  simp only [Option.getD_some] at h
  exact Int.ofNat.inj h
theorem len_close (s x j : Nat) (hj : j < Lib.len8tab.size) (e : j = x / 2 ^ s) (hb : 2 ^ s ≤ x) (hx : x < 2 ^ 64) (k : Int) (hk : k = s) (hs : s ≤ 56) :
    wrap64 (k + wrap64 ((Lib.len8tab[j]).toNat : Int)) = (Lib.bitLen x : Int) := by
  have h256 : j < 256 := by rw [Lib.len8tab_size] at hj; exact hj
  have l : Lib.bitLen j ≤ 8 := Lib.bitLen_le8 ⟨j, h256⟩
  rw [len8_get j hj, IntWalk.wrap64_in ((Lib.bitLen j : Nat) : Int) ⟨by omega, by omega⟩, IntWalk.wrap64_in _ ⟨by omega, by omega⟩, Lib.bitLen_shift s x hb hx, ← e]
  omega
theorem len_close0 (x j : Nat) (hj : j < Lib.len8tab.size) (e : j = x) :
    wrap64 (wrap64 ((Lib.len8tab[j]).toNat : Int)) = (Lib.bitLen x : Int) := by
  subst e
  have h256 : j < 256 := by rw [Lib.len8tab_size] at hj; exact hj
  have l : Lib.bitLen j ≤ 8 := Lib.bitLen_le8 ⟨j, h256⟩
  rw [len8_get j hj, IntWalk.wrap64_in ((Lib.bitLen j : Nat) : Int) ⟨by omega, by omega⟩, IntWalk.wrap64_in _ ⟨by omega, by omega⟩]
set_option maxHeartbeats 4000000 in
set_option maxRecDepth 100000 in
theorem len64_any (x : Int) (w : World) (h0 : 0 ≤ x) (h1 : x ≤ 18446744073709551615) :
    Calls Tryd.prog 76 #[.int .u64 x] w fun e w' => e = .returned (.int .i64 (Lib.bitLen x.toNat)) ∧ w = w' := by
  have hs : (256 : Int) ≤ (Lib.len8tab.size : Int) := by rw [Lib.len8tab_size]; decide
  go_enter Tryd.func76, Tryd.ntmps76
  go_wp2
  all_goals go_ret
  all_goals refine ⟨ret_int ?_, rfl⟩
  · exact len_close 56 x.toNat _ _ (by omega) (by omega) (by omega) _ (by omega) (by omega)
  · exact len_close 48 x.toNat _ _ (by omega) (by omega) (by omega) _ (by omega) (by omega)
  · exact len_close 40 x.toNat _ _ (by omega) (by omega) (by omega) _ (by omega) (by omega)
  · exact len_close 32 x.toNat _ _ (by omega) (by omega) (by omega) _ (by omega) (by omega)
  · exact len_close 24 x.toNat _ _ (by omega) (by omega) (by omega) _ (by omega) (by omega)
  · exact len_close 16 x.toNat _ _ (by omega) (by omega) (by omega) _ (by omega) (by omega)
  · exact len_close 8 x.toNat _ _ (by omega) (by omega) (by omega) _ (by omega) (by omega)
  · exact len_close0 x.toNat _ _ rfl
set_option maxRecDepth 100000 in
theorem ruvar_any (n : Nat) (w : World) (hn : (n : Int) ≤ 18446744073709551615) :
    Calls Tryd.prog 71 #[.int .u64 n] w fun e w' => ∃ v, e = .returned v ∧ Own w' w.heap.size 5 v (bytesV (uvar n)) ∧ Below w.heap.size w w' := by
  have hN : (uvar n).length ≤ 10 := (uvar_le n (by omega)).2
  go_enter Tryd.func71, Tryd.ntmps71
  go_wp2
  go_loopw [0, 3] (fun u b wr => ∃ (m : Nat) (acc : List UInt8), (m : Int) ≤ 18446744073709551615 ∧ u = .int .u64 m ∧ Own wr w.heap.size 5 b (bytesV acc) ∧ acc ++ uvar m = uvar n ∧ Below w.heap.size w wr) (fun u _ _ => (intOf u).toNat)
  case atStart => 
    exact ⟨n, [], hn, rfl, own_empty _ _ _ (Nat.le_refl _), rfl, (Below.refl _ _).alloc (Nat.le_refl _) _⟩
  case round =>
    obtain ⟨m, acc, hm, rfl, hown, hacc, hb⟩ := hrel
    have hl : acc.length + 1 ≤ 10 := by 
      have h1 := congrArg List.length hacc
      have := (uvar_le m (by omega)).1
      simp at h1; omega
    have HA := Lib.hid hacc; clear hacc
    have hb0 := hb.size
    have hl' : (bytesV acc).length < 1000000000000 := by rw [bytesV_length]; omega
    by_cases h128 : 128 ≤ (m : Int)
    · go_wp2_with (at_builtin; with_reducible refine ap1 elBytes rfl hown hl' hb0 rfl _ _ rfl rfl rfl ?_)
      intro v' w1 hown1 hg1
      go_wp2
      go_roundw
      case rel => 
        refine ⟨m / 128, acc ++ [UInt8.ofNat (128 + m % 128)], by omega, by go_num, by rw [bytesV_snoc]; exact own_last hown1 (by rw [u8_ofNat]; omega), ?_, hb.grown hg1 hb0 (fun k hk => (hown.lt k hk).1)⟩
        rw [← HA.out, uvar_big (n := m) (by omega)]; simp
      case measure => simp [intOf]; omega
    · go_wp2_with (at_builtin; with_reducible refine ap1 elBytes rfl hown hl' hb0 rfl _ _ rfl rfl rfl ?_)
      intro v' w1 hown1 hg1
      go_wp2
      go_ret
      refine ⟨_, rfl, ?_, hb.grown hg1 hb0 (fun k hk => (hown.lt k hk).1)⟩
      rw [← HA.out, uvar_small (n := m) (by omega), bytesV_snoc]; exact own_last hown1 (by rw [u8_ofNat]; omega)
end Go.Proofs.YthnpbfadblcicaaDoor
