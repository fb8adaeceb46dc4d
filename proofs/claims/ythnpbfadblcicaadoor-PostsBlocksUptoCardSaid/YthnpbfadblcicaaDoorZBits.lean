/- Plain: bit by bit what packN lays whole. -/
import Derived.Test.YthnpbfadblcicaaDoorZG2
namespace Go.Proofs.YthnpbfadblcicaaDoor
set_option linter.unusedVariables false

/-- Behind T bits that make the number M: the whole bytes b, and c, what is left of it. -/
structure Bits (T M : Nat) (b : List UInt8) (h c : Nat) : Prop where
  lt : M < 2 ^ T
  b : b = leB (T / 8) M
  h : h = T % 8
  c : c = M / 256 ^ (T / 8)
theorem pow_split (T : Nat) : 2 ^ T = 256 ^ (T / 8) * 2 ^ (T % 8) := by
  rw [show (256 : Nat) = 2 ^ 8 by rfl, ← Nat.pow_mul, ← Nat.pow_add]; congr 1; omega
theorem bits_zero : Bits 0 0 [] 0 0 := ⟨by decide, rfl, rfl, by simp⟩
theorem Bits.clt {T M : Nat} {b : List UInt8} {h c : Nat} (B : Bits T M b h c) : c < 2 ^ (T % 8) := by
  have := B.lt
  rw [pow_split] at this
  rw [B.c, Nat.div_lt_iff_lt_mul (Nat.pow_pos (by decide))]
  rw [Nat.mul_comm]; exact this
theorem Bits.hlt {T M : Nat} {b : List UInt8} {h c : Nat} (B : Bits T M b h c) : h < 8 := by rw [B.h]; omega
theorem leB_add (k M q : Nat) : leB k (M + q * 256 ^ k) = leB k M := by
  rw [← leB_mod k (M + q * 256 ^ k), Nat.add_mul_mod_self_right, leB_mod]
theorem two_pow_lt (k : Nat) (h : k < 8) : 2 ^ k ≤ 128 := Nat.le_trans (Nat.pow_le_pow_right (by decide) (show k ≤ 7 by omega)) (by decide)
theorem Bits.step {T M : Nat} {b : List UInt8} {h c : Nat} (B : Bits T M b h c) (β : Nat) (hβ : β < 2) :
    c + β * 2 ^ h < 256 ∧ (h < 7 → Bits (T + 1) (M + β * 2 ^ T) b (h + 1) (c + β * 2 ^ h)) ∧ (h = 7 → Bits (T + 1) (M + β * 2 ^ T) (b ++ [UInt8.ofNat (c + β * 2 ^ h)]) 0 0) := by
  have hc := B.clt
  have hh := B.hlt
  have hp := pow_split T
  have hP : 0 < 256 ^ (T / 8) := Nat.pow_pos (by decide)
  have hM' : M + β * 2 ^ T < 2 ^ (T + 1) := by
    have h1 := B.lt
    have h2 : β * 2 ^ T ≤ 1 * 2 ^ T := Nat.mul_le_mul_right _ (by omega)
    rw [Nat.pow_succ]; omega
  have hc' : (M + β * 2 ^ T) / 256 ^ (T / 8) = c + β * 2 ^ h := by
    rw [hp, B.h, B.c, show β * (256 ^ (T / 8) * 2 ^ (T % 8)) = 256 ^ (T / 8) * (β * 2 ^ (T % 8)) by rw [Nat.mul_left_comm], Nat.add_mul_div_left _ _ hP]
  have hlo : c + β * 2 ^ h < 2 * 2 ^ h := by
    rw [← B.h] at hc
    have h2 : β * 2 ^ h ≤ 1 * 2 ^ h := Nat.mul_le_mul_right _ (by omega)
    omega
  have h256 : c + β * 2 ^ h < 256 := by have := two_pow_lt h hh; omega
  have hb' : leB (T / 8) (M + β * 2 ^ T) = b := by
    rw [hp, B.b, show β * (256 ^ (T / 8) * 2 ^ (T % 8)) = (β * 2 ^ (T % 8)) * 256 ^ (T / 8) by rw [Nat.mul_left_comm, Nat.mul_comm], leB_add]
  have hT := B.h
  refine ⟨h256, fun h7 => ⟨hM', ?_, ?_, ?_⟩, fun h7 => ⟨hM', ?_, ?_, ?_⟩⟩
  · rw [show (T + 1) / 8 = T / 8 by omega, hb']
  · omega
  · rw [show (T + 1) / 8 = T / 8 by omega, hc']
  · rw [show (T + 1) / 8 = T / 8 + 1 by omega, leB_succ, hb', hc', Nat.mod_eq_of_lt h256]
  · omega
  · rw [show (T + 1) / 8 = T / 8 + 1 by omega, Nat.pow_succ, ← Nat.div_div_eq_div_mul, hc', Nat.div_eq_of_lt h256]
theorem bit_next (x k Z A : Nat) : A + x % 2 ^ (k + 1) * 2 ^ Z = A + x % 2 ^ k * 2 ^ Z + x / 2 ^ k % 2 * 2 ^ (Z + k) := by
  rw [Nat.mod_pow_succ, Nat.add_mul, Nat.pow_add, Nat.add_assoc]
  congr 2
  rw [Nat.mul_comm (2 ^ k), Nat.mul_assoc, Nat.mul_comm (2 ^ k)]
theorem Bits.done {T M : Nat} {b : List UInt8} {h c : Nat} (B : Bits T M b h c) : (h = 0 → b = leB ((T + 7) / 8) M) ∧ (0 < h → b ++ [UInt8.ofNat c] = leB ((T + 7) / 8) M) := by
  have hT := B.h
  have hc := B.clt
  refine ⟨fun h0 => ?_, fun h0 => ?_⟩
  · rw [show (T + 7) / 8 = T / 8 by omega]; exact B.b
  · have h256 : c < 256 := by have := two_pow_lt (T % 8) (by omega); omega
    rw [show (T + 7) / 8 = T / 8 + 1 by omega, leB_succ, ← B.b, ← B.c, Nat.mod_eq_of_lt h256]
end Go.Proofs.YthnpbfadblcicaaDoor
