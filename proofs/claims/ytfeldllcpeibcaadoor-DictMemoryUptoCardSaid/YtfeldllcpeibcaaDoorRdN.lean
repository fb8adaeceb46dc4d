/- Uvarints read from the front of a list of bytes. No program occurs here. -/
import Derived.Test.YtfeldllcpeibcaaDoorLib
namespace Go.Proofs.YtfeldllcpeibcaaDoor

/-- The uvarint at the front: its value and how many bytes it has, or the error's number (1: too short, 2: no uvarint); i bytes are read, of value v. -/
def rdU : Nat → Nat → List UInt8 → Except Nat (Nat × Nat)
  | _, _, [] => .error 1
  | i, v, x :: r =>
    if i = 9 ∧ 1 < x.toNat then .error 2
    else if 128 ≤ x.toNat then rdU (i + 1) (v + x.toNat % 128 * 2 ^ (7 * i)) r
    else if x.toNat = 0 ∧ 0 < i then .error 2
    else .ok (v + x.toNat % 128 * 2 ^ (7 * i), i + 1)
def getU (l : List UInt8) : Except Nat (Nat × Nat) := rdU 0 0 l

theorem ofNat_toNat (n : Nat) (h : n < 256) : (UInt8.ofNat n).toNat = n := by simp; omega
theorem rdU_uvar (t : List UInt8) : ∀ (n i v : Nat), i ≤ 9 → (i = 0 ∨ 0 < n) → n * 2 ^ (7 * i) < 2 ^ 64 → rdU i v (uvar n ++ t) = .ok (v + n * 2 ^ (7 * i), i + (uvar n).length) := by
  intro n
  induction n using Nat.strongRecOn with
  | _ n ih =>
    intro i v hi h0 hn
    have h9 : i = 9 → n < 2 := fun e => by subst e; omega
    by_cases h : n < 128
    · rw [uvar_small h, List.cons_append, List.nil_append, rdU, ofNat_toNat n (by omega), if_neg (by omega), if_neg (by omega), if_neg (by omega), Nat.mod_eq_of_lt h]; rfl
    · have hi8 : i ≤ 8 := by
        rcases Nat.lt_or_ge i 9 with h2 | h2
        · omega
        · have := h9 (by omega); omega
      have e2 : 2 ^ (7 * (i + 1)) = 2 ^ (7 * i) * 128 := by rw [show 7 * (i + 1) = 7 * i + 7 by omega, Nat.pow_add]
      have e3 : n / 128 * 2 ^ (7 * (i + 1)) + n % 128 * 2 ^ (7 * i) = n * 2 ^ (7 * i) := by
        rw [e2, Nat.mul_comm (2 ^ (7 * i)) 128, ← Nat.mul_assoc, ← Nat.add_mul]
        congr 1; omega
      rw [uvar_big h, List.cons_append, rdU, ofNat_toNat _ (by omega), if_neg (by omega), if_pos (by omega), ih (n / 128) (by omega) (i + 1) _ (by omega) (by omega) (by omega), show (128 + n % 128) % 128 = n % 128 by omega, List.length_cons]
      congr 2
      · omega
      · omega
theorem getU_uvar (n : Nat) (h : n < 2 ^ 64) (t : List UInt8) : getU (uvar n ++ t) = .ok (n, (uvar n).length) := by
  have := rdU_uvar t n 0 0 (by omega) (.inl rfl) (by simpa using h)
  unfold getU; rw [this]; simp
theorem uvar_ne (n : Nat) : uvar n ≠ [] := by rw [uvar]; split <;> simp
theorem rdU_cut : ∀ (n i v k : Nat), n * 2 ^ (7 * i) < 2 ^ 64 → k < (uvar n).length → rdU i v ((uvar n).take k) = .error 1 := by
  intro n
  induction n using Nat.strongRecOn with
  | _ n ih =>
    intro i v k hn hk
    cases k with
    | zero => rfl
    | succ k =>
      have h : ¬ n < 128 := fun h => by rw [uvar_small h] at hk; simp at hk
      have hi8 : i ≤ 8 := by
        rcases Nat.lt_or_ge i 9 with h2 | h2
        · omega
        · have h3 : 2 ^ 63 ≤ 2 ^ (7 * i) := Nat.pow_le_pow_right (by decide) (by omega)
          have h4 : 2 * 2 ^ 63 ≤ n * 2 ^ (7 * i) := Nat.mul_le_mul (by omega) h3
          omega
      have e2 : 2 ^ (7 * (i + 1)) = 2 ^ (7 * i) * 128 := by rw [show 7 * (i + 1) = 7 * i + 7 by omega, Nat.pow_add]
      have e3 : n / 128 * 2 ^ (7 * (i + 1)) ≤ n * 2 ^ (7 * i) := by
        rw [e2, Nat.mul_comm (2 ^ (7 * i)) 128, ← Nat.mul_assoc]
        exact Nat.mul_le_mul_right _ (by omega)
      rw [uvar_big h] at hk ⊢
      rw [List.take_succ_cons, rdU, ofNat_toNat _ (by omega), if_neg (by omega), if_pos (by omega)]
      exact ih (n / 128) (by omega) (i + 1) _ k (by omega) (by simpa using hk)
theorem getU_cut (n k : Nat) (h : n < 2 ^ 64) (hk : k < (uvar n).length) : getU ((uvar n).take k) = .error 1 := rdU_cut n 0 0 k (by simpa using h) hk
/-- What is read was written so. -/
theorem rdU_ok : ∀ (l : List UInt8) (i v u k : Nat), i ≤ 9 → rdU i v l = .ok (u, k) → ∃ n, u = v + n * 2 ^ (7 * i) ∧ n * 2 ^ (7 * i) < 2 ^ 64 ∧ (i = 0 ∨ 0 < n) ∧ k = i + (uvar n).length ∧ ∃ t, l = uvar n ++ t
  | [], _, _, _, _, _, h => by simp [rdU] at h
  | x :: r, i, v, u, k, hi, h => by
    have hx := x.toNat_lt
    rw [rdU] at h
    split at h
    · cases h
    · next h9 =>
      split at h
      · next h128 =>
        have hi8 : i ≤ 8 := by
          rcases Nat.lt_or_ge i 9 with h2 | h2
          · omega
          · exfalso; apply h9; omega
        obtain ⟨m, e1, e2, e3, e4, t, e5⟩ := rdU_ok r (i + 1) _ u k (by omega) h
        have p2 : 2 ^ (7 * (i + 1)) = 2 ^ (7 * i) * 128 := by rw [show 7 * (i + 1) = 7 * i + 7 by omega, Nat.pow_add]
        have hm : 0 < m := by omega
        have hb : ¬ (x.toNat % 128 + 128 * m < 128) := by omega
        have hdiv : (x.toNat % 128 + 128 * m) / 128 = m := by omega
        have hmod : (x.toNat % 128 + 128 * m) % 128 = x.toNat % 128 := by omega
        have e6 : (x.toNat % 128 + 128 * m) * 2 ^ (7 * i) = x.toNat % 128 * 2 ^ (7 * i) + m * 2 ^ (7 * (i + 1)) := by
          rw [p2, Nat.add_mul, Nat.mul_comm (2 ^ (7 * i)) 128, ← Nat.mul_assoc, Nat.mul_comm 128 m]
        have e7 : 2 ^ (7 * (i + 1)) ≤ 2 ^ 63 := Nat.pow_le_pow_right (by decide) (by omega)
        have e8 : (x.toNat % 128 + 128 * m) * 2 ^ (7 * i) < 2 ^ 64 := by
          -- m * P < 2^64 with P a power of two, a multiple of 128 * 2^(7i): so m * P + (P - 1) < 2^64
          have hd : 2 ^ (7 * (i + 1)) * 2 ^ (64 - 7 * (i + 1)) = 2 ^ 64 := by rw [← Nat.pow_add]; congr 1; omega
          have hm2 : m < 2 ^ (64 - 7 * (i + 1)) := by
            apply Nat.lt_of_mul_lt_mul_right (a := 2 ^ (7 * (i + 1)))
            rw [Nat.mul_comm (2 ^ (64 - 7 * (i + 1)))]; omega
          have hm3 : (m + 1) * 2 ^ (7 * (i + 1)) ≤ 2 ^ (64 - 7 * (i + 1)) * 2 ^ (7 * (i + 1)) := Nat.mul_le_mul_right _ hm2
          rw [Nat.mul_comm (2 ^ (64 - 7 * (i + 1))), hd, Nat.add_mul, Nat.one_mul] at hm3
          have hx2 : x.toNat % 128 * 2 ^ (7 * i) < 2 ^ (7 * (i + 1)) := by
            rw [p2, Nat.mul_comm]; exact Nat.mul_lt_mul_of_pos_left (Nat.mod_lt _ (by decide)) (Nat.two_pow_pos _)
          omega
        refine ⟨x.toNat % 128 + 128 * m, ?_, e8, .inr (by omega), ?_, t, ?_⟩
        · rw [e1, e6]; omega
        · rw [uvar_big hb, hdiv, List.length_cons, e4]; omega
        · rw [uvar_big hb, hdiv, hmod, e5, List.cons_append, show 128 + x.toNat % 128 = x.toNat by omega]
          simp
      · next h128 =>
        split at h
        · cases h
        · next h0 =>
          have hlt : x.toNat < 128 := by omega
          injection h with h
          injection h with h1 h2
          have hp : x.toNat * 2 ^ (7 * i) < 2 ^ 64 := by
            rcases Nat.lt_or_ge i 9 with h3 | h3
            · have : 2 ^ (7 * i) ≤ 2 ^ 56 := Nat.pow_le_pow_right (by decide) (by omega)
              have := Nat.mul_le_mul (show x.toNat ≤ 127 by omega) this
              omega
            · have e9 : i = 9 := by omega
              have hx1 : x.toNat ≤ 1 := by
                rcases Nat.lt_or_ge 1 x.toNat with h4 | h4
                · exfalso; exact h9 ⟨e9, h4⟩
                · exact h4
              subst e9
              have := Nat.mul_le_mul_right (2 ^ (7 * 9)) hx1
              omega
          refine ⟨x.toNat, by rw [← h1, Nat.mod_eq_of_lt hlt], hp, by omega, by rw [uvar_small hlt, ← h2]; rfl, r, by rw [uvar_small hlt]; simp⟩
theorem getU_ok {l : List UInt8} {u k : Nat} (h : getU l = .ok (u, k)) : u < 2 ^ 64 ∧ k = (uvar u).length ∧ ∃ t, l = uvar u ++ t := by
  obtain ⟨n, h1, h2, _, h3, t, h4⟩ := rdU_ok l 0 0 u k (by omega) h
  have e : u = n := by rw [h1]; simp
  subst e
  exact ⟨by simpa using h2, by omega, t, h4⟩
theorem rdU_err : ∀ (l : List UInt8) (i v n : Nat), rdU i v l = .error n → n = 1 ∨ n = 2
  | [], _, _, _, h => by simp [rdU] at h; omega
  | x :: r, i, v, n, h => by
    rw [rdU] at h
    split at h
    · injection h with h; omega
    · split at h
      · exact rdU_err r _ _ _ h
      · split at h
        · injection h with h; omega
        · cases h
theorem getU_err {l : List UInt8} {n : Nat} (h : getU l = .error n) : n = 1 ∨ n = 2 := rdU_err l 0 0 n h
theorem getU_len {l : List UInt8} {u k : Nat} (h : getU l = .ok (u, k)) : k ≤ l.length ∧ 1 ≤ k ∧ k ≤ 10 := by
  obtain ⟨h1, h2, t, h3⟩ := getU_ok h
  have := uvar_le u h1
  rw [h3, List.length_append]; omega
theorem getU_drop {l : List UInt8} {u k : Nat} (h : getU l = .ok (u, k)) : l = uvar u ++ l.drop k := by
  obtain ⟨h1, h2, t, h3⟩ := getU_ok h
  rw [h2]
  conv => rhs; rw [h3, List.drop_left]
  exact h3
end Go.Proofs.YtfeldllcpeibcaaDoor
