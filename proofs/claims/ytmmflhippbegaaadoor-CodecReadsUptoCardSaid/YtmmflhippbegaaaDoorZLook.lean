/- What a Reader tells, as plain data: a number, a text, a list, the place, the error's number. -/
import Derived.Test.YtmmflhippbegaaaDoorZG6
namespace Go.Proofs.YtmmflhippbegaaaDoor
set_option linter.unusedVariables false
structure Lk where
  u : Int
  s : List UInt8
  l : List Int
  next : Nat
  e : Nat
def lkN (f : Nat → Int) (k : Nat) : Except Nat (Nat × Nat) → Lk
  | .error n => ⟨0, [], [], k, n⟩
  | .ok (x, j) => ⟨f x, [], [], k + j, 0⟩
def lkS (k : Nat) : Except Nat (List UInt8 × Nat) → Lk
  | .error n => ⟨0, [], [], k, n⟩
  | .ok (x, j) => ⟨0, x, [], k + j, 0⟩
def lkL (k : Nat) : Except Nat (List Int × Nat) → Lk
  | .error n => ⟨0, [], [], k, n⟩
  | .ok (x, j) => ⟨0, [], x, k + j, 0⟩
def looks (kd n : Int) (L : List UInt8) (k : Nat) : Lk :=
  if kd = 1 then lkN (fun x => x) k (getB L)
  else if kd = 2 then lkN (fun x => x) k (getU L)
  else if kd = 3 then lkN (fun x => IntKind.u64.wrap (zagI x)) k (getU L)
  else if kd = 10 then lkN (fun x => x) k (getUpto n L)
  else if kd = 4 then lkN (fun x => x) k (getW 4 L)
  else if kd = 5 then lkN (fun x => x) k (getW 8 L)
  else if kd = 6 then lkS k (getRaw n L)
  else if kd = 7 then lkS k (getText n L)
  else if kd = 8 then lkL k (getRis n L)
  else if kd = 9 then lkL k (toI (getPk n L))
  else ⟨0, [], [], k, 0⟩
/-- The errors that reading answers. -/
def ErrN (n : Nat) : Prop := n = 1 ∨ n = 2 ∨ n = 3 ∨ n = 4 ∨ n = 8
theorem getB_err {L : List UInt8} {n : Nat} (h : getB L = .error n) : ErrN n := by
  unfold getB at h; cases L with
  | nil => simp at h; exact .inl h.symm
  | cons x r => simp at h
theorem getU_errN {L : List UInt8} {n : Nat} (h : getU L = .error n) : ErrN n := by have := getU_err h; unfold ErrN; omega
theorem getUpto_err {m : Int} {L : List UInt8} {n : Nat} (h : getUpto m L = .error n) : ErrN n := by
  unfold getUpto at h
  split at h
  · next e => injection h with h; subst h; exact getU_errN e
  · split at h
    · injection h with h; unfold ErrN; omega
    · cases h
theorem getW_err {c : Nat} {L : List UInt8} {n : Nat} (h : getW c L = .error n) : ErrN n := by
  unfold getW at h
  split at h
  · injection h with h; unfold ErrN; omega
  · cases h
theorem getRaw_err {m : Int} {L : List UInt8} {n : Nat} (h : getRaw m L = .error n) : ErrN n := by
  unfold getRaw at h
  split at h
  · injection h with h; unfold ErrN; omega
  · split at h
    · injection h with h; unfold ErrN; omega
    · cases h
theorem getText_err {m : Int} {L : List UInt8} {n : Nat} (h : getText m L = .error n) : ErrN n := by
  unfold getText at h
  split at h
  · next e => injection h with h; subst h; exact getUpto_err e
  · split at h
    · injection h with h; unfold ErrN; omega
    · cases h
theorem getR_err : ∀ (m : Nat) (last : Int) (L : List UInt8) (n : Nat), getR m last L = .error n → ErrN n
  | 0, _, _, _, h => by simp [getR] at h
  | m + 1, last, L, n, h => by
    rw [getR] at h
    split at h
    · next e => injection h with h; subst h; exact getU_errN e
    · split at h
      · injection h with h; unfold ErrN; omega
      · split at h
        · next e => injection h with h; subst h; exact getR_err m _ _ _ e
        · cases h
theorem getRis_err {m : Int} {L : List UInt8} {n : Nat} (h : getRis m L = .error n) : ErrN n := by
  unfold getRis at h
  split at h
  · next e => injection h with h; subst h; exact getUpto_err e
  · split at h
    · next e => injection h with h; subst h; exact getR_err _ _ _ _ e
    · cases h
theorem getPB_err {m : Nat} {L : List UInt8} {n : Nat} (h : getPB m L = .error n) : ErrN n := by
  cases L with
  | nil => simp [getPB] at h; unfold ErrN; omega
  | cons x r =>
    rw [getPB] at h
    split at h
    · injection h with h; unfold ErrN; omega
    · split at h
      · injection h with h; unfold ErrN; omega
      · split at h
        · cases h
        · injection h with h; unfold ErrN; omega
theorem getPk_err {m : Int} {L : List UInt8} {n : Nat} (h : toI (getPk m L) = .error n) : ErrN n := by
  unfold getPk at h
  split at h
  · next e => simp only [toI] at h; injection h with h; subst h; exact getUpto_err e
  · split at h
    · simp [toI] at h
    · split at h
      · next e => simp only [toI] at h; injection h with h; subst h; exact getPB_err e
      · simp [toI] at h
/-- How long what is read is. -/
theorem getR_len : ∀ (m : Nat) (last : Int) (L : List UInt8) (r : List Int) (j : Nat), getR m last L = .ok (r, j) → r.length ≤ j ∧ j ≤ L.length
  | 0, _, _, _, _, h => by simp [getR] at h; obtain ⟨rfl, rfl⟩ := h; simp
  | m + 1, last, L, r, j, h => by
    rw [getR] at h
    split at h
    · cases h
    · next u k e =>
      split at h
      · cases h
      · split at h
        · cases h
        · next r' j' e' =>
          injection h with h
          injection h with h1 h2
          have := getR_len m _ _ _ _ e'
          have h3 := getU_len e
          rw [List.length_drop] at this
          rw [← h1, ← h2]; simp; omega
theorem getRis_len {m : Int} {L : List UInt8} {r : List Int} {j : Nat} (h : getRis m L = .ok (r, j)) : r.length ≤ L.length ∧ j ≤ L.length := by
  unfold getRis at h
  split at h
  · cases h
  · next n k e =>
    split at h
    · cases h
    · next r' j' e' =>
      injection h with h
      injection h with h1 h2
      have := getR_len _ _ _ _ _ e'
      have h3 := getU_len (getUpto_len e).1
      rw [List.length_drop] at this
      subst h1; omega
theorem getPB_len {m : Nat} {L : List UInt8} {r : List Nat} {j : Nat} (h : getPB m L = .ok (r, j)) : r.length ≤ 8 * L.length + 65536 ∧ j ≤ L.length := by
  cases L with
  | nil => simp [getPB] at h
  | cons x t =>
    rw [getPB] at h
    split at h
    · cases h
    · next hlim =>
      split at h
      · cases h
      · next hfit =>
        split at h
        · injection h with h
          injection h with h1 h2
          rw [← h1, ← h2, unpack_length, List.length_cons]
          rcases Nat.eq_zero_or_pos x.toNat with hz | hp
          · rw [hz]; omega
          · have h3 : ¬ t.length * 8 / x.toNat < m := fun h => hfit ⟨hp, h⟩
            have h4 := packed_size hp h3
            have h5 : t.length * 8 / x.toNat ≤ t.length * 8 := Nat.div_le_self _ _
            omega
        · cases h
theorem getPk_len {m : Int} {L : List UInt8} {r : List Int} {j : Nat} (h : toI (getPk m L) = .ok (r, j)) : r.length ≤ 8 * L.length + 65536 ∧ j ≤ L.length := by
  unfold getPk at h
  split at h
  · simp [toI] at h
  · next n k e =>
    have h3 := getU_len (getUpto_len e).1
    split at h
    · simp [toI, natI] at h
      obtain ⟨rfl, rfl⟩ := h
      simp; omega
    · split at h
      · simp [toI] at h
      · next r' j' e' =>
        have := getPB_len e'
        rw [List.length_drop] at this
        simp only [toI] at h
        injection h with h
        injection h with h1 h2
        subst h1 h2
        simp [natI]; omega
theorem getText_len {m : Int} {L : List UInt8} {r : List UInt8} {j : Nat} (h : getText m L = .ok (r, j)) : j ≤ L.length := by
  unfold getText at h
  split at h
  · cases h
  · next n k e =>
    split at h
    · cases h
    · injection h with h
      injection h with h1 h2
      have h3 := getU_len (getUpto_len e).1
      rename_i hh
      rw [List.length_drop] at hh
      omega
theorem getRaw_len {m : Int} {L : List UInt8} {r : List UInt8} {j : Nat} (h : getRaw m L = .ok (r, j)) : r.length ≤ L.length ∧ j ≤ L.length := by
  unfold getRaw at h
  split at h
  · cases h
  · split at h
    · cases h
    · injection h with h
      injection h with h1 h2
      subst h1 h2
      rw [List.length_take]; omega
theorem getB_len {L : List UInt8} {x j : Nat} (h : getB L = .ok (x, j)) : j ≤ L.length ∧ x < 256 := by
  cases L with
  | nil => simp [getB] at h
  | cons y r => simp [getB] at h; have := y.toNat_lt; simp; omega
theorem getW_len {c : Nat} {L : List UInt8} {x j : Nat} (h : getW c L = .ok (x, j)) : j ≤ L.length ∧ x < 256 ^ c := by
  unfold getW at h
  split at h
  · cases h
  · injection h with h
    injection h with h1 h2
    have h3 := leN_lt (L.take c)
    rw [List.length_take, Nat.min_eq_left (by omega)] at h3
    subst h1; omega
theorem lkN_next {f : Nat → Int} {k : Nat} {r : Except Nat (Nat × Nat)} {B : Nat} (h : ∀ x j, r = .ok (x, j) → k + j ≤ B) (hk : k ≤ B) : (lkN f k r).next ≤ B := by
  cases r with
  | error n => exact hk
  | ok y => exact h y.1 y.2 rfl
theorem looks_next (kd n : Int) (bs : List UInt8) (k : Nat) (hk : k ≤ bs.length) : (looks kd n (bs.drop k) k).next ≤ bs.length := by
  have hd : ∀ j, j ≤ (bs.drop k).length → k + j ≤ bs.length := fun j h => by rw [List.length_drop] at h; omega
  unfold looks
  split
  · exact lkN_next (fun x j h => hd j (getB_len h).1) hk
  split
  · exact lkN_next (fun x j h => hd j (getU_len h).1) hk
  split
  · exact lkN_next (fun x j h => hd j (getU_len h).1) hk
  split
  · exact lkN_next (fun x j h => hd j (getU_len (getUpto_len h).1).1) hk
  split
  · exact lkN_next (fun x j h => hd j (getW_len h).1) hk
  split
  · exact lkN_next (fun x j h => hd j (getW_len h).1) hk
  split
  · cases h : getRaw n (bs.drop k) with
    | error e => exact hk
    | ok y => exact hd _ (getRaw_len h).2
  split
  · cases h : getText n (bs.drop k) with
    | error e => exact hk
    | ok y => exact hd _ (getText_len h)
  split
  · cases h : getRis n (bs.drop k) with
    | error e => exact hk
    | ok y => exact hd _ (getRis_len h).2
  split
  · cases h : toI (getPk n (bs.drop k)) with
    | error e => exact hk
    | ok y => exact hd _ (getPk_len h).2
  · exact hk
theorem looks_err (kd n : Int) (L : List UInt8) (k : Nat) : (looks kd n L k).e = 0 ∨ ErrN (looks kd n L k).e := by
  have hN : ∀ (f : Nat → Int) (r : Except Nat (Nat × Nat)), (∀ n, r = .error n → ErrN n) → (lkN f k r).e = 0 ∨ ErrN (lkN f k r).e := fun f r h => by
    cases r with
    | error n => exact .inr (h n rfl)
    | ok y => exact .inl rfl
  unfold looks
  split
  · exact hN _ _ (fun n h => getB_err h)
  split
  · exact hN _ _ (fun n h => getU_errN h)
  split
  · exact hN _ _ (fun n h => getU_errN h)
  split
  · exact hN _ _ (fun n h => getUpto_err h)
  split
  · exact hN _ _ (fun n h => getW_err h)
  split
  · exact hN _ _ (fun n h => getW_err h)
  split
  · cases h : getRaw n L with
    | error e => exact .inr (getRaw_err h)
    | ok y => exact .inl rfl
  split
  · cases h : getText n L with
    | error e => exact .inr (getText_err h)
    | ok y => exact .inl rfl
  split
  · cases h : getRis n L with
    | error e => exact .inr (getRis_err h)
    | ok y => exact .inl rfl
  split
  · cases h : toI (getPk n L) with
    | error e => exact .inr (getPk_err h)
    | ok y => exact .inl rfl
  · exact .inl rfl
end Go.Proofs.YtmmflhippbegaaaDoor
