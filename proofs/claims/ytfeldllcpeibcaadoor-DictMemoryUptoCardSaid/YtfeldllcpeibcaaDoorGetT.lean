/- A text and a number, read from the front. No program occurs here. -/
import Derived.Test.YtfeldllcpeibcaaDoorRdP
namespace Go.Proofs.YtfeldllcpeibcaaDoor
set_option linter.unusedVariables false

theorem takeq_of {l a t : List UInt8} (h : l = a ++ t) {j : Nat} (hj : a.length = j) : l.take j = a := by rw [h, ← hj]; exact List.take_left
theorem rawq_form {n : Int} {l x : List UInt8} {j : Nat} (h : getRaw n l = .ok (x, j)) : l.take j = x := by
  unfold getRaw at h
  split at h
  · cases h
  · split at h
    · cases h
    · injection h with h; injection h with e1 e2; subst e1 e2; rfl
theorem formUq {l : List UInt8} {u k : Nat} (h : getU l = .ok (u, k)) : l.take k = uvar u ∧ u < 2 ^ 64 ∧ k = (uvar u).length := by
  obtain ⟨h1, h2, t, h3⟩ := getU_ok h
  exact ⟨takeq_of h3 h2.symm, h1, h2⟩
theorem textq_form {most : Int} {l x : List UInt8} {j : Nat} (h : getText most l = .ok (x, j)) : l.take j = uvar x.length ++ x := by
  unfold getText at h
  cases hg : getUpto most l with
  | error e => rw [hg] at h; cases h
  | ok y =>
    obtain ⟨n, k⟩ := y
    rw [hg] at h
    simp only at h
    obtain ⟨hu, _⟩ := getUpto_len hg
    obtain ⟨f1, f2, f3⟩ := formUq hu
    split at h
    · cases h
    · next h1 =>
      injection h with h; injection h with e1 e2; subst e1 e2
      rw [List.take_add, f1, List.length_take, Nat.min_eq_left (by omega)]
theorem gq_upto (most : Int) (n : Nat) (h : n < 2 ^ 64) (hm : (n : Int) ≤ most) (t : List UInt8) : getUpto most (uvar n ++ t) = .ok (n, (uvar n).length) := by
  unfold getUpto; rw [getU_uvar n h t]; simp only; rw [if_neg (by omega)]
end Go.Proofs.YtfeldllcpeibcaaDoor
