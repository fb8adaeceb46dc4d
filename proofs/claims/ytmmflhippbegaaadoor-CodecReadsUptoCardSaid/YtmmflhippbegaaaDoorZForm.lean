/- What a Reader has taken is, written again, just those bytes. -/
import Derived.Test.YtmmflhippbegaaaDoorZG1
import Derived.Test.YtmmflhippbegaaaDoorZWList
import Derived.Test.YtmmflhippbegaaaDoorZPacked
namespace Go.Proofs.YtmmflhippbegaaaDoor
set_option linter.unusedVariables false

theorem take_of {l a t : List UInt8} (h : l = a ++ t) {j : Nat} (hj : a.length = j) : l.take j = a := by rw [h, ← hj]; exact List.take_left
theorem formU {l : List UInt8} {u k : Nat} (h : getU l = .ok (u, k)) : l.take k = uvar u ∧ u < 2 ^ 64 ∧ k = (uvar u).length := by
  obtain ⟨h1, h2, t, h3⟩ := getU_ok h
  exact ⟨take_of h3 h2.symm, h1, h2⟩
def asc : Int → List Int → Prop
  | _, [] => True
  | last, z :: r => last < z ∧ z ≤ 9223372036854775807 ∧ asc z r
theorem asc_mem {last : Int} : ∀ {l : List Int}, asc last l → ∀ z ∈ l, last < z ∧ z ≤ 9223372036854775807
  | [], _, z, hz => by cases hz
  | y :: r, h, z, hz => by
    obtain ⟨h1, h2, h3⟩ := h
    rcases List.mem_cons.1 hz with rfl | hz
    · exact ⟨h1, h2⟩
    · have := asc_mem h3 z hz; omega
theorem asc_rises {last : Int} : ∀ {l : List Int}, asc last l → rises l
  | [], _ => fun i h => by simp at h
  | [y], _ => fun i h => by simp at h
  | y :: x :: r, ⟨_, _, h⟩ => fun i hi => by
    cases i with
    | zero => exact h.1
    | succ i => exact asc_rises h i (by simpa using hi)
theorem getR_form : ∀ (n : Nat) (last : Int) (l : List UInt8) (r : List Int) (j : Nat), -1 ≤ last → getR n last l = .ok (r, j) → l.take j = gapsB last r ∧ (gapsB last r).length = j ∧ r.length = n ∧ asc last r
  | 0, last, l, r, j, _, h => by
    rw [getR] at h; injection h with h; injection h with h1 h2; subst h1 h2
    exact ⟨rfl, rfl, rfl, trivial⟩
  | n + 1, last, l, r, j, hl, h => by
    rw [getR] at h
    cases hg : getU l with
    | error e => rw [hg] at h; cases h
    | ok y =>
      obtain ⟨u, k⟩ := y
      rw [hg] at h
      simp only at h
      split at h
      · cases h
      · next hb =>
        cases hr : getR n (last + u + 1) (l.drop k) with
        | error e => rw [hr] at h; cases h
        | ok y =>
          obtain ⟨r', j'⟩ := y
          rw [hr] at h
          injection h with h; injection h with h1 h2; subst h1 h2
          obtain ⟨e1, e2, e3, e4⟩ := getR_form n (last + u + 1) (l.drop k) r' j' (by omega) hr
          obtain ⟨f1, f2, f3⟩ := formU hg
          have hu : (last + u + 1 - last - 1).toNat = u := by omega
          refine ⟨?_, ?_, by simp [e3], by omega, by omega, e4⟩
          · rw [gapsB, hu, ← e1, ← f1, ← List.take_add]
          · rw [gapsB, hu, List.length_append, e2, f3]
theorem ris_form {most : Int} {l : List UInt8} {r : List Int} {j : Nat} (h : getRis most l = .ok (r, j)) : l.take j = risB r ∧ asc (-1) r := by
  unfold getRis at h
  cases hg : getUpto most l with
  | error e => rw [hg] at h; cases h
  | ok y =>
    obtain ⟨n, k⟩ := y
    rw [hg] at h
    simp only at h
    obtain ⟨hu, _⟩ := getUpto_len hg
    cases hr : getR n (-1) (l.drop k) with
    | error e => rw [hr] at h; cases h
    | ok y =>
      obtain ⟨r', j'⟩ := y
      rw [hr] at h
      injection h with h; injection h with h1 h2; subst h1 h2
      obtain ⟨e1, e2, e3, e4⟩ := getR_form n (-1) _ r' j' (by omega) hr
      obtain ⟨f1, f2, f3⟩ := formU hu
      exact ⟨by rw [risB, e3, ← e1, ← f1, ← List.take_add], e4⟩
theorem asc_neg {l : List Int} (h : asc (-1) l) : anyNeg l = false := by
  rw [anyNeg, List.any_eq_false]
  intro x hx
  have := asc_mem h x hx
  simp; omega
theorem asc_fit {l : List Int} (h : asc (-1) l) : FitL l := fun z hz => by have := asc_mem h z hz; omega
theorem getPB_form {n : Nat} {l : List UInt8} {r : List Nat} {j : Nat} (hn : n ≠ 0) (h : getPB n l = .ok (r, j)) :
    l.take j = packB r ∧ r.length = n ∧ (∀ x ∈ r, x < 2 ^ 63) ∧ ((0 < r.length ∧ widL r = 0 ∧ r.length ≤ 65536) ∨ (0 < r.length ∧ 0 < widL r)) := by
  cases l with
  | nil => cases h
  | cons x rr =>
    rw [getPB] at h
    obtain ⟨m, hm⟩ : ∃ m, x.toNat = m := ⟨_, rfl⟩
    rw [hm] at h
    split at h
    · cases h
    · next h1 =>
      split at h
      · cases h
      · next h2 =>
        split at h
        · next h3 =>
          injection h with h; injection h with e1 e2; subst e1 e2
          obtain ⟨S, hS⟩ : ∃ S, (n * m + 7) / 8 = S := ⟨_, rfl⟩
          rw [hS] at h3 ⊢
          obtain ⟨N, hN⟩ : ∃ N, leN (rr.take S) = N := ⟨_, rfl⟩
          rw [hN] at h3 ⊢
          have hSl : S ≤ rr.length := by
            rcases Nat.eq_zero_or_pos m with e | e
            · subst e; omega
            · rw [← hS]; exact packed_size e (fun h4 => h2 ⟨e, h4⟩)
          have hm63 : m ≤ 63 := by omega
          have hlen := unpack_length m n N
          have hNlt : N < 2 ^ (m * n) := by
            have h4 := h3.2
            rw [Nat.mul_comm n m] at h4
            rcases Nat.lt_or_ge N (2 ^ (m * n)) with h5 | h5
            · exact h5
            · have := Nat.div_pos h5 (Nat.two_pow_pos (m * n)); omega
          refine ⟨?_, hlen, fun y hy => Nat.lt_of_lt_of_le (unpack_lt m n N y hy) (Nat.pow_le_pow_right (by decide) hm63), ?_⟩
          · rw [packB, h3.1, hlen, hS, show packN m (unpack m n N) = N from packN_of m n N hNlt, ← hN]
            have e5 : (rr.take S).length = S := by rw [List.length_take]; omega
            have e6 : leB S (leN (rr.take S)) = rr.take S := by
              have := leB_leN (rr.take S); rwa [e5] at this
            rw [e6, Nat.add_comm, List.take_succ_cons, ← hm]
            simp
          · rw [hlen, h3.1]
            rcases Nat.eq_zero_or_pos m with e | e
            · left; exact ⟨by omega, e, by omega⟩
            · right; exact ⟨by omega, e⟩
        · cases h
theorem pk_form {most : Int} {l : List UInt8} {r : List Nat} {j : Nat} (h : getPk most l = .ok (r, j)) :
    l.take j = pckB r ∧ (∀ x ∈ r, x < 2 ^ 63) ∧ (r = [] ∨ (0 < r.length ∧ widL r = 0 ∧ r.length ≤ 65536) ∨ (0 < r.length ∧ 0 < widL r)) := by
  unfold getPk at h
  cases hg : getUpto most l with
  | error e => rw [hg] at h; cases h
  | ok y =>
    obtain ⟨n, k⟩ := y
    rw [hg] at h
    simp only at h
    obtain ⟨hu, _⟩ := getUpto_len hg
    obtain ⟨f1, f2, f3⟩ := formU hu
    split at h
    · next h0 =>
      injection h with h; injection h with e1 e2; subst e1 e2
      exact ⟨by rw [f1, h0]; simp [pckB], (fun x hx => by cases hx), .inl rfl⟩
    · next h0 =>
      cases hr : getPB n (l.drop k) with
      | error e => rw [hr] at h; cases h
      | ok y =>
        obtain ⟨r', j'⟩ := y
        rw [hr] at h
        injection h with h; injection h with e1 e2; subst e1 e2
        obtain ⟨g1, g2, g3, g4⟩ := getPB_form h0 hr
        have hne : r' ≠ [] := fun e => by rw [e] at g2; simp at g2; omega
        exact ⟨by rw [pckB, if_neg hne, g2, ← g1, ← f1, ← List.take_add], g3, .inr g4⟩
theorem w_form {c : Nat} {l : List UInt8} {x j : Nat} (h : getW c l = .ok (x, j)) : l.take j = leB c x ∧ x < 256 ^ c := by
  unfold getW at h
  split at h
  · cases h
  · next h1 =>
    injection h with h; injection h with e1 e2; subst e1 e2
    have e5 : (l.take c).length = c := by rw [List.length_take]; omega
    have e6 := leB_leN (l.take c)
    have e7 := leN_lt (l.take c)
    rw [e5] at e6 e7
    exact ⟨e6.symm, e7⟩
theorem raw_form {n : Int} {l x : List UInt8} {j : Nat} (h : getRaw n l = .ok (x, j)) : l.take j = x := by
  unfold getRaw at h
  split at h
  · cases h
  · split at h
    · cases h
    · injection h with h; injection h with e1 e2; subst e1 e2; rfl
theorem text_form {most : Int} {l x : List UInt8} {j : Nat} (h : getText most l = .ok (x, j)) : l.take j = uvar x.length ++ x := by
  unfold getText at h
  cases hg : getUpto most l with
  | error e => rw [hg] at h; cases h
  | ok y =>
    obtain ⟨n, k⟩ := y
    rw [hg] at h
    simp only at h
    obtain ⟨hu, _⟩ := getUpto_len hg
    obtain ⟨f1, f2, f3⟩ := formU hu
    split at h
    · cases h
    · next h1 =>
      injection h with h; injection h with e1 e2; subst e1 e2
      rw [List.take_add, f1, List.length_take, Nat.min_eq_left (by omega)]
end Go.Proofs.YtmmflhippbegaaaDoor
