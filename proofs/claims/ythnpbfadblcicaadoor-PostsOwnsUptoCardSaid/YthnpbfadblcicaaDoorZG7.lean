/- Merged: Form, GetPut. -/
import Derived.Test.YthnpbfadblcicaaDoorZG5
import Derived.Test.YthnpbfadblcicaaDoorZG1
import Derived.Test.YthnpbfadblcicaaDoorZPacked
/- What a Reader has taken is, written again, just those bytes. -/
namespace Go.Proofs.YthnpbfadblcicaaDoor
set_option linter.unusedVariables false

theorem take_of {l a t : List UInt8} (h : l = a ++ t) {j : Nat} (hj : a.length = j) : l.take j = a := by rw [h, ← hj]; exact List.take_left
theorem formU {l : List UInt8} {u k : Nat} (h : getU l = .ok (u, k)) : l.take k = uvar u ∧ u < 2 ^ 64 ∧ k = (uvar u).length := by
  obtain ⟨h1, h2, t, h3⟩ := getU_ok h
  exact ⟨take_of h3 h2.symm, h1, h2⟩
def asc : Int → List Int → Prop
  | _, [] => True
  | last, z :: r => last < z ∧ z ≤ 9223372036854775807 ∧ asc z r
theorem asc_mem {last : Int} : ∀ {l : List Int}, asc last l → ∀ z ∈ l, last < z ∧ z ≤ 9223372036854775807
  | [], _, z, hz => by cases hz
  | y :: r, h, z, hz => by
    obtain ⟨h1, h2, h3⟩ := h
    rcases List.mem_cons.1 hz with rfl | hz
    · exact ⟨h1, h2⟩
    · have := asc_mem h3 z hz; omega
theorem asc_rises {last : Int} : ∀ {l : List Int}, asc last l → rises l
  | [], _ => fun i h => by simp at h
  | [y], _ => fun i h => by simp at h
  | y :: x :: r, ⟨_, _, h⟩ => fun i hi => by
    cases i with
    | zero => exact h.1
    | succ i => exact asc_rises h i (by simpa using hi)
theorem getR_form : ∀ (n : Nat) (last : Int) (l : List UInt8) (r : List Int) (j : Nat), -1 ≤ last → getR n last l = .ok (r, j) → l.take j = gapsB last r ∧ (gapsB last r).length = j ∧ r.length = n ∧ asc last r
  | 0, last, l, r, j, _, h => by
    rw [getR] at h; injection h with h; injection h with h1 h2; subst h1 h2
    exact ⟨rfl, rfl, rfl, trivial⟩
  | n + 1, last, l, r, j, hl, h => by
    rw [getR] at h
    cases hg : getU l with
    | error e => rw [hg] at h; cases h
    | ok y =>
      obtain ⟨u, k⟩ := y
      rw [hg] at h
      simp only at h
      split at h
      · cases h
      · next hb =>
        cases hr : getR n (last + u + 1) (l.drop k) with
        | error e => rw [hr] at h; cases h
        | ok y =>
          obtain ⟨r', j'⟩ := y
          rw [hr] at h
          injection h with h; injection h with h1 h2; subst h1 h2
          obtain ⟨e1, e2, e3, e4⟩ := getR_form n (last + u + 1) (l.drop k) r' j' (by omega) hr
          obtain ⟨f1, f2, f3⟩ := formU hg
          have hu : (last + u + 1 - last - 1).toNat = u := by omega
          refine ⟨?_, ?_, by simp [e3], by omega, by omega, e4⟩
          · rw [gapsB, hu, ← e1, ← f1, ← List.take_add]
          · rw [gapsB, hu, List.length_append, e2, f3]
theorem ris_form {most : Int} {l : List UInt8} {r : List Int} {j : Nat} (h : getRis most l = .ok (r, j)) : l.take j = risB r ∧ asc (-1) r := by
  unfold getRis at h
  cases hg : getUpto most l with
  | error e => rw [hg] at h; cases h
  | ok y =>
    obtain ⟨n, k⟩ := y
    rw [hg] at h
    simp only at h
    obtain ⟨hu, _⟩ := getUpto_len hg
    cases hr : getR n (-1) (l.drop k) with
    | error e => rw [hr] at h; cases h
    | ok y =>
      obtain ⟨r', j'⟩ := y
      rw [hr] at h
      injection h with h; injection h with h1 h2; subst h1 h2
      obtain ⟨e1, e2, e3, e4⟩ := getR_form n (-1) _ r' j' (by omega) hr
      obtain ⟨f1, f2, f3⟩ := formU hu
      exact ⟨by rw [risB, e3, ← e1, ← f1, ← List.take_add], e4⟩
theorem asc_neg {l : List Int} (h : asc (-1) l) : anyNeg l = false := by
  rw [anyNeg, List.any_eq_false]
  intro x hx
  have := asc_mem h x hx
  simp; omega
theorem asc_fit {l : List Int} (h : asc (-1) l) : FitL l := fun z hz => by have := asc_mem h z hz; omega
theorem getPB_form {n : Nat} {l : List UInt8} {r : List Nat} {j : Nat} (hn : n ≠ 0) (h : getPB n l = .ok (r, j)) :
    l.take j = packB r ∧ r.length = n ∧ (∀ x ∈ r, x < 2 ^ 63) ∧ ((0 < r.length ∧ widL r = 0 ∧ r.length ≤ 65536) ∨ (0 < r.length ∧ 0 < widL r)) := by
  cases l with
  | nil => cases h
  | cons x rr =>
    rw [getPB] at h
    obtain ⟨m, hm⟩ : ∃ m, x.toNat = m := ⟨_, rfl⟩
    rw [hm] at h
    split at h
    · cases h
    · next h1 =>
      split at h
      · cases h
      · next h2 =>
        split at h
        · next h3 =>
          injection h with h; injection h with e1 e2; subst e1 e2
          obtain ⟨S, hS⟩ : ∃ S, (n * m + 7) / 8 = S := ⟨_, rfl⟩
          rw [hS] at h3 ⊢
          obtain ⟨N, hN⟩ : ∃ N, leN (rr.take S) = N := ⟨_, rfl⟩
          rw [hN] at h3 ⊢
          have hSl : S ≤ rr.length := by
            rcases Nat.eq_zero_or_pos m with e | e
            · subst e; omega
            · rw [← hS]; exact packed_size e (fun h4 => h2 ⟨e, h4⟩)
          have hm63 : m ≤ 63 := by omega
          have hlen := unpack_length m n N
          have hNlt : N < 2 ^ (m * n) := by
            have h4 := h3.2
            rw [Nat.mul_comm n m] at h4
            rcases Nat.lt_or_ge N (2 ^ (m * n)) with h5 | h5
            · exact h5
            · have := Nat.div_pos h5 (Nat.two_pow_pos (m * n)); omega
          refine ⟨?_, hlen, fun y hy => Nat.lt_of_lt_of_le (unpack_lt m n N y hy) (Nat.pow_le_pow_right (by decide) hm63), ?_⟩
          · rw [packB, h3.1, hlen, hS, show packN m (unpack m n N) = N from packN_of m n N hNlt, ← hN]
            have e5 : (rr.take S).length = S := by rw [List.length_take]; omega
            have e6 : leB S (leN (rr.take S)) = rr.take S := by
              have := leB_leN (rr.take S); rwa [e5] at this
            rw [e6, Nat.add_comm, List.take_succ_cons, ← hm]
            simp
          · rw [hlen, h3.1]
            rcases Nat.eq_zero_or_pos m with e | e
            · left; exact ⟨by omega, e, by omega⟩
            · right; exact ⟨by omega, e⟩
        · cases h
theorem pk_form {most : Int} {l : List UInt8} {r : List Nat} {j : Nat} (h : getPk most l = .ok (r, j)) :
    l.take j = pckB r ∧ (∀ x ∈ r, x < 2 ^ 63) ∧ (r = [] ∨ (0 < r.length ∧ widL r = 0 ∧ r.length ≤ 65536) ∨ (0 < r.length ∧ 0 < widL r)) := by
  unfold getPk at h
  cases hg : getUpto most l with
  | error e => rw [hg] at h; cases h
  | ok y =>
    obtain ⟨n, k⟩ := y
    rw [hg] at h
    simp only at h
    obtain ⟨hu, _⟩ := getUpto_len hg
    obtain ⟨f1, f2, f3⟩ := formU hu
    split at h
    · next h0 =>
      injection h with h; injection h with e1 e2; subst e1 e2
      exact ⟨by rw [f1, h0]; simp [pckB], (fun x hx => by cases hx), .inl rfl⟩
    · next h0 =>
      cases hr : getPB n (l.drop k) with
      | error e => rw [hr] at h; cases h
      | ok y =>
        obtain ⟨r', j'⟩ := y
        rw [hr] at h
        injection h with h; injection h with e1 e2; subst e1 e2
        obtain ⟨g1, g2, g3, g4⟩ := getPB_form h0 hr
        have hne : r' ≠ [] := fun e => by rw [e] at g2; simp at g2; omega
        exact ⟨by rw [pckB, if_neg hne, g2, ← g1, ← f1, ← List.take_add], g3, .inr g4⟩
theorem w_form {c : Nat} {l : List UInt8} {x j : Nat} (h : getW c l = .ok (x, j)) : l.take j = leB c x ∧ x < 256 ^ c := by
  unfold getW at h
  split at h
  · cases h
  · next h1 =>
    injection h with h; injection h with e1 e2; subst e1 e2
    have e5 : (l.take c).length = c := by rw [List.length_take]; omega
    have e6 := leB_leN (l.take c)
    have e7 := leN_lt (l.take c)
    rw [e5] at e6 e7
    exact ⟨e6.symm, e7⟩
theorem raw_form {n : Int} {l x : List UInt8} {j : Nat} (h : getRaw n l = .ok (x, j)) : l.take j = x := by
  unfold getRaw at h
  split at h
  · cases h
  · split at h
    · cases h
    · injection h with h; injection h with e1 e2; subst e1 e2; rfl
theorem text_form {most : Int} {l x : List UInt8} {j : Nat} (h : getText most l = .ok (x, j)) : l.take j = uvar x.length ++ x := by
  unfold getText at h
  cases hg : getUpto most l with
  | error e => rw [hg] at h; cases h
  | ok y =>
    obtain ⟨n, k⟩ := y
    rw [hg] at h
    simp only at h
    obtain ⟨hu, _⟩ := getUpto_len hg
    obtain ⟨f1, f2, f3⟩ := formU hu
    split at h
    · cases h
    · next h1 =>
      injection h with h; injection h with e1 e2; subst e1 e2
      rw [List.take_add, f1, List.length_take, Nat.min_eq_left (by omega)]
end Go.Proofs.YthnpbfadblcicaaDoor

/- What is put is read again, whatever stands behind it; cut ahead of its end it is too short. No program occurs here. -/
namespace Go.Proofs.YthnpbfadblcicaaDoor
set_option linter.unusedVariables false

theorem gp_upto (most : Int) (n : Nat) (h : n < 2 ^ 64) (hm : (n : Int) ≤ most) (t : List UInt8) : getUpto most (uvar n ++ t) = .ok (n, (uvar n).length) := by
  unfold getUpto; rw [getU_uvar n h t]; simp only; rw [if_neg (by omega)]
theorem gp_upto_lim (most : Int) (n : Nat) (h : n < 2 ^ 64) (hm : most < (n : Int)) (t : List UInt8) : getUpto most (uvar n ++ t) = .error 3 := by
  unfold getUpto; rw [getU_uvar n h t]; simp only; rw [if_pos (by omega)]
theorem gc_upto (most : Int) (n k : Nat) (h : n < 2 ^ 64) (hk : k < (uvar n).length) : getUpto most ((uvar n).take k) = .error 1 := by
  unfold getUpto; rw [getU_cut n k h hk]
theorem gp_w (c n : Nat) (hn : n < 256 ^ c) (t : List UInt8) : getW c (leB c n ++ t) = .ok (n, c) := by
  have h1 := leB_length c n
  unfold getW
  rw [if_neg (by rw [List.length_append]; omega), take_of rfl h1, leN_leB, Nat.mod_eq_of_lt hn]
theorem gc_w (c n k : Nat) (hk : k < c) : getW c ((leB c n).take k) = .error 1 := by
  have h1 := leB_length c n
  unfold getW
  rw [if_pos (by rw [List.length_take]; omega)]
theorem gp_raw (cs t : List UInt8) : getRaw cs.length (cs ++ t) = .ok (cs, cs.length) := by
  unfold getRaw
  rw [if_neg (by omega), if_neg (by rw [List.length_append]; omega), Int.toNat_natCast, take_of rfl rfl]
theorem gc_raw (cs : List UInt8) (k : Nat) (hk : k < cs.length) : getRaw cs.length (cs.take k) = .error 1 := by
  unfold getRaw
  rw [if_neg (by omega), if_pos (by rw [List.length_take]; omega)]
theorem gp_text (cs t : List UInt8) (h : cs.length < 2 ^ 64) : getText cs.length ((uvar cs.length ++ cs) ++ t) = .ok (cs, (uvar cs.length ++ cs).length) := by
  unfold getText
  rw [List.append_assoc, gp_upto _ _ h (Int.le_refl _)]
  simp only [List.drop_left]
  rw [if_neg (by rw [List.length_append]; omega), take_of rfl rfl, List.length_append]
theorem take_app {a b : List UInt8} {k : Nat} (h : ¬ k < a.length) : (a ++ b).take k = a ++ b.take (k - a.length) := by
  rw [List.take_append, List.take_of_length_le (by omega)]
theorem take_app_lt {a b : List UInt8} {k : Nat} (h : k < a.length) : (a ++ b).take k = a.take k := by
  rw [List.take_append, show k - a.length = 0 by omega, List.take_zero, List.append_nil]
theorem gc_text (cs : List UInt8) (k : Nat) (h : cs.length < 2 ^ 64) (hk : k < (uvar cs.length ++ cs).length) : getText cs.length ((uvar cs.length ++ cs).take k) = .error 1 := by
  rw [List.length_append] at hk
  unfold getText
  by_cases h1 : k < (uvar cs.length).length
  · rw [take_app_lt h1, gc_upto _ _ _ h h1]
  · rw [take_app h1, gp_upto _ _ h (Int.le_refl _)]
    simp only [List.drop_left]
    rw [if_pos (by rw [List.length_take]; omega)]
theorem gp_r : ∀ (l : List Int) (last : Int) (t : List UInt8), -1 ≤ last → asc last l → getR l.length last (gapsB last l ++ t) = .ok (l, (gapsB last l).length)
  | [], _, _, _, _ => rfl
  | z :: r, last, t, hl, ⟨h1, h2, h3⟩ => by
    rw [List.length_cons, getR, gapsB, List.append_assoc, getU_uvar _ (by omega)]
    simp only
    rw [if_neg (by omega), List.drop_left, show last + ((z - last - 1).toNat : Nat) + 1 = z by omega, gp_r r z t (by omega) h3]
    simp only [List.length_append]
theorem gc_r : ∀ (l : List Int) (last : Int) (k : Nat), -1 ≤ last → asc last l → k < (gapsB last l).length → getR l.length last ((gapsB last l).take k) = .error 1
  | [], _, _, _, _, hk => by simp [gapsB] at hk
  | z :: r, last, k, hl, ⟨h1, h2, h3⟩, hk => by
    rw [gapsB, List.length_append] at hk
    rw [List.length_cons, getR, gapsB]
    by_cases h4 : k < (uvar (z - last - 1).toNat).length
    · rw [take_app_lt h4, getU_cut _ _ (by omega) h4]
    · rw [take_app h4, getU_uvar _ (by omega)]
      simp only
      rw [if_neg (by omega), List.drop_left, show last + ((z - last - 1).toNat : Nat) + 1 = z by omega, gc_r r z _ (by omega) h3 (by omega)]
theorem asc_of : ∀ {l : List Int} {last : Int}, (∀ z ∈ l.head?, last < z) → rises l → FitL l → asc last l
  | [], _, _, _, _ => trivial
  | z :: r, last, h0, hr, hf => by
    refine ⟨h0 z rfl, (hf z List.mem_cons_self).2, asc_of ?_ (fun i h => ?_) (fun y hy => hf y (List.mem_cons_of_mem _ hy))⟩
    · cases r with
      | nil => intro y hy; cases hy
      | cons y r => intro x hx; obtain rfl : y = x := by simpa using hx
                    exact hr 0 (by simp)
    · have := hr (i + 1) (by simpa using h)
      simpa using this
theorem asc_neg1 {l : List Int} (hn : anyNeg l = false) (hr : rises l) (hf : FitL l) : asc (-1) l := asc_of (fun z hz => by
  have := List.any_eq_false.1 hn z (List.mem_of_head? hz)
  simp at this; omega) hr hf
theorem gp_ris {l : List Int} (hn : anyNeg l = false) (hr : rises l) (hf : FitL l) (hl : l.length < 2 ^ 63) (t : List UInt8) : getRis l.length (risB l ++ t) = .ok (l, (risB l).length) := by
  unfold getRis risB
  rw [List.append_assoc, gp_upto _ _ (by omega) (Int.le_refl _)]
  simp only [List.drop_left]
  rw [gp_r l (-1) t (by omega) (asc_neg1 hn hr hf)]
  simp only [List.length_append]
theorem gc_ris {l : List Int} (hn : anyNeg l = false) (hr : rises l) (hf : FitL l) (hl : l.length < 2 ^ 63) (k : Nat) (hk : k < (risB l).length) : getRis l.length ((risB l).take k) = .error 1 := by
  unfold getRis
  unfold risB at hk ⊢
  rw [List.length_append] at hk
  by_cases h1 : k < (uvar l.length).length
  · rw [take_app_lt h1, gc_upto _ _ _ (by omega) h1]
  · rw [take_app h1, gp_upto _ _ (by omega) (Int.le_refl _)]
    simp only [List.drop_left]
    rw [gc_r l (-1) _ (by omega) (asc_neg1 hn hr hf) (by omega)]
theorem unpack_pack (w : Nat) (l : List Nat) (hl : ∀ x ∈ l, x < 2 ^ w) : unpack w l.length (packN w l) = l := by
  apply List.ext_getElem (unpack_length _ _ _)
  intro i h1 h2
  simp only [unpack, List.getElem_map, List.getElem_range]
  exact packN_get w l i h2 hl
theorem gp_pb {l : List Nat} (h0 : l ≠ []) (hf : ∀ x ∈ l, x < 2 ^ 63) (hz : widL l = 0 → l.length ≤ 65536) (t : List UInt8) : getPB l.length (packB l ++ t) = .ok (l, (packB l).length) := by
  have hw := widL_63 hf
  have hx : (UInt8.ofNat (widL l)).toNat = widL l := ofNat_toNat _ (by omega)
  have hfit := widL_fits (l := l) (fun x hx => Nat.lt_trans (hf x hx) (by decide))
  have hN := packN_lt (widL l) l hfit
  have hun := unpack_pack (widL l) l hfit
  unfold packB
  rw [List.cons_append, getPB, hx]
  obtain ⟨W, hW⟩ : ∃ W, widL l = W := ⟨_, rfl⟩
  simp only [hW] at hw hz hfit hN hun ⊢
  obtain ⟨S, hS⟩ : ∃ S, (l.length * W + 7) / 8 = S := ⟨_, rfl⟩
  rw [hS]
  have hlen := leB_length S (packN W l)
  have hS8 : l.length * W ≤ 8 * S := by omega
  have hN2 : packN W l < 256 ^ S := Nat.lt_of_lt_of_le hN (by rw [show (256 : Nat) = 2 ^ 8 by rfl, ← Nat.pow_mul]; exact Nat.pow_le_pow_right (by decide) (by rw [Nat.mul_comm W]; exact hS8))
  rw [take_of rfl hlen, leN_leB, Nat.mod_eq_of_lt hN2, hun, hW]
  rw [if_neg (by intro h; rcases h with h | ⟨h, h2⟩; omega; have := hz h; omega), if_neg, if_pos ⟨rfl, Nat.div_eq_of_lt (by rw [Nat.mul_comm]; exact hN)⟩]
  · rw [List.length_cons, hlen, Nat.add_comm]
  · rintro ⟨h1, h2⟩
    have : l.length ≤ (leB S (packN W l) ++ t).length * 8 / W := by
      rw [Nat.le_div_iff_mul_le h1, List.length_append, hlen]
      omega
    omega
theorem gc_pb {l : List Nat} (h0 : l ≠ []) (hf : ∀ x ∈ l, x < 2 ^ 63) (hz : widL l = 0 → l.length ≤ 65536) (k : Nat) (hk : k < (packB l).length) : getPB l.length ((packB l).take k) = .error 1 := by
  have hw := widL_63 hf
  have hx : (UInt8.ofNat (widL l)).toNat = widL l := ofNat_toNat _ (by omega)
  unfold packB at hk ⊢
  cases k with
  | zero => rfl
  | succ k =>
    rw [List.take_succ_cons, getPB, hx]
    rw [List.length_cons, leB_length] at hk
    obtain ⟨W, hW⟩ : ∃ W, widL l = W := ⟨_, rfl⟩
    simp only [hW] at hw hz hk ⊢
    rw [if_neg (by intro h; rcases h with h | ⟨h, h2⟩; omega; have := hz h; omega), if_pos]
    obtain ⟨S, hS⟩ : ∃ S, (l.length * W + 7) / 8 = S := ⟨_, rfl⟩
    rw [hS] at hk ⊢
    have hW0 : 0 < W := by
      rcases Nat.eq_zero_or_pos W with e | e
      · subst e; omega
      · exact e
    refine ⟨hW0, ?_⟩
    rw [Nat.div_lt_iff_lt_mul hW0, List.length_take, leB_length]
    omega
theorem gp_pk {l : List Nat} (hf : ∀ x ∈ l, x < 2 ^ 63) (hz : l ≠ [] → widL l = 0 → l.length ≤ 65536) (hl : l.length < 2 ^ 63) (t : List UInt8) : getPk l.length (pckB l ++ t) = .ok (l, (pckB l).length) := by
  unfold getPk pckB
  rw [List.append_assoc, gp_upto _ _ (by omega) (Int.le_refl _)]
  simp only [List.drop_left]
  by_cases h0 : l = []
  · subst h0; simp
  · rw [if_neg (by intro h; exact h0 (List.eq_nil_of_length_eq_zero h)), if_neg h0, gp_pb h0 hf (hz h0) t]
    simp only [List.length_append]
theorem gc_pk {l : List Nat} (hf : ∀ x ∈ l, x < 2 ^ 63) (hz : l ≠ [] → widL l = 0 → l.length ≤ 65536) (hl : l.length < 2 ^ 63) (k : Nat) (hk : k < (pckB l).length) : getPk l.length ((pckB l).take k) = .error 1 := by
  unfold getPk
  unfold pckB at hk ⊢
  rw [List.length_append] at hk
  by_cases h1 : k < (uvar l.length).length
  · rw [take_app_lt h1, gc_upto _ _ _ (by omega) h1]
  · rw [take_app h1, gp_upto _ _ (by omega) (Int.le_refl _)]
    simp only [List.drop_left]
    by_cases h0 : l = []
    · subst h0; simp at hk h1; omega
    · rw [if_neg h0] at hk ⊢
      rw [if_neg (by intro h; exact h0 (List.eq_nil_of_length_eq_zero h)), gc_pb h0 hf (hz h0) _ (by omega)]
end Go.Proofs.YthnpbfadblcicaaDoor
