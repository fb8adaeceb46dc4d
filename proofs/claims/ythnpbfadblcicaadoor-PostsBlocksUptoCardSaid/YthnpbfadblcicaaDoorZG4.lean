/- Merged: Form, GetPut, PostR. -/
import Derived.Test.YthnpbfadblcicaaDoorZG2
import Derived.Test.YthnpbfadblcicaaDoorZWList
import Derived.Test.YthnpbfadblcicaaDoorZPacked
import Derived.Test.YthnpbfadblcicaaDoorZG1
/- What a Reader has taken is, written again, just those bytes. -/
namespace Go.Proofs.YthnpbfadblcicaaDoor
set_option linter.unusedVariables false

theorem take_of {l a t : List UInt8} (h : l = a ++ t) {j : Nat} (hj : a.length = j) : l.take j = a := by rw [h, ← hj]; exact List.take_left
theorem formU {l : List UInt8} {u k : Nat} (h : getU l = .ok (u, k)) : l.take k = uvar u ∧ u < 2 ^ 64 ∧ k = (uvar u).length := by
  obtain ⟨h1, h2, t, h3⟩ := getU_ok h
  exact ⟨take_of h3 h2.symm, h1, h2⟩
def asc : Int → List Int → Prop
  | _, [] => True
  | last, z :: r => last < z ∧ z ≤ 9223372036854775807 ∧ asc z r
theorem asc_mem {last : Int} : ∀ {l : List Int}, asc last l → ∀ z ∈ l, last < z ∧ z ≤ 9223372036854775807
  | [], _, z, hz => by cases hz
  | y :: r, h, z, hz => by
    obtain ⟨h1, h2, h3⟩ := h
    rcases List.mem_cons.1 hz with rfl | hz
    · exact ⟨h1, h2⟩
    · have := asc_mem h3 z hz; omega
theorem asc_rises {last : Int} : ∀ {l : List Int}, asc last l → rises l
  | [], _ => fun i h => by simp at h
  | [y], _ => fun i h => by simp at h
  | y :: x :: r, ⟨_, _, h⟩ => fun i hi => by
    cases i with
    | zero => exact h.1
    | succ i => exact asc_rises h i (by simpa using hi)
theorem getR_form : ∀ (n : Nat) (last : Int) (l : List UInt8) (r : List Int) (j : Nat), -1 ≤ last → getR n last l = .ok (r, j) → l.take j = gapsB last r ∧ (gapsB last r).length = j ∧ r.length = n ∧ asc last r
  | 0, last, l, r, j, _, h => by
    rw [getR] at h; injection h with h; injection h with h1 h2; subst h1 h2
    exact ⟨rfl, rfl, rfl, trivial⟩
  | n + 1, last, l, r, j, hl, h => by
    rw [getR] at h
    cases hg : getU l with
    | error e => rw [hg] at h; cases h
    | ok y =>
      obtain ⟨u, k⟩ := y
      rw [hg] at h
      simp only at h
      split at h
      · cases h
      · next hb =>
        cases hr : getR n (last + u + 1) (l.drop k) with
        | error e => rw [hr] at h; cases h
        | ok y =>
          obtain ⟨r', j'⟩ := y
          rw [hr] at h
          injection h with h; injection h with h1 h2; subst h1 h2
          obtain ⟨e1, e2, e3, e4⟩ := getR_form n (last + u + 1) (l.drop k) r' j' (by omega) hr
          obtain ⟨f1, f2, f3⟩ := formU hg
          have hu : (last + u + 1 - last - 1).toNat = u := by omega
          refine ⟨?_, ?_, by simp [e3], by omega, by omega, e4⟩
          · rw [gapsB, hu, ← e1, ← f1, ← List.take_add]
          · rw [gapsB, hu, List.length_append, e2, f3]
theorem ris_form {most : Int} {l : List UInt8} {r : List Int} {j : Nat} (h : getRis most l = .ok (r, j)) : l.take j = risB r ∧ asc (-1) r := by
  unfold getRis at h
  cases hg : getUpto most l with
  | error e => rw [hg] at h; cases h
  | ok y =>
    obtain ⟨n, k⟩ := y
    rw [hg] at h
    simp only at h
    obtain ⟨hu, _⟩ := getUpto_len hg
    cases hr : getR n (-1) (l.drop k) with
    | error e => rw [hr] at h; cases h
    | ok y =>
      obtain ⟨r', j'⟩ := y
      rw [hr] at h
      injection h with h; injection h with h1 h2; subst h1 h2
      obtain ⟨e1, e2, e3, e4⟩ := getR_form n (-1) _ r' j' (by omega) hr
      obtain ⟨f1, f2, f3⟩ := formU hu
      exact ⟨by rw [risB, e3, ← e1, ← f1, ← List.take_add], e4⟩
theorem asc_neg {l : List Int} (h : asc (-1) l) : anyNeg l = false := by
  rw [anyNeg, List.any_eq_false]
  intro x hx
  have := asc_mem h x hx
  simp; omega
theorem asc_fit {l : List Int} (h : asc (-1) l) : FitL l := fun z hz => by have := asc_mem h z hz; omega
theorem getPB_form {n : Nat} {l : List UInt8} {r : List Nat} {j : Nat} (hn : n ≠ 0) (h : getPB n l = .ok (r, j)) :
    l.take j = packB r ∧ r.length = n ∧ (∀ x ∈ r, x < 2 ^ 63) ∧ ((0 < r.length ∧ widL r = 0 ∧ r.length ≤ 65536) ∨ (0 < r.length ∧ 0 < widL r)) := by
  cases l with
  | nil => cases h
  | cons x rr =>
    rw [getPB] at h
    obtain ⟨m, hm⟩ : ∃ m, x.toNat = m := ⟨_, rfl⟩
    rw [hm] at h
    split at h
    · cases h
    · next h1 =>
      split at h
      · cases h
      · next h2 =>
        split at h
        · next h3 =>
          injection h with h; injection h with e1 e2; subst e1 e2
          obtain ⟨S, hS⟩ : ∃ S, (n * m + 7) / 8 = S := ⟨_, rfl⟩
          rw [hS] at h3 ⊢
          obtain ⟨N, hN⟩ : ∃ N, leN (rr.take S) = N := ⟨_, rfl⟩
          rw [hN] at h3 ⊢
          have hSl : S ≤ rr.length := by
            rcases Nat.eq_zero_or_pos m with e | e
            · subst e; omega
            · rw [← hS]; exact packed_size e (fun h4 => h2 ⟨e, h4⟩)
          have hm63 : m ≤ 63 := by omega
          have hlen := unpack_length m n N
          have hNlt : N < 2 ^ (m * n) := by
            have h4 := h3.2
            rw [Nat.mul_comm n m] at h4
            rcases Nat.lt_or_ge N (2 ^ (m * n)) with h5 | h5
            · exact h5
            · have := Nat.div_pos h5 (Nat.two_pow_pos (m * n)); omega
          refine ⟨?_, hlen, fun y hy => Nat.lt_of_lt_of_le (unpack_lt m n N y hy) (Nat.pow_le_pow_right (by decide) hm63), ?_⟩
          · rw [packB, h3.1, hlen, hS, show packN m (unpack m n N) = N from packN_of m n N hNlt, ← hN]
            have e5 : (rr.take S).length = S := by rw [List.length_take]; omega
            have e6 : leB S (leN (rr.take S)) = rr.take S := by
              have := leB_leN (rr.take S); rwa [e5] at this
            rw [e6, Nat.add_comm, List.take_succ_cons, ← hm]
            simp
          · rw [hlen, h3.1]
            rcases Nat.eq_zero_or_pos m with e | e
            · left; exact ⟨by omega, e, by omega⟩
            · right; exact ⟨by omega, e⟩
        · cases h
theorem pk_form {most : Int} {l : List UInt8} {r : List Nat} {j : Nat} (h : getPk most l = .ok (r, j)) :
    l.take j = pckB r ∧ (∀ x ∈ r, x < 2 ^ 63) ∧ (r = [] ∨ (0 < r.length ∧ widL r = 0 ∧ r.length ≤ 65536) ∨ (0 < r.length ∧ 0 < widL r)) := by
  unfold getPk at h
  cases hg : getUpto most l with
  | error e => rw [hg] at h; cases h
  | ok y =>
    obtain ⟨n, k⟩ := y
    rw [hg] at h
    simp only at h
    obtain ⟨hu, _⟩ := getUpto_len hg
    obtain ⟨f1, f2, f3⟩ := formU hu
    split at h
    · next h0 =>
      injection h with h; injection h with e1 e2; subst e1 e2
      exact ⟨by rw [f1, h0]; simp [pckB], (fun x hx => by cases hx), .inl rfl⟩
    · next h0 =>
      cases hr : getPB n (l.drop k) with
      | error e => rw [hr] at h; cases h
      | ok y =>
        obtain ⟨r', j'⟩ := y
        rw [hr] at h
        injection h with h; injection h with e1 e2; subst e1 e2
        obtain ⟨g1, g2, g3, g4⟩ := getPB_form h0 hr
        have hne : r' ≠ [] := fun e => by rw [e] at g2; simp at g2; omega
        exact ⟨by rw [pckB, if_neg hne, g2, ← g1, ← f1, ← List.take_add], g3, .inr g4⟩
theorem w_form {c : Nat} {l : List UInt8} {x j : Nat} (h : getW c l = .ok (x, j)) : l.take j = leB c x ∧ x < 256 ^ c := by
  unfold getW at h
  split at h
  · cases h
  · next h1 =>
    injection h with h; injection h with e1 e2; subst e1 e2
    have e5 : (l.take c).length = c := by rw [List.length_take]; omega
    have e6 := leB_leN (l.take c)
    have e7 := leN_lt (l.take c)
    rw [e5] at e6 e7
    exact ⟨e6.symm, e7⟩
theorem raw_form {n : Int} {l x : List UInt8} {j : Nat} (h : getRaw n l = .ok (x, j)) : l.take j = x := by
  unfold getRaw at h
  split at h
  · cases h
  · split at h
    · cases h
    · injection h with h; injection h with e1 e2; subst e1 e2; rfl
theorem text_form {most : Int} {l x : List UInt8} {j : Nat} (h : getText most l = .ok (x, j)) : l.take j = uvar x.length ++ x := by
  unfold getText at h
  cases hg : getUpto most l with
  | error e => rw [hg] at h; cases h
  | ok y =>
    obtain ⟨n, k⟩ := y
    rw [hg] at h
    simp only at h
    obtain ⟨hu, _⟩ := getUpto_len hg
    obtain ⟨f1, f2, f3⟩ := formU hu
    split at h
    · cases h
    · next h1 =>
      injection h with h; injection h with e1 e2; subst e1 e2
      rw [List.take_add, f1, List.length_take, Nat.min_eq_left (by omega)]
end Go.Proofs.YthnpbfadblcicaaDoor

/- What is put is read again, whatever stands behind it; cut ahead of its end it is too short. No program occurs here. -/
namespace Go.Proofs.YthnpbfadblcicaaDoor
set_option linter.unusedVariables false

theorem gp_upto (most : Int) (n : Nat) (h : n < 2 ^ 64) (hm : (n : Int) ≤ most) (t : List UInt8) : getUpto most (uvar n ++ t) = .ok (n, (uvar n).length) := by
  unfold getUpto; rw [getU_uvar n h t]; simp only; rw [if_neg (by omega)]
theorem gp_upto_lim (most : Int) (n : Nat) (h : n < 2 ^ 64) (hm : most < (n : Int)) (t : List UInt8) : getUpto most (uvar n ++ t) = .error 3 := by
  unfold getUpto; rw [getU_uvar n h t]; simp only; rw [if_pos (by omega)]
theorem gc_upto (most : Int) (n k : Nat) (h : n < 2 ^ 64) (hk : k < (uvar n).length) : getUpto most ((uvar n).take k) = .error 1 := by
  unfold getUpto; rw [getU_cut n k h hk]
theorem gp_w (c n : Nat) (hn : n < 256 ^ c) (t : List UInt8) : getW c (leB c n ++ t) = .ok (n, c) := by
  have h1 := leB_length c n
  unfold getW
  rw [if_neg (by rw [List.length_append]; omega), take_of rfl h1, leN_leB, Nat.mod_eq_of_lt hn]
theorem gc_w (c n k : Nat) (hk : k < c) : getW c ((leB c n).take k) = .error 1 := by
  have h1 := leB_length c n
  unfold getW
  rw [if_pos (by rw [List.length_take]; omega)]
theorem gp_raw (cs t : List UInt8) : getRaw cs.length (cs ++ t) = .ok (cs, cs.length) := by
  unfold getRaw
  rw [if_neg (by omega), if_neg (by rw [List.length_append]; omega), Int.toNat_natCast, take_of rfl rfl]
theorem gc_raw (cs : List UInt8) (k : Nat) (hk : k < cs.length) : getRaw cs.length (cs.take k) = .error 1 := by
  unfold getRaw
  rw [if_neg (by omega), if_pos (by rw [List.length_take]; omega)]
theorem gp_text (cs t : List UInt8) (h : cs.length < 2 ^ 64) : getText cs.length ((uvar cs.length ++ cs) ++ t) = .ok (cs, (uvar cs.length ++ cs).length) := by
  unfold getText
  rw [List.append_assoc, gp_upto _ _ h (Int.le_refl _)]
  simp only [List.drop_left]
  rw [if_neg (by rw [List.length_append]; omega), take_of rfl rfl, List.length_append]
theorem take_app {a b : List UInt8} {k : Nat} (h : ¬ k < a.length) : (a ++ b).take k = a ++ b.take (k - a.length) := by
  rw [List.take_append, List.take_of_length_le (by omega)]
theorem take_app_lt {a b : List UInt8} {k : Nat} (h : k < a.length) : (a ++ b).take k = a.take k := by
  rw [List.take_append, show k - a.length = 0 by omega, List.take_zero, List.append_nil]
theorem gc_text (cs : List UInt8) (k : Nat) (h : cs.length < 2 ^ 64) (hk : k < (uvar cs.length ++ cs).length) : getText cs.length ((uvar cs.length ++ cs).take k) = .error 1 := by
  rw [List.length_append] at hk
  unfold getText
  by_cases h1 : k < (uvar cs.length).length
  · rw [take_app_lt h1, gc_upto _ _ _ h h1]
  · rw [take_app h1, gp_upto _ _ h (Int.le_refl _)]
    simp only [List.drop_left]
    rw [if_pos (by rw [List.length_take]; omega)]
theorem gp_r : ∀ (l : List Int) (last : Int) (t : List UInt8), -1 ≤ last → asc last l → getR l.length last (gapsB last l ++ t) = .ok (l, (gapsB last l).length)
  | [], _, _, _, _ => rfl
  | z :: r, last, t, hl, ⟨h1, h2, h3⟩ => by
    rw [List.length_cons, getR, gapsB, List.append_assoc, getU_uvar _ (by omega)]
    simp only
    rw [if_neg (by omega), List.drop_left, show last + ((z - last - 1).toNat : Nat) + 1 = z by omega, gp_r r z t (by omega) h3]
    simp only [List.length_append]
theorem gc_r : ∀ (l : List Int) (last : Int) (k : Nat), -1 ≤ last → asc last l → k < (gapsB last l).length → getR l.length last ((gapsB last l).take k) = .error 1
  | [], _, _, _, _, hk => by simp [gapsB] at hk
  | z :: r, last, k, hl, ⟨h1, h2, h3⟩, hk => by
    rw [gapsB, List.length_append] at hk
    rw [List.length_cons, getR, gapsB]
    by_cases h4 : k < (uvar (z - last - 1).toNat).length
    · rw [take_app_lt h4, getU_cut _ _ (by omega) h4]
    · rw [take_app h4, getU_uvar _ (by omega)]
      simp only
      rw [if_neg (by omega), List.drop_left, show last + ((z - last - 1).toNat : Nat) + 1 = z by omega, gc_r r z _ (by omega) h3 (by omega)]
theorem asc_of : ∀ {l : List Int} {last : Int}, (∀ z ∈ l.head?, last < z) → rises l → FitL l → asc last l
  | [], _, _, _, _ => trivial
  | z :: r, last, h0, hr, hf => by
    refine ⟨h0 z rfl, (hf z List.mem_cons_self).2, asc_of ?_ (fun i h => ?_) (fun y hy => hf y (List.mem_cons_of_mem _ hy))⟩
    · cases r with
      | nil => intro y hy; cases hy
      | cons y r => intro x hx; obtain rfl : y = x := by simpa using hx
                    exact hr 0 (by simp)
    · have := hr (i + 1) (by simpa using h)
      simpa using this
theorem asc_neg1 {l : List Int} (hn : anyNeg l = false) (hr : rises l) (hf : FitL l) : asc (-1) l := asc_of (fun z hz => by
  have := List.any_eq_false.1 hn z (List.mem_of_head? hz)
  simp at this; omega) hr hf
theorem gp_ris {l : List Int} (hn : anyNeg l = false) (hr : rises l) (hf : FitL l) (hl : l.length < 2 ^ 63) (t : List UInt8) : getRis l.length (risB l ++ t) = .ok (l, (risB l).length) := by
  unfold getRis risB
  rw [List.append_assoc, gp_upto _ _ (by omega) (Int.le_refl _)]
  simp only [List.drop_left]
  rw [gp_r l (-1) t (by omega) (asc_neg1 hn hr hf)]
  simp only [List.length_append]
theorem gc_ris {l : List Int} (hn : anyNeg l = false) (hr : rises l) (hf : FitL l) (hl : l.length < 2 ^ 63) (k : Nat) (hk : k < (risB l).length) : getRis l.length ((risB l).take k) = .error 1 := by
  unfold getRis
  unfold risB at hk ⊢
  rw [List.length_append] at hk
  by_cases h1 : k < (uvar l.length).length
  · rw [take_app_lt h1, gc_upto _ _ _ (by omega) h1]
  · rw [take_app h1, gp_upto _ _ (by omega) (Int.le_refl _)]
    simp only [List.drop_left]
    rw [gc_r l (-1) _ (by omega) (asc_neg1 hn hr hf) (by omega)]
theorem unpack_pack (w : Nat) (l : List Nat) (hl : ∀ x ∈ l, x < 2 ^ w) : unpack w l.length (packN w l) = l := by
  apply List.ext_getElem (unpack_length _ _ _)
  intro i h1 h2
  simp only [unpack, List.getElem_map, List.getElem_range]
  exact packN_get w l i h2 hl
theorem gp_pb {l : List Nat} (h0 : l ≠ []) (hf : ∀ x ∈ l, x < 2 ^ 63) (hz : widL l = 0 → l.length ≤ 65536) (t : List UInt8) : getPB l.length (packB l ++ t) = .ok (l, (packB l).length) := by
  have hw := widL_63 hf
  have hx : (UInt8.ofNat (widL l)).toNat = widL l := ofNat_toNat _ (by omega)
  have hfit := widL_fits (l := l) (fun x hx => Nat.lt_trans (hf x hx) (by decide))
  have hN := packN_lt (widL l) l hfit
  have hun := unpack_pack (widL l) l hfit
  unfold packB
  rw [List.cons_append, getPB, hx]
  obtain ⟨W, hW⟩ : ∃ W, widL l = W := ⟨_, rfl⟩
  simp only [hW] at hw hz hfit hN hun ⊢
  obtain ⟨S, hS⟩ : ∃ S, (l.length * W + 7) / 8 = S := ⟨_, rfl⟩
  rw [hS]
  have hlen := leB_length S (packN W l)
  have hS8 : l.length * W ≤ 8 * S := by omega
  have hN2 : packN W l < 256 ^ S := Nat.lt_of_lt_of_le hN (by rw [show (256 : Nat) = 2 ^ 8 by rfl, ← Nat.pow_mul]; exact Nat.pow_le_pow_right (by decide) (by rw [Nat.mul_comm W]; exact hS8))
  rw [take_of rfl hlen, leN_leB, Nat.mod_eq_of_lt hN2, hun, hW]
  rw [if_neg (by intro h; rcases h with h | ⟨h, h2⟩; omega; have := hz h; omega), if_neg, if_pos ⟨rfl, Nat.div_eq_of_lt (by rw [Nat.mul_comm]; exact hN)⟩]
  · rw [List.length_cons, hlen, Nat.add_comm]
  · rintro ⟨h1, h2⟩
    have : l.length ≤ (leB S (packN W l) ++ t).length * 8 / W := by
      rw [Nat.le_div_iff_mul_le h1, List.length_append, hlen]
      omega
    omega
theorem gc_pb {l : List Nat} (h0 : l ≠ []) (hf : ∀ x ∈ l, x < 2 ^ 63) (hz : widL l = 0 → l.length ≤ 65536) (k : Nat) (hk : k < (packB l).length) : getPB l.length ((packB l).take k) = .error 1 := by
  have hw := widL_63 hf
  have hx : (UInt8.ofNat (widL l)).toNat = widL l := ofNat_toNat _ (by omega)
  unfold packB at hk ⊢
  cases k with
  | zero => rfl
  | succ k =>
    rw [List.take_succ_cons, getPB, hx]
    rw [List.length_cons, leB_length] at hk
    obtain ⟨W, hW⟩ : ∃ W, widL l = W := ⟨_, rfl⟩
    simp only [hW] at hw hz hk ⊢
    rw [if_neg (by intro h; rcases h with h | ⟨h, h2⟩; omega; have := hz h; omega), if_pos]
    obtain ⟨S, hS⟩ : ∃ S, (l.length * W + 7) / 8 = S := ⟨_, rfl⟩
    rw [hS] at hk ⊢
    have hW0 : 0 < W := by
      rcases Nat.eq_zero_or_pos W with e | e
      · subst e; omega
      · exact e
    refine ⟨hW0, ?_⟩
    rw [Nat.div_lt_iff_lt_mul hW0, List.length_take, leB_length]
    omega
theorem gp_pk {l : List Nat} (hf : ∀ x ∈ l, x < 2 ^ 63) (hz : l ≠ [] → widL l = 0 → l.length ≤ 65536) (hl : l.length < 2 ^ 63) (t : List UInt8) : getPk l.length (pckB l ++ t) = .ok (l, (pckB l).length) := by
  unfold getPk pckB
  rw [List.append_assoc, gp_upto _ _ (by omega) (Int.le_refl _)]
  simp only [List.drop_left]
  by_cases h0 : l = []
  · subst h0; simp
  · rw [if_neg (by intro h; exact h0 (List.eq_nil_of_length_eq_zero h)), if_neg h0, gp_pb h0 hf (hz h0) t]
    simp only [List.length_append]
theorem gc_pk {l : List Nat} (hf : ∀ x ∈ l, x < 2 ^ 63) (hz : l ≠ [] → widL l = 0 → l.length ≤ 65536) (hl : l.length < 2 ^ 63) (k : Nat) (hk : k < (pckB l).length) : getPk l.length ((pckB l).take k) = .error 1 := by
  unfold getPk
  unfold pckB at hk ⊢
  rw [List.length_append] at hk
  by_cases h1 : k < (uvar l.length).length
  · rw [take_app_lt h1, gc_upto _ _ _ (by omega) h1]
  · rw [take_app h1, gp_upto _ _ (by omega) (Int.le_refl _)]
    simp only [List.drop_left]
    by_cases h0 : l = []
    · subst h0; simp at hk h1; omega
    · rw [if_neg h0] at hk ⊢
      rw [if_neg (by intro h; exact h0 (List.eq_nil_of_length_eq_zero h)), gc_pb h0 hf (hz h0) _ (by omega)]
end Go.Proofs.YthnpbfadblcicaaDoor

/- posts, plain: a block read; what is read makes the same bytes again, and what is made is read. No program occurs here. -/
namespace Go.Proofs.YthnpbfadblcicaaDoor
set_option linter.unusedVariables false

/-- The postings behind the two lists. -/
def unpP : Int → List Nat → List Nat → List UInt8 → Option (List PostV × List UInt8)
  | _, [], _, l => some ([], l)
  | _, _ :: _, [], l => some ([], l)
  | base, d :: ds, f :: fs, l =>
    if 2147483647 - base - 1 ≤ (d : Int) ∨ l.length ≤ f then none
    else match getR (f + 1) (-1) l with
      | .error _ => none
      | .ok (pos, j) => match unpP (base + d + 1) ds fs (l.drop j) with
        | none => none
        | some (ps, l') => some (⟨base + d + 1, pos⟩ :: ps, l')
def unpV (base : Int) (n : Nat) (l : List UInt8) : Option (List PostV) := match getPk 16 l with
  | .error _ => none
  | .ok (ds, j) => if ds.length ≠ n then none else match getPk 16 (l.drop j) with
    | .error _ => none
    | .ok (fs, j2) => if fs.length ≠ n then none else match unpP base ds fs ((l.drop j).drop j2) with
      | none => none
      | some (ps, l') => if l' = [] then some ps else none
theorem goodV_mk {last : Int} {p : PostV} (h0 : 0 ≤ p.doc) (h1 : p.doc < 2147483647) (h2 : last < p.doc) (h3 : p.pos ≠ []) (h4 : asc (-1) p.pos) : goodV last p = 0 := by
  unfold goodV
  rw [if_neg (by omega), if_neg (by omega), if_neg h3, if_neg (by rw [asc_neg h4]; decide), if_pos ((risesB_iff _).2 (asc_rises h4))]
theorem okV_mk {last : Int} {p : PostV} {r : List PostV} (h : goodV last p = 0) (h2 : okV p.doc r) : okV last (p :: r) := by
  unfold okV checkV
  rw [if_pos h]; exact h2
theorem okV_join : ∀ {last : Int} {a b : List PostV}, okV last a → okV (lastV last a) b → okV last (a ++ b)
  | last, [], b, _, h => h
  | last, p :: r, b, h, h2 => by
    obtain ⟨h3, h4⟩ := okV_cons h
    exact okV_mk h3 (okV_join h4 h2)
theorem unpP_form : ∀ (ds fs : List Nat) (base : Int) (l : List UInt8) (ps : List PostV) (l' : List UInt8), -1 ≤ base → ds.length = fs.length → unpP base ds fs l = some (ps, l') →
    okV base ps ∧ gapsD base ps = ds ∧ freqV ps = fs ∧ tailV ps ++ l' = l ∧ ∀ p ∈ ps, asc (-1) p.pos
  | [], [], base, l, ps, l', hb, hl, h => by
    rw [unpP] at h
    injection h with h
    injection h with h1 h2
    subst h1 h2
    exact ⟨rfl, rfl, rfl, rfl, fun p hp => by cases hp⟩
  | [], _ :: _, _, _, _, _, _, hl, _ => by simp at hl
  | _ :: _, [], _, _, _, _, _, hl, _ => by simp at hl
  | d :: ds, f :: fs, base, l, ps, l', hb, hl, h => by
    rw [unpP] at h
    split at h
    · cases h
    · next hc =>
      cases hr : getR (f + 1) (-1) l with
      | error e => rw [hr] at h; cases h
      | ok y =>
        obtain ⟨pos, j⟩ := y
        rw [hr] at h
        simp only at h
        cases hu : unpP (base + d + 1) ds fs (l.drop j) with
        | none => rw [hu] at h; cases h
        | some y =>
          obtain ⟨ps', l2⟩ := y
          rw [hu] at h
          injection h with h
          injection h with h1 h2
          subst h1 h2
          obtain ⟨i1, i2, i3, i4, i5⟩ := unpP_form ds fs (base + d + 1) (l.drop j) ps' l2 (by omega) (by simpa using hl) hu
          obtain ⟨g1, g2, g3, g4⟩ := getR_form (f + 1) (-1) l pos j (by omega) hr
          have hne : pos ≠ [] := fun e => by rw [e] at g3; simp at g3
          refine ⟨okV_mk (goodV_mk (by show 0 ≤ base + d + 1; omega) (by show base + d + 1 < _; omega) (by show base < base + d + 1; omega) hne g4) i1, ?_, ?_, ?_, ?_⟩
          · rw [gapsD, i2]
            simp only
            rw [show (base + (d : Int) + 1 - base - 1).toNat = d by omega]
          · unfold freqV at i3 ⊢
            rw [List.map_cons, i3]
            simp only
            rw [g3, Nat.add_sub_cancel]
          · unfold tailV at i4 ⊢
            rw [List.flatMap_cons, List.append_assoc, i4, ← g1, List.take_append_drop]
          · intro p hp
            rcases List.mem_cons.1 hp with rfl | hp
            · exact g4
            · exact i5 p hp
theorem gapsB_ge : ∀ (last : Int) (l : List Int), l.length ≤ (gapsB last l).length
  | _, [] => Nat.zero_le _
  | last, z :: r => by
    have h := gapsB_ge z r
    have h1 : 0 < (uvar (z - last - 1).toNat).length := List.length_pos_iff.2 (uvar_ne _)
    rw [gapsB, List.length_append, List.length_cons]; omega
theorem okP_asc {last : Int} {p : PostV} (h : goodV last p = 0) (hf : FitL p.pos) : asc (-1) p.pos := by
  obtain ⟨_, _, _, _, h5, h6⟩ := goodV_ok h
  exact asc_neg1 h5 h6 hf
theorem unpP_of : ∀ (ps : List PostV) (base : Int) (t : List UInt8), -1 ≤ base → okV base ps → FitP ps → unpP base (gapsD base ps) (freqV ps) (tailV ps ++ t) = some (ps, t)
  | [], base, t, _, _, _ => rfl
  | p :: r, base, t, hb, ok, hf => by
    obtain ⟨h1, h2⟩ := okV_cons ok
    obtain ⟨g1, g2, g3, g4, g5, g6⟩ := goodV_ok h1
    have hfp := hf p (List.mem_cons_self ..)
    have ha := okP_asc h1 hfp.2.1
    have ih := unpP_of r p.doc t (by omega) h2 (fun q hq => hf q (List.mem_cons_of_mem _ hq))
    have hpl : 0 < p.pos.length := List.length_pos_iff.2 g4
    have hge := gapsB_ge (-1) p.pos
    have hr := gp_r p.pos (-1) (tailV r ++ t) (by omega) ha
    rw [gapsD, show freqV (p :: r) = (p.pos.length - 1) :: freqV r from rfl, show tailV (p :: r) = gapsB (-1) p.pos ++ tailV r from rfl, unpP, List.append_assoc, if_neg, show p.pos.length - 1 + 1 = p.pos.length by omega, hr]
    · simp only
      rw [List.drop_left, show base + ((p.doc - base - 1).toNat : Nat) + 1 = p.doc by omega, ih]
    · rintro (h | h)
      · omega
      · rw [List.length_append] at h; omega
theorem gp_pk16 {l : List Nat} (hf : ∀ x ∈ l, x < 2 ^ 63) (hl : l.length ≤ 16) (t : List UInt8) : getPk 16 (pckB l ++ t) = .ok (l, (pckB l).length) := by
  unfold getPk pckB
  rw [List.append_assoc, gp_upto _ _ (by omega) (by omega)]
  simp only [List.drop_left]
  by_cases h0 : l = []
  · subst h0; simp
  · rw [if_neg (by intro h; exact h0 (List.eq_nil_of_length_eq_zero h)), if_neg h0, gp_pb h0 hf (fun _ => by omega) t]
    simp only [List.length_append]
theorem unpV_of {base : Int} {ps : List PostV} (hb : -1 ≤ base) (ok : okV base ps) (hf : FitP ps) (hl : ps.length ≤ 16) : unpV base ps.length (blockB base ps) = some ps := by
  unfold unpV blockB
  rw [gp_pk16 (gapsD_fits ok hb) (by rw [gapsD_length]; exact hl)]
  simp only
  rw [gapsD_length, if_neg (by simp), List.drop_left, gp_pk16 (freqV_fits hf) (by rw [freqV_length]; exact hl)]
  simp only
  rw [freqV_length, if_neg (by simp), List.drop_left]
  have := unpP_of ps base [] hb ok hf
  rw [List.append_nil] at this
  rw [this]
  rfl
theorem unpV_form {base : Int} {n : Nat} {l : List UInt8} {ps : List PostV} (hb : -1 ≤ base) (h : unpV base n l = some ps) : okV base ps ∧ blockB base ps = l ∧ ps.length = n ∧ ∀ p ∈ ps, asc (-1) p.pos := by
  unfold unpV at h
  cases h1 : getPk 16 l with
  | error e => rw [h1] at h; cases h
  | ok y =>
    obtain ⟨ds, j⟩ := y
    rw [h1] at h
    simp only at h
    split at h
    · cases h
    · next hd =>
      cases h2 : getPk 16 (l.drop j) with
      | error e => rw [h2] at h; cases h
      | ok y =>
        obtain ⟨fs, j2⟩ := y
        rw [h2] at h
        simp only at h
        split at h
        · cases h
        · next hd2 =>
          cases h3 : unpP base ds fs ((l.drop j).drop j2) with
          | none => rw [h3] at h; cases h
          | some y =>
            obtain ⟨ps', l'⟩ := y
            rw [h3] at h
            simp only at h
            split at h
            · next hl' =>
              injection h with h
              subst h hl'
              have hd := Decidable.not_not.1 hd
              have hd2 := Decidable.not_not.1 hd2
              obtain ⟨i1, i2, i3, i4, i5⟩ := unpP_form ds fs base _ ps' [] hb (hd.trans hd2.symm) h3
              refine ⟨i1, ?_, ?_, i5⟩
              · unfold blockB
                rw [i2, i3, ← (pk_form h1).1, ← (pk_form h2).1, show tailV ps' = (l.drop j).drop j2 by rw [← i4, List.append_nil], List.take_append_drop, List.take_append_drop]
              · rw [← hd, ← i2, gapsD_length]
            · cases h
theorem blockB_ge {base : Int} {l : List PostV} (ok : okV base l) : totalV l ≤ (blockB base l).length ∧ 2 ≤ (blockB base l).length := by
  have h1 : ∀ m : List Nat, 1 ≤ (pckB m).length := fun m => by
    unfold pckB
    have : 0 < (uvar m.length).length := List.length_pos_iff.2 (uvar_ne _)
    rw [List.length_append]; omega
  have h2 : totalV l ≤ (tailV l).length := by
    clear ok
    induction l with
    | nil => simp [totalV]
    | cons p r ih =>
      have := gapsB_ge (-1) p.pos
      unfold totalV tailV at ih ⊢
      rw [List.map_cons, List.sum_cons, List.flatMap_cons, List.length_append]
      omega
  unfold blockB
  have h3 := h1 (gapsD base l)
  have h4 := h1 (freqV l)
  rw [List.length_append, List.length_append]
  omega
end Go.Proofs.YthnpbfadblcicaaDoor
