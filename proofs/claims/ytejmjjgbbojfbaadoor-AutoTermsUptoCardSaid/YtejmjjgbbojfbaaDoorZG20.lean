/- Merged: AccP, Span, SpanB. -/
import Derived.Test.YtejmjjgbbojfbaaDoorZG15
import Derived.Test.YtejmjjgbbojfbaaDoorZExact
import Derived.Test.YtejmjjgbbojfbaaDoorZG17
/- What the machines of a pattern, of a word and of a head answer, by definition, in plain Lean. -/
namespace Go.Proofs.YtejmjjgbbojfbaaDoor
set_option linter.unusedVariables false

theorem nextR_get (e : PEl) (s : List UInt8) (P : List Bool) {j : Nat} (h : j ≤ s.length) : (nextR e s P).getD j false = stepR e s P j := by
  unfold nextR
  rw [List.getD_eq_getElem?_getD, List.getElem?_map, List.getElem?_range (by omega)]; rfl
theorem any_take_get (P : List Bool) (n : Nat) : (P.take n).any id = true ↔ ∃ k, k < n ∧ P.getD k false = true := by
  rw [List.any_eq_true]
  constructor
  · rintro ⟨x, hx, hi⟩
    obtain ⟨k, hk⟩ := List.mem_iff_getElem?.1 hx
    have hkn : k < n := by
      have := (List.getElem?_eq_some_iff.1 hk).1
      simp at this; omega
    rw [List.getElem?_take, if_pos hkn] at hk
    exact ⟨k, hkn, by rw [List.getD_eq_getElem?_getD, hk]; exact hi⟩
  · rintro ⟨k, hk, h⟩
    refine ⟨true, ?_, rfl⟩
    rw [List.getD_eq_getElem?_getD] at h
    cases hp : P[k]? with
    | none => rw [hp] at h; cases h
    | some v =>
      rw [hp] at h
      have : v = true := h
      subst this
      exact List.mem_iff_getElem?.2 ⟨k, by rw [List.getElem?_take, if_pos hk]; exact hp⟩
theorem pelk {es : List PEl} {i : Nat} (h : i < es.length) : PEl.k es i = es[i].1 ∧ PEl.b es i = es[i].2 := by
  unfold PEl.k PEl.b
  rw [List.getD_eq_getElem?_getD, List.getElem?_eq_getElem h]; exact ⟨rfl, rfl⟩
/-- The document's table: what the first i elements match. -/
theorem tab_mt (es : List PEl) (hkd : ∀ e ∈ es, e.1 ≤ 2) (s : List UInt8) : ∀ i, i ≤ es.length → ∀ j, j ≤ s.length → ((tabR (es.take i) s).getD j false = true ↔ Mt es i (s.take j)) := by
  intro i
  induction i with
  | zero =>
    intro _ j hj
    show ((List.replicate (s.length + 1) false).set 0 true).getD j false = true ↔ _
    rw [getD_set]
    simp only [Mt, List.length_replicate]
    by_cases h0 : 0 = j
    · subst h0; simp
    · rw [if_neg (by omega), List.getD_eq_getElem?_getD, List.getElem?_replicate, if_pos (by omega)]
      constructor
      · intro h; cases h
      · intro h
        have := congrArg List.length h
        rw [List.length_take, List.length_nil] at this
        omega
  | succ i ih =>
    intro hi j hj
    have ih := ih (by omega)
    obtain ⟨hk, hb⟩ := pelk (es := es) (i := i) (by omega)
    rw [tabR_take (by omega), nextR_get _ _ _ hj]
    unfold stepR
    simp only [Mt, hk, hb]
    by_cases h2 : es[i].1 = 2
    · rw [if_pos h2, any_take_get]
      constructor
      · rintro ⟨q, hq, h⟩
        refine .inl ⟨h2, q, by rw [List.length_take]; omega, ?_⟩
        rw [List.take_take, Nat.min_eq_left (by omega)]
        exact (ih q (by omega)).1 h
      · rintro (⟨_, q, hq, h⟩ | ⟨h, _⟩ | ⟨h, _⟩)
        · rw [List.length_take] at hq
          rw [List.take_take, Nat.min_eq_left (by omega)] at h
          exact ⟨q, by omega, (ih q (by omega)).2 h⟩
        · omega
        · omega
    · rw [if_neg h2]
      rcases Nat.eq_zero_or_pos j with h0 | h0
      · subst h0
        simp only [Nat.lt_irrefl, decide_false, Bool.false_and, List.take_zero]
        constructor
        · intro h; cases h
        · rintro (⟨h, _⟩ | ⟨_, t, c, h, _⟩ | ⟨_, t, h, _⟩)
          · exact absurd h h2
          · simp at h
          · simp at h
      · obtain ⟨q, rfl⟩ : ∃ q, j = q + 1 := ⟨j - 1, by omega⟩
        have ht : s.take (q + 1) = s.take q ++ [s.getD q 0] := by
          rw [List.take_add_one, List.getElem?_eq_getElem (by omega), List.getD_eq_getElem?_getD, List.getElem?_eq_getElem (by omega)]; rfl
        rw [decide_eq_true h0, Bool.true_and, Nat.add_sub_cancel, ht, Bool.and_eq_true, ih q (by omega), Bool.or_eq_true, decide_eq_true_eq, decide_eq_true_eq]
        constructor
        · rintro ⟨hm, h1 | hc⟩
          · exact .inr (.inl ⟨h1, s.take q, s.getD q 0, rfl, hm⟩)
          · by_cases h1 : es[i].1 = 1
            · exact .inr (.inl ⟨h1, s.take q, s.getD q 0, rfl, hm⟩)
            · have h3 := hkd es[i] (List.getElem_mem _)
              exact .inr (.inr ⟨by omega, s.take q, by rw [hc], hm⟩)
        · rintro (⟨h, _⟩ | ⟨h1, t, c, h, hm⟩ | ⟨_, t, h, hm⟩)
          · exact absurd h h2
          · obtain ⟨rfl, _⟩ := List.append_inj' h rfl
            exact ⟨hm, .inl h1⟩
          · obtain ⟨rfl, hc⟩ := List.append_inj' h rfl
            injection hc with hc
            exact ⟨hm, .inr hc⟩

theorem map_kinds {o : Option (List PEl)} {e : PEl} {es : List PEl} (he : e.1 ≤ 2) (ho : ∀ l, o = some l → ∀ x ∈ l, x.1 ≤ 2) (h : o.map (e :: ·) = some es) : ∀ x ∈ es, x.1 ≤ 2 := by
  cases o with
  | none => cases h
  | some l =>
    injection h with h
    subst h
    intro x hx
    rcases List.mem_cons.1 hx with rfl | hx
    · exact he
    · exact ho l rfl x hx
theorem elems_kinds : ∀ (n : Nat) (l : List UInt8) (es : List PEl), l.length ≤ n → elems l = some es → ∀ e ∈ es, e.1 ≤ 2 := by
  intro n
  induction n with
  | zero =>
    intro l es hl h
    have : l = [] := List.length_eq_zero_iff.1 (by omega)
    subst this
    injection h with h
    subst h
    intro e he; cases he
  | succ n ih =>
    intro l es hl h
    match l, hl, h with
    | [], _, h => injection h with h; subst h; intro e he; cases he
    | [c], hl, h =>
      rw [elems] at h
      have one : ∀ x : PEl, x.1 ≤ 2 → some [x] = some es → ∀ e ∈ es, e.1 ≤ 2 := fun x hx h => by
        injection h with h; subst h
        intro e he
        rw [List.mem_singleton.1 he]; exact hx
      split at h
      · exact one _ (by decide) h
      · split at h
        · exact one _ (by decide) h
        · split at h
          · cases h
          · exact one (0, c) (Nat.zero_le _) h
    | c :: d :: r, hl, h =>
      rw [elems] at h
      simp only [List.length_cons] at hl
      split at h
      · exact map_kinds (e := (2, 0)) (by decide) (fun l hl2 => ih _ _ (by simp only [List.length_cons]; omega) hl2) h
      · split at h
        · exact map_kinds (e := (1, 0)) (by decide) (fun l hl2 => ih _ _ (by simp only [List.length_cons]; omega) hl2) h
        · split at h
          · exact map_kinds (e := (0, d)) (Nat.zero_le _) (fun l hl2 => ih _ _ (by omega) hl2) h
          · exact map_kinds (e := (0, c)) (Nat.zero_le _) (fun l hl2 => ih _ _ (by simp only [List.length_cons]; omega) hl2) h
/-- The set that the machine keeps is the document's row. -/
theorem set_row (es : List PEl) (hkd : ∀ e ∈ es, e.1 ≤ 2) (s : List UInt8) : setOf es s = outR es s := by
  have hl : (outR es s).length = es.length + 1 := by simp [outR]
  refine List.ext_getElem (by rw [setOf_length, hl]) fun i h1 h2 => ?_
  rw [hl] at h2
  have e1 := set_mt es s i (by omega)
  have e2 := tab_mt es hkd s i (by omega) s.length (Nat.le_refl _)
  rw [List.take_length] at e2
  rw [Bool.eq_iff_iff]
  rw [List.getD_eq_getElem?_getD, List.getElem?_eq_getElem h1] at e1
  have e3 : (outR es s)[i]'(by rw [hl]; exact h2) = (tabR (es.take i) s).getD s.length false := by simp [outR]
  rw [e3, e2]
  exact e1
theorem alive_row (es : List PEl) (hkd : ∀ e ∈ es, e.1 ≤ 2) (s : List UInt8) : aliveM (wildM es) s = (outR es s).any id := by
  rw [← set_row es hkd]
  unfold aliveM
  rcases run_set es s with ⟨h1, h2⟩ | ⟨h1, h2⟩
  · rw [h1, h2]; simp
  · rw [h1, h2, decide_eq_true (strB_ne (by rw [setOf_length]; omega))]
theorem acc_row (es : List PEl) (hkd : ∀ e ∈ es, e.1 ≤ 2) (s : List UInt8) : accM (wildM es) s = (outR es s).getD es.length false := by
  rw [← set_row es hkd, Bool.eq_iff_iff, acc_mt, set_mt es s es.length (Nat.le_refl _)]
/-- Does w begin with s? (lists) -/
def headB (w s : List UInt8) : Bool := decide (s.length ≤ w.length) && decide (s = w.take s.length)
theorem headB_iff (w s : List UInt8) : headB w s = true ↔ s.length ≤ w.length ∧ s = w.take s.length := by simp [headB]
theorem headB_nil (w : List UInt8) : headB w [] = true := by simp [headB]
theorem headB_snoc (w s : List UInt8) (b : UInt8) : headB w (s ++ [b]) = (headB w s && decide (s.length < w.length ∧ w.getD s.length 0 = b)) := by
  rw [Bool.eq_iff_iff, headB_iff, Bool.and_eq_true, headB_iff, decide_eq_true_eq, List.length_append, List.length_singleton]
  constructor
  · rintro ⟨h1, h2⟩
    have h3 : w.take (s.length + 1) = w.take s.length ++ [w.getD s.length 0] := by
      rw [List.take_add_one, List.getElem?_eq_getElem (by omega), List.getD_eq_getElem?_getD, List.getElem?_eq_getElem (by omega)]; rfl
    rw [h3] at h2
    obtain ⟨h4, h5⟩ := List.append_inj' h2 rfl
    injection h5 with h5
    exact ⟨⟨by omega, h4⟩, by omega, h5.symm⟩
  · rintro ⟨⟨h1, h2⟩, h3, h4⟩
    refine ⟨by omega, ?_⟩
    rw [List.take_add_one, List.getElem?_eq_getElem h3, ← h2]
    rw [List.getD_eq_getElem?_getD, List.getElem?_eq_getElem h3] at h4
    rw [← h4]; rfl
theorem headB_len {w s : List UInt8} (h : headB w s = true) : s.length ≤ w.length := ((headB_iff w s).1 h).1
theorem headB_eq {w s : List UInt8} (h : headB w s = true) (hl : s.length = w.length) : s = w := by
  have := ((headB_iff w s).1 h).2
  rwa [hl, List.take_length] at this
theorem headB_self (w : List UInt8) : headB w w = true := (headB_iff w w).2 ⟨Nat.le_refl _, by rw [List.take_length]⟩
theorem run_exact (w : List UInt8) (hw : w.length < 4294967295) (s : List UInt8) : runM (exactM w) s = if headB w s then placeS s.length else ⟨#[]⟩ := by
  induction s using snocI with
  | h0 => rw [headB_nil, if_pos rfl]; rfl
  | h1 s b ih =>
    rw [runM_snoc, ih, headB_snoc]
    cases h : headB w s
    · rw [Bool.false_and, if_neg (by simp), if_neg (by simp)]; unfold stepM; rw [if_pos rfl]
    · have hl := headB_len h
      rw [Bool.true_and, if_pos rfl]
      unfold stepM
      rw [if_neg (placeS_ne _)]
      show (if numB (placeS s.length) < w.length ∧ w.getD (numB (placeS s.length)) 0 = b then placeS (numB (placeS s.length) + 1) else ⟨#[]⟩) = _
      rw [numB_place _ (by omega), List.length_append, List.length_singleton]
      by_cases hc : s.length < w.length ∧ w.getD s.length 0 = b
      · rw [if_pos hc, decide_eq_true hc, if_pos rfl]
      · rw [if_neg hc, decide_eq_false hc, if_neg (by simp)]
theorem acc_exact (w : List UInt8) (hw : w.length < 4294967295) (s : List UInt8) : accM (exactM w) s = decide (s = w) := by
  unfold accM
  rw [run_exact w hw]
  cases h : headB w s
  · rw [if_neg (by simp)]
    rw [Bool.eq_iff_iff]
    constructor
    · intro h2; simp at h2
    · intro h2
      have h2 := of_decide_eq_true h2
      subst h2; rw [headB_self] at h; cases h
  · rw [if_pos rfl, decide_eq_true (placeS_ne _), Bool.true_and]
    show decide (numB (placeS s.length) = w.length) = _
    have hl := headB_len h
    rw [numB_place _ (by omega), Bool.eq_iff_iff, decide_eq_true_eq, decide_eq_true_eq]
    exact ⟨fun e => headB_eq h e, fun e => by rw [e]⟩
theorem alive_exact (w : List UInt8) (hw : w.length < 4294967295) (s : List UInt8) : aliveM (exactM w) s = headB w s := by
  unfold aliveM
  rw [run_exact w hw]
  cases h : headB w s
  · rw [if_neg (by simp)]; simp
  · rw [if_pos rfl, decide_eq_true (placeS_ne _)]
/-- Of a head: it has been read, or what has been read begins it. -/
theorem run_prefix (w : List UInt8) (hw : w.length < 4294967295) (s : List UInt8) : runM (prefixM w) s = if headB s w then placeS w.length else if headB w s then placeS s.length else ⟨#[]⟩ := by
  induction s using snocI with
  | h0 =>
    rw [headB_nil, if_pos rfl]
    show placeS 0 = _
    cases h : headB [] w
    · rw [if_neg (by simp)]; rfl
    · rw [if_pos rfl]
      have := headB_len h
      rw [show w.length = 0 by simpa using this]
  | h1 s b ih =>
    have hsw : headB (s ++ [b]) w = (headB s w || headB w (s ++ [b]) && decide ((s ++ [b]).length = w.length)) := by
      rw [Bool.eq_iff_iff, Bool.or_eq_true, Bool.and_eq_true, headB_iff, headB_iff, headB_iff, decide_eq_true_eq]
      constructor
      · rintro ⟨h1, h2⟩
        rcases Nat.lt_or_ge s.length w.length with h3 | h3
        · right
          have h4 : (s ++ [b]).length = w.length := by
            rw [List.length_append, List.length_singleton] at h1 ⊢; omega
          have h5 : w = s ++ [b] := by rw [h2, ← h4, List.take_length]
          rw [← h5]; exact ⟨⟨Nat.le_refl _, by rw [List.take_length]⟩, rfl⟩
        · left
          refine ⟨h3, ?_⟩
          rw [List.take_append_of_le_length h3] at h2
          exact h2
      · rintro (⟨h1, h2⟩ | ⟨⟨h1, h2⟩, h3⟩)
        · exact ⟨by rw [List.length_append]; omega, by rw [List.take_append_of_le_length h1]; exact h2⟩
        · rw [h3, List.take_length] at h2
          rw [h2]; exact ⟨Nat.le_refl _, by rw [List.take_length]⟩
    rw [runM_snoc]
    cases h : headB s w
    · cases h2 : headB w s
      · have ih2 : runM (prefixM w) s = ⟨#[]⟩ := by rw [ih, h, h2]; rfl
        have h3 : headB w (s ++ [b]) = false := by rw [headB_snoc, h2]; rfl
        unfold stepM
        rw [ih2, if_pos rfl, hsw, h, h3]; rfl
      · have ih2 : runM (prefixM w) s = placeS s.length := by rw [ih, h, h2]; rfl
        have hl := headB_len h2
        have hne : s.length ≠ w.length := fun e => by
          have := headB_eq h2 e
          subst this; rw [headB_self] at h; cases h
        unfold stepM
        rw [ih2, if_neg (placeS_ne _)]
        show (if numB (placeS s.length) = w.length then placeS s.length else if w.getD (numB (placeS s.length)) 0 = b then placeS (numB (placeS s.length) + 1) else ⟨#[]⟩) = _
        rw [numB_place _ (by omega), if_neg hne, hsw, h, Bool.false_or, headB_snoc, h2, Bool.true_and]
        by_cases hc : w.getD s.length 0 = b
        · rw [if_pos hc, decide_eq_true (show s.length < w.length ∧ w.getD s.length 0 = b from ⟨by omega, hc⟩), Bool.true_and]
          by_cases he : (s ++ [b]).length = w.length
          · rw [decide_eq_true he, if_pos rfl, ← he, List.length_append, List.length_singleton]
          · rw [decide_eq_false he, if_neg (by simp), if_pos rfl, List.length_append, List.length_singleton]
        · rw [if_neg hc, decide_eq_false (fun e : s.length < w.length ∧ w.getD s.length 0 = b => hc e.2), Bool.false_and]; rfl
    · have ih2 : runM (prefixM w) s = placeS w.length := by rw [ih, h]; rfl
      unfold stepM
      rw [ih2, if_neg (placeS_ne _)]
      show (if numB (placeS w.length) = w.length then placeS w.length else _) = _
      rw [numB_place _ (by omega), if_pos rfl, hsw, h, Bool.true_or, if_pos rfl]
theorem acc_prefix (w : List UInt8) (hw : w.length < 4294967295) (s : List UInt8) : accM (prefixM w) s = headB s w := by
  unfold accM
  rw [run_prefix w hw]
  cases h : headB s w
  · rw [if_neg (by simp)]
    cases h2 : headB w s
    · rw [if_neg (by simp)]; simp
    · rw [if_pos rfl, decide_eq_true (placeS_ne _), Bool.true_and]
      show decide (numB (placeS s.length) = w.length) = false
      have hl := headB_len h2
      rw [numB_place _ (by omega)]
      refine decide_eq_false fun e => ?_
      have := headB_eq h2 e
      subst this; rw [headB_self] at h; cases h
  · rw [if_pos rfl, decide_eq_true (placeS_ne _), Bool.true_and]
    show decide (numB (placeS w.length) = w.length) = true
    rw [numB_place _ (by omega), decide_eq_true rfl]
theorem alive_prefix (w : List UInt8) (hw : w.length < 4294967295) (s : List UInt8) : aliveM (prefixM w) s = (headB w s || headB s w) := by
  unfold aliveM
  rw [run_prefix w hw]
  cases h : headB s w
  · rw [if_neg (by simp), Bool.or_false]
    cases h2 : headB w s
    · rw [if_neg (by simp)]; simp
    · rw [if_pos rfl, decide_eq_true (placeS_ne _)]
  · rw [if_pos rfl, decide_eq_true (placeS_ne _), Bool.or_true]

theorem run_fz2 (w : List UInt8) (m : Nat) (hm : m ≤ 2) (s : List UInt8) : runM (fuzzM w m) s = ⟨#[]⟩ ∨ (runM (fuzzM w m) s = strN (fzOf w m s) ∧ ∃ x ∈ fzOf w m s, x ≤ m) := by
  induction s using snocF with
  | h0 =>
    refine .inr ⟨rfl, 0, ?_, Nat.zero_le _⟩
    show 0 ∈ startF w m
    unfold startF
    exact List.mem_map.2 ⟨0, List.mem_range.2 (by omega), by simp⟩
  | h1 s b ih =>
    rw [runM_snoc, fzOf_snoc]
    rcases ih with h1 | ⟨h1, _⟩
    · exact .inl (by rw [h1]; rfl)
    · rw [h1]
      unfold stepM
      rw [if_neg (strN_ne (by rw [fzOf_length]; omega))]
      show ((if (stepF w m (natsOf (strN (fzOf w m s))) b).any (fun x => decide (x ≤ m)) then strN (stepF w m (natsOf (strN (fzOf w m s))) b) else ⟨#[]⟩) = _) ∨ ((if (stepF w m (natsOf (strN (fzOf w m s))) b).any (fun x => decide (x ≤ m)) then strN (stepF w m (natsOf (strN (fzOf w m s))) b) else ⟨#[]⟩) = _ ∧ _)
      rw [natsOf_strN (fun x hx => by have := fzOf_le w m s x hx; omega)]
      cases hA : (stepF w m (fzOf w m s) b).any (fun x => decide (x ≤ m))
      · exact .inl (by rw [if_neg (by simp)])
      · refine .inr ⟨by rw [if_pos rfl], ?_⟩
        obtain ⟨x, hx, h⟩ := List.any_eq_true.1 hA
        exact ⟨x, hx, of_decide_eq_true h⟩
theorem alive_fz (w : List UInt8) (m : Nat) (hm : m ≤ 2) (s : List UInt8) : aliveM (fuzzM w m) s = (List.range (w.length + 1)).any (fun k => decide (lt w s k s.length ≤ m)) := by
  have key : (∃ x ∈ fzOf w m s, x ≤ m) ↔ ∃ k, k < w.length + 1 ∧ lt w s k s.length ≤ m := by
    have hg : ∀ k, k ≤ w.length → (fzOf w m s).getD k 0 = min (lt w s k s.length) (m + 1) := fun k hk => by
      rw [fz_lev w m s k hk]; unfold lt; rw [List.take_length]
    constructor
    · rintro ⟨x, hx, hm⟩
      obtain ⟨k, hk, rfl⟩ := List.mem_iff_getElem.1 hx
      have hk2 := hk
      rw [fzOf_length] at hk
      have h := hg k (by omega)
      rw [List.getD_eq_getElem?_getD, List.getElem?_eq_getElem hk2] at h
      have h : (fzOf w m s)[k] = min (lt w s k s.length) (m + 1) := h
      exact ⟨k, hk, by omega⟩
    · rintro ⟨k, hk, h⟩
      have hk2 : k < (fzOf w m s).length := by rw [fzOf_length]; exact hk
      have h2 := hg k (by omega)
      rw [List.getD_eq_getElem?_getD, List.getElem?_eq_getElem hk2] at h2
      have h2 : (fzOf w m s)[k] = min (lt w s k s.length) (m + 1) := h2
      exact ⟨_, List.getElem_mem hk2, by omega⟩
  rw [Bool.eq_iff_iff, List.any_eq_true]
  have e : aliveM (fuzzM w m) s = true ↔ ∃ x ∈ fzOf w m s, x ≤ m := by
    unfold aliveM
    rw [decide_eq_true_eq]
    constructor
    · intro h
      rcases run_fz2 w m hm s with h1 | ⟨_, h1⟩
      · exact absurd h1 h
      · exact h1
    · rintro ⟨x, hx, hle⟩ h
      rcases run_fz w m hm s with ⟨_, h2⟩ | h2
      · have := h2 x hx; omega
      · rw [h2] at h; exact strN_ne (by rw [fzOf_length]; omega) h
  rw [e, key]
  constructor
  · rintro ⟨k, hk, h⟩; exact ⟨k, List.mem_range.2 hk, decide_eq_true h⟩
  · rintro ⟨k, hk, h⟩; exact ⟨k, List.mem_range.1 hk, of_decide_eq_true h⟩
end Go.Proofs.YtejmjjgbbojfbaaDoor

/- The machine of two bounds: between, both, start. -/
namespace Go.Proofs.YtejmjjgbbojfbaaDoor
set_option linter.unusedVariables false
open Go.ChangeShapes Go.WideShapes Go.ChangeAt Go.RowKit

/-- May some text lie between the bounds, where so much of them has been read (one more than that; 0 where the text has been left)? -/
def spanBt (b d : Bool) (s t : ByteArray) (L H : Nat) : Bool :=
  if H = 0 then true else if L = 0 then decide (H ≤ t.size) || d else if (s.toList == t.toList) = true then b && d else if Op.bytesLess s.toList t.toList = false then false else b || (d || !(t.toList == (s ++ ⟨#[0]⟩).toList))
theorem gtr_str (t : TypeId) (a b : ByteArray) (w : World) : (binOp .gtr t (.string a) (.string b)).run Tryd.prog w = .ok (.bool (!Op.bytesLess a.toList b.toList && !(a.toList == b.toList))) w := by
  simp [binOp, Op.stringOp]
set_option maxRecDepth 100000 in
set_option maxHeartbeats 1000000 in
theorem sbtw_any (w : World) (a b : Bool) (s : ByteArray) (c d : Bool) (t : ByteArray) (L H : Nat) (hL : L ≤ s.size + 1) (hH : H ≤ t.size + 1) (hs : s.size ≤ 1000000000) (ht : t.size ≤ 1000000000) :
    Calls Tryd.prog 127 #[.agg #[.bool a, .bool b, .string s, .bool c, .bool d, .string t], .int .i64 ((L : Int) - 1), .int .i64 ((H : Int) - 1)] w fun e w' => e = .returned (.bool (spanBt b d s t L H)) ∧ Below w.heap.size w w' := by
  have HB := Lib.hid (fun o : Obj => (Below.refl w.heap.size w).alloc (Nat.le_refl _) o)
  obtain ⟨lo, hlo⟩ : ∃ lo : Int, (L : Int) - 1 = lo := ⟨_, rfl⟩
  obtain ⟨hi, hhi⟩ : ∃ hi : Int, (H : Int) - 1 = hi := ⟨_, rfl⟩
  rw [hlo, hhi]
  by_cases h0 : H = 0
  · have hres : spanBt b d s t L H = true := by unfold spanBt; rw [if_pos h0]
    rw [hres]
    have t1 : decide (hi < 0) = true := decide_eq_true (by omega)
    clear hres h0 hlo hhi
    go_enter Tryd.func127, Tryd.ntmps127
    go_wp2
    go_quiet (fail)
    go_wp2
    go_ret
    exact ⟨rfl, below_drewN (HB.out _) _⟩
  have t1 : decide (hi < 0) = false := decide_eq_false (by omega)
  by_cases h1 : L = 0
  · have t2 : decide (lo < 0) = true := decide_eq_true (by omega)
    by_cases h2 : H ≤ t.size
    · have hres : spanBt b d s t L H = true := by unfold spanBt; rw [if_neg h0, if_pos h1, decide_eq_true h2]; rfl
      rw [hres]
      have t3 : decide (hi < (t.size : Int)) = true := decide_eq_true (by omega)
      clear hres h0 hlo hhi h1 h2
      go_enter Tryd.func127, Tryd.ntmps127
      go_wp2
      go_quiet (fail)
      go_wp2
      go_ret
      exact ⟨rfl, below_drewN (HB.out _) _⟩
    · have hres : spanBt b d s t L H = d := by unfold spanBt; rw [if_neg h0, if_pos h1, decide_eq_false h2]; rfl
      rw [hres]
      have t3 : decide (hi < (t.size : Int)) = false := decide_eq_false (by omega)
      clear hres h0 hlo hhi h1 h2
      go_enter Tryd.func127, Tryd.ntmps127
      go_wp2
      go_quiet (fail)
      go_wp2
      go_ret
      exact ⟨rfl, below_drewN (HB.out _) _⟩
  have t2 : decide (lo < 0) = false := decide_eq_false (by omega)
  have hgt := fun W => gtr_str 9 s t W
  have hsum : s.size + (⟨#[0]⟩ : ByteArray).size ≤ 9223372036854775807 := by show s.size + 1 ≤ _; omega
  cases he : (s.toList == t.toList) with
  | true =>
    have hres : spanBt b d s t L H = (b && d) := by unfold spanBt; rw [if_neg h0, if_neg h1, if_pos he]
    rw [hres]
    clear hres h0 hlo hhi h1 hgt
    cases b
    · go_enter Tryd.func127, Tryd.ntmps127
      go_wp2
      go_quiet (fail)
      go_wp2
      go_ret
      exact ⟨rfl, below_drewN (HB.out _) _⟩
    · go_enter Tryd.func127, Tryd.ntmps127
      go_wp2
      go_quiet (fail)
      go_wp2
      go_ret
      exact ⟨rfl, below_drewN (HB.out _) _⟩
  | false =>
    cases hl : Op.bytesLess s.toList t.toList with
    | true =>
      have hres : spanBt b d s t L H = (b || (d || !(t.toList == (s ++ ⟨#[0]⟩).toList))) := by unfold spanBt; rw [if_neg h0, if_neg h1, if_neg (by rw [he]; simp), if_neg (by rw [hl]; simp)]
      rw [hres]
      clear hres h0 hlo hhi h1
      cases b
      · cases d
        · go_enter Tryd.func127, Tryd.ntmps127
          go_wp2
          go_quiet (fail)
          go_wp2
          go_ret
          exact ⟨rfl, below_drewN (HB.out _) _⟩
        · go_enter Tryd.func127, Tryd.ntmps127
          go_wp2
          go_quiet (fail)
          go_wp2
          go_ret
          exact ⟨rfl, below_drewN (HB.out _) _⟩
      · go_enter Tryd.func127, Tryd.ntmps127
        go_wp2
        go_quiet (fail)
        go_wp2
        go_ret
        exact ⟨rfl, below_drewN (HB.out _) _⟩
    | false =>
      have hres : spanBt b d s t L H = false := by unfold spanBt; rw [if_neg h0, if_neg h1, if_neg (by rw [he]; simp), if_pos hl]
      rw [hres]
      clear hres h0 hlo hhi h1
      go_enter Tryd.func127, Tryd.ntmps127
      go_wp2
      go_quiet (fail)
      go_wp2
      go_ret
      exact ⟨rfl, below_drewN (HB.out _) _⟩
end Go.Proofs.YtejmjjgbbojfbaaDoor

/- The machine of two bounds: both, start. -/
namespace Go.Proofs.YtejmjjgbbojfbaaDoor
set_option linter.unusedVariables false
open Go.ChangeShapes Go.WideShapes Go.ChangeAt Go.RowKit

/-- The description of two readings. -/
def spanS (b d : Bool) (s t : ByteArray) (L H : Nat) : ByteArray := if spanBt b d s t L H = true then placeS L ++ placeS H else ⟨#[]⟩
set_option maxRecDepth 100000 in
set_option maxHeartbeats 1000000 in
theorem sboth_any (w : World) (a b : Bool) (s : ByteArray) (c d : Bool) (t : ByteArray) (L H : Nat) (hL : L ≤ s.size + 1) (hH : H ≤ t.size + 1) (hs : s.size ≤ 1000000000) (ht : t.size ≤ 1000000000) (lo hi : Int) (hlo : lo + 1 = (L : Int)) (hhi : hi + 1 = (H : Int)) :
    Calls Tryd.prog 126 #[.agg #[.bool a, .bool b, .string s, .bool c, .bool d, .string t], .int .i64 lo, .int .i64 hi] w fun e w' => e = .returned (.string (spanS b d s t L H)) ∧ Below w.heap.size w w' := by
  have C1 := fun W => sbtw_any W a b s c d t L H hL hH hs ht
  rw [show (L : Int) - 1 = lo by omega, show (H : Int) - 1 = hi by omega] at C1
  have HC1 := Lib.hid C1
  have HC2 := Lib.hid (fun W => place_any W L (by omega))
  have HC3 := Lib.hid (fun W => place_any W H (by omega))
  have z1 := placeS_size L
  have z2 := placeS_size H
  have hsum : (placeS L).size + (placeS H).size ≤ 9223372036854775807 := by omega
  have HB := Lib.hid (fun o : Obj => (Below.refl w.heap.size w).alloc (Nat.le_refl _) o)
  have hw1 : IntKind.i64.wrap (lo + 1) = (L : Int) := by rw [IntKind.wrap_i64]; omega
  have hw2 : IntKind.i64.wrap (hi + 1) = (H : Int) := by rw [IntKind.wrap_i64]; omega
  clear C1 z1 z2 hs ht hL hH
  cases hb : spanBt b d s t L H with
  | false =>
    have hres : spanS b d s t L H = ⟨#[]⟩ := by unfold spanS; rw [if_neg (by rw [hb]; simp)]
    rw [hres]
    rw [hb] at HC1
    clear hres hlo hhi hb hsum
    go_enter Tryd.func126, Tryd.ntmps126
    go_wp2_with fail
    refine (HC1.out _).mono ?_
    rintro e w1 ⟨rfl, hb1⟩
    have HB1 := Lib.hid ((HB.out _).trans (hb1.mono (HB.out _).size))
    clear hb1
    go_wp2
    go_ret
    exact ⟨rfl, HB1.out⟩
  | true =>
    have hres : spanS b d s t L H = placeS L ++ placeS H := by unfold spanS; rw [if_pos hb]
    rw [hres]
    rw [hb] at HC1
    clear hres hb hlo hhi
    go_enter Tryd.func126, Tryd.ntmps126
    go_wp2_with fail
    refine (HC1.out _).mono ?_
    rintro e w1 ⟨rfl, hb1⟩
    have HB1 := Lib.hid ((HB.out _).trans (hb1.mono (HB.out _).size))
    clear hb1
    go_wp2_with fail
    refine (HC2.out _).mono ?_
    rintro e w2 ⟨rfl, hb2⟩
    have HB2 := Lib.hid (HB1.out.trans (hb2.mono HB1.out.size))
    clear hb2
    go_wp2_with fail
    refine (HC3.out _).mono ?_
    rintro e w3 ⟨rfl, hb3⟩
    have HB3 := Lib.hid (HB2.out.trans (hb3.mono HB2.out.size))
    clear hb3
    go_wp2
    go_ret
    exact ⟨rfl, HB3.out⟩
set_option maxRecDepth 100000 in
theorem sstart_any (w : World) (a b : Bool) (s : ByteArray) (c d : Bool) (t : ByteArray) (hs : s.size ≤ 1000000000) (ht : t.size ≤ 1000000000) :
    Calls Tryd.prog 124 #[.agg #[.bool a, .bool b, .string s, .bool c, .bool d, .string t]] w fun e w' => e = .returned (.string (spanS b d s t (if a then 0 else 1) (if c then 0 else 1))) ∧ Below w.heap.size w w' := by
  have HB := Lib.hid (fun o : Obj => (Below.refl w.heap.size w).alloc (Nat.le_refl _) o)
  have key : ∀ W, Calls Tryd.prog 126 #[.agg #[.bool a, .bool b, .string s, .bool c, .bool d, .string t], .int .i64 (if a then -1 else 0), .int .i64 (if c then -1 else 0)] W fun e w' => e = .returned (.string (spanS b d s t (if a then 0 else 1) (if c then 0 else 1))) ∧ Below W.heap.size W w' := fun W =>
    sboth_any W a b s c d t (if a then 0 else 1) (if c then 0 else 1) (by split <;> omega) (by split <;> omega) hs ht _ _ (by cases a <;> rfl) (by cases c <;> rfl)
  cases a <;> cases c
  all_goals
    simp only [if_true, if_false, Bool.false_eq_true] at key ⊢
    have HC := Lib.hid key
    clear key
    go_enter Tryd.func124, Tryd.ntmps124
    go_wp2_with fail
    refine (HC.out _).mono ?_
    rintro e w1 ⟨rfl, hb1⟩
    have HB1 := Lib.hid ((HB.out _).trans (hb1.mono (HB.out _).size))
    clear hb1
    go_wp2
    go_ret
    exact ⟨rfl, HB1.out⟩
end Go.Proofs.YtejmjjgbbojfbaaDoor
