/- What the machine of two bounds answers, by definition, in plain Lean. -/
import Derived.Test.YtejmjjgbbojfbaaDoorZG20
import Derived.Test.YtejmjjgbbojfbaaDoorZG21
import Derived.Test.YtejmjjgbbojfbaaDoorZG18
namespace Go.Proofs.YtejmjjgbbojfbaaDoor
set_option linter.unusedVariables false

theorem headB_cons (x y : UInt8) (X S : List UInt8) : headB (y :: S) (x :: X) = (decide (x = y) && headB S X) := by
  rw [Bool.eq_iff_iff, Bool.and_eq_true, headB_iff, headB_iff, decide_eq_true_eq, List.length_cons, List.length_cons, List.take_succ_cons]
  constructor
  · rintro ⟨h1, h2⟩
    injection h2 with h2 h3
    exact ⟨h2, by omega, h3⟩
  · rintro ⟨h2, h1, h3⟩
    exact ⟨by omega, by rw [h2, ← h3]⟩
theorem headB_cons_nil (x : UInt8) (X : List UInt8) : headB [] (x :: X) = false := by simp [headB]
theorem less_irrefl (X : List UInt8) : Op.bytesLess X X = false := by
  induction X with
  | nil => rfl
  | cons x X ih => simp [Op.bytesLess, ih, UInt8.lt_irrefl]
/-- What begins S is less than S just if it is shorter; S is not less than what begins it. -/
theorem less_head {S X : List UInt8} (h : headB S X = true) : Op.bytesLess X S = decide (X.length < S.length) := by
  induction X generalizing S with
  | nil => cases S <;> simp [Op.bytesLess]
  | cons x X ih =>
    cases S with
    | nil => rw [headB_cons_nil] at h; cases h
    | cons y S =>
      rw [headB_cons, Bool.and_eq_true, decide_eq_true_eq] at h
      obtain ⟨rfl, h⟩ := h
      have h1 : ¬ x < x := UInt8.lt_irrefl x
      simp [Op.bytesLess, ih h]
/-- Behind a difference nothing turns. -/
theorem less_far {S X : List UInt8} (h : headB S X = false) (Y : List UInt8) : Op.bytesLess (X ++ Y) S = Op.bytesLess X S := by
  induction X generalizing S with
  | nil => rw [headB_nil] at h; cases h
  | cons x X ih =>
    cases S with
    | nil => rfl
    | cons y S =>
      rw [headB_cons] at h
      show Op.bytesLess (x :: (X ++ Y)) (y :: S) = _
      simp only [Op.bytesLess]
      by_cases hx : x = y
      · subst hx
        rw [decide_eq_true rfl, Bool.true_and] at h
        rw [ih h]
      · have : (x == y) = false := by simpa using hx
        rw [this, Bool.false_and, Bool.false_and]
theorem headB_far {S X : List UInt8} (h : headB S X = false) (Y : List UInt8) : headB S (X ++ Y) = false := by
  induction X generalizing S with
  | nil => rw [headB_nil] at h; cases h
  | cons x X ih =>
    cases S with
    | nil => exact headB_cons_nil _ _
    | cons y S =>
      rw [headB_cons] at h
      show headB (y :: S) (x :: (X ++ Y)) = false
      rw [headB_cons]
      by_cases hx : x = y
      · subst hx
        rw [decide_eq_true rfl, Bool.true_and] at h ⊢
        exact ih h
      · rw [decide_eq_false hx, Bool.false_and]
theorem less_near {S X : List UInt8} (h : headB S X = true) (b : UInt8) : Op.bytesLess (X ++ [b]) S = decide (X.length < S.length ∧ (b < S.getD X.length 0 ∨ (b = S.getD X.length 0 ∧ X.length + 1 < S.length))) := by
  induction X generalizing S with
  | nil =>
    cases S with
    | nil => simp [Op.bytesLess]
    | cons y S =>
      simp only [List.nil_append, Op.bytesLess]
      rw [Bool.eq_iff_iff]
      cases S <;> simp [Op.bytesLess]
  | cons x X ih =>
    cases S with
    | nil => rw [headB_cons_nil] at h; cases h
    | cons y S =>
      rw [headB_cons, Bool.and_eq_true, decide_eq_true_eq] at h
      obtain ⟨rfl, h⟩ := h
      show Op.bytesLess (x :: (X ++ [b])) (x :: S) = _
      simp only [Op.bytesLess, ih h]
      rw [Bool.eq_iff_iff]
      simp [UInt8.lt_irrefl]
theorem less_zero {S T : List UInt8} (h : Op.bytesLess S T = true) : Op.bytesLess (S ++ [0]) T = true ∨ T = S ++ [0] := by
  induction S generalizing T with
  | nil =>
    cases T with
    | nil => cases h
    | cons y T =>
      by_cases hy : y = 0
      · subst hy
        cases T with
        | nil => exact .inr rfl
        | cons z T => left; simp [Op.bytesLess]
      · left
        have : (0 : UInt8) < y := UInt8.pos_iff_ne_zero.2 hy
        simp [Op.bytesLess, this]
  | cons x S ih =>
    cases T with
    | nil => cases h
    | cons y T =>
      simp only [Op.bytesLess, Bool.or_eq_true, Bool.and_eq_true, decide_eq_true_eq, beq_iff_eq] at h
      rcases h with h | ⟨rfl, h⟩
      · left; simp [Op.bytesLess, h]
      · rcases ih h with h | h
        · left; simp [Op.bytesLess, h]
        · right; rw [h]; rfl
theorem less_asymm {S T : List UInt8} (h : Op.bytesLess S T = true) : Op.bytesLess T S = false := by
  induction S generalizing T with
  | nil => cases T <;> simp [Op.bytesLess]
  | cons x S ih =>
    cases T with
    | nil => cases h
    | cons y T =>
      simp only [Op.bytesLess, Bool.or_eq_true, Bool.and_eq_true, decide_eq_true_eq, beq_iff_eq] at h
      rcases h with h | ⟨rfl, h⟩
      · have h1 : ¬ y < x := by rw [UInt8.lt_iff_toNat_lt] at h ⊢; omega
        have h2 : (y == x) = false := by
          rw [beq_eq_false_iff_ne]; intro e; subst e; exact UInt8.lt_irrefl _ h
        simp [Op.bytesLess, h1, h2]
      · simp [Op.bytesLess, ih h, UInt8.lt_irrefl]
theorem less_ne {S T : List UInt8} (h : Op.bytesLess S T = true) : S ≠ T := fun e => by subst e; rw [less_irrefl] at h; cases h
/-- How two texts with a common head go on. -/
theorem less_split {S T X : List UInt8} (hS : headB S X = true) (hT : headB T X = true) (h : X.length < T.length) (h2 : X.length = S.length ∨ S.getD X.length 0 < T.getD X.length 0) : Op.bytesLess S T = true := by
  induction X generalizing S T with
  | nil =>
    cases T with
    | nil => simp at h
    | cons y T =>
      cases S with
      | nil => rfl
      | cons x S =>
        rcases h2 with h2 | h2
        · simp at h2
        · have h2 : x < y := h2
          simp [Op.bytesLess, h2]
  | cons z X ih =>
    cases T with
    | nil => simp at h
    | cons y T =>
      cases S with
      | nil => rw [headB_cons_nil] at hS; cases hS
      | cons x S =>
        rw [headB_cons, Bool.and_eq_true, decide_eq_true_eq] at hS hT
        obtain ⟨rfl, hS⟩ := hS
        obtain ⟨rfl, hT⟩ := hT
        have := ih hS hT (by simpa using h) (by
          rcases h2 with h2 | h2
          · left; simpa using h2
          · right; exact h2)
        simp [Op.bytesLess, this]

/-- The lower reading behind X: none, if X has fallen below. -/
def loR (a : Bool) (S X : List UInt8) : Option Nat := if a then some 0 else if headB S X then some (X.length + 1) else if Op.bytesLess X S then none else some 0
def hiR (c : Bool) (T X : List UInt8) : Option Nat := if c then some 0 else if headB T X then some (X.length + 1) else if Op.bytesLess X T then some 0 else none
def btw (b d : Bool) (S T : List UInt8) (L H : Nat) : Bool :=
  if H = 0 then true else if L = 0 then decide (H ≤ T.length) || d else if S = T then b && d else if Op.bytesLess S T = false then false else b || (d || decide (T ≠ S ++ [0]))
def stLo (S : List UInt8) (x : UInt8) (L : Nat) : Option Nat :=
  if L = 0 then some 0 else if L = S.length + 1 then some 0 else if (S.getD (L - 1) 0).toNat < x.toNat then some 0 else if x.toNat < (S.getD (L - 1) 0).toNat then none else some (L + 1)
def stHi (T : List UInt8) (x : UInt8) (H : Nat) : Option Nat :=
  if H = 0 then some 0 else if H = T.length + 1 then none else if (T.getD (H - 1) 0).toNat < x.toNat then none else if x.toNat < (T.getD (H - 1) 0).toNat then some 0 else some (H + 1)
theorem loR_snoc (a : Bool) (S X : List UInt8) (x : UInt8) : loR a S (X ++ [x]) = (loR a S X).bind (stLo S x) := by
  cases a
  · cases h : headB S X
    · have e1 : loR false S X = if Op.bytesLess X S then none else some 0 := by unfold loR; rw [h]; rfl
      have e2 : loR false S (X ++ [x]) = if Op.bytesLess X S then none else some 0 := by unfold loR; rw [headB_far h, less_far h]; rfl
      rw [e1, e2]
      split <;> rfl
    · have hl := headB_len h
      have e1 : loR false S X = some (X.length + 1) := by unfold loR; rw [h]; rfl
      have e2 : loR false S (X ++ [x]) = if decide (X.length < S.length ∧ S.getD X.length 0 = x) then some (X.length + 1 + 1) else if decide (X.length < S.length ∧ (x < S.getD X.length 0 ∨ (x = S.getD X.length 0 ∧ X.length + 1 < S.length))) then none else some 0 := by
        unfold loR; rw [headB_snoc, h, less_near h, List.length_append]; rfl
      rw [e1, e2]
      show _ = stLo S x (X.length + 1)
      unfold stLo
      rw [if_neg (show ¬ X.length + 1 = 0 by omega), Nat.add_sub_cancel]
      by_cases h1 : X.length = S.length
      · rw [if_pos (show X.length + 1 = S.length + 1 by omega), decide_eq_false (show ¬ (X.length < S.length ∧ S.getD X.length 0 = x) by omega), decide_eq_false (show ¬ (X.length < S.length ∧ (x < S.getD X.length 0 ∨ (x = S.getD X.length 0 ∧ X.length + 1 < S.length))) by omega)]; rfl
      · rw [if_neg (show ¬ X.length + 1 = S.length + 1 by omega)]
        by_cases h2 : (S.getD X.length 0).toNat < x.toNat
        · have n1 : ¬ (X.length < S.length ∧ S.getD X.length 0 = x) := by rintro ⟨_, h3⟩; rw [h3] at h2; omega
          have n2 : ¬ (X.length < S.length ∧ (x < S.getD X.length 0 ∨ (x = S.getD X.length 0 ∧ X.length + 1 < S.length))) := by
            rintro ⟨_, h3 | ⟨h3, _⟩⟩
            · rw [UInt8.lt_iff_toNat_lt] at h3; omega
            · rw [← h3] at h2; omega
          rw [if_pos h2, decide_eq_false n1, decide_eq_false n2]; rfl
        · rw [if_neg h2]
          by_cases h4 : x.toNat < (S.getD X.length 0).toNat
          · have n1 : ¬ (X.length < S.length ∧ S.getD X.length 0 = x) := by rintro ⟨_, h3⟩; rw [h3] at h4; omega
            have n2 : X.length < S.length ∧ (x < S.getD X.length 0 ∨ (x = S.getD X.length 0 ∧ X.length + 1 < S.length)) := ⟨by omega, .inl (UInt8.lt_iff_toNat_lt.2 h4)⟩
            rw [if_pos h4, decide_eq_false n1, decide_eq_true n2]; rfl
          · have h5 : S.getD X.length 0 = x := UInt8.toNat_inj.1 (by omega)
            have n1 : X.length < S.length ∧ S.getD X.length 0 = x := ⟨by omega, h5⟩
            rw [if_neg h4, decide_eq_true n1]; rfl
  · rfl
theorem hiR_snoc (c : Bool) (T X : List UInt8) (x : UInt8) : hiR c T (X ++ [x]) = (hiR c T X).bind (stHi T x) := by
  cases c
  · cases h : headB T X
    · have e1 : hiR false T X = if Op.bytesLess X T then some 0 else none := by unfold hiR; rw [h]; rfl
      have e2 : hiR false T (X ++ [x]) = if Op.bytesLess X T then some 0 else none := by unfold hiR; rw [headB_far h, less_far h]; rfl
      rw [e1, e2]
      split <;> rfl
    · have hl := headB_len h
      have e1 : hiR false T X = some (X.length + 1) := by unfold hiR; rw [h]; rfl
      have e2 : hiR false T (X ++ [x]) = if decide (X.length < T.length ∧ T.getD X.length 0 = x) then some (X.length + 1 + 1) else if decide (X.length < T.length ∧ (x < T.getD X.length 0 ∨ (x = T.getD X.length 0 ∧ X.length + 1 < T.length))) then some 0 else none := by
        unfold hiR; rw [headB_snoc, h, less_near h, List.length_append]; rfl
      rw [e1, e2]
      show _ = stHi T x (X.length + 1)
      unfold stHi
      rw [if_neg (show ¬ X.length + 1 = 0 by omega), Nat.add_sub_cancel]
      by_cases h1 : X.length = T.length
      · rw [if_pos (show X.length + 1 = T.length + 1 by omega), decide_eq_false (show ¬ (X.length < T.length ∧ T.getD X.length 0 = x) by omega), decide_eq_false (show ¬ (X.length < T.length ∧ (x < T.getD X.length 0 ∨ (x = T.getD X.length 0 ∧ X.length + 1 < T.length))) by omega)]; rfl
      · rw [if_neg (show ¬ X.length + 1 = T.length + 1 by omega)]
        by_cases h2 : (T.getD X.length 0).toNat < x.toNat
        · have n1 : ¬ (X.length < T.length ∧ T.getD X.length 0 = x) := by rintro ⟨_, h3⟩; rw [h3] at h2; omega
          have n2 : ¬ (X.length < T.length ∧ (x < T.getD X.length 0 ∨ (x = T.getD X.length 0 ∧ X.length + 1 < T.length))) := by
            rintro ⟨_, h3 | ⟨h3, _⟩⟩
            · rw [UInt8.lt_iff_toNat_lt] at h3; omega
            · rw [← h3] at h2; omega
          rw [if_pos h2, decide_eq_false n1, decide_eq_false n2]; rfl
        · rw [if_neg h2]
          by_cases h4 : x.toNat < (T.getD X.length 0).toNat
          · have n1 : ¬ (X.length < T.length ∧ T.getD X.length 0 = x) := by rintro ⟨_, h3⟩; rw [h3] at h4; omega
            have n2 : X.length < T.length ∧ (x < T.getD X.length 0 ∨ (x = T.getD X.length 0 ∧ X.length + 1 < T.length)) := ⟨by omega, .inl (UInt8.lt_iff_toNat_lt.2 h4)⟩
            rw [if_pos h4, decide_eq_false n1, decide_eq_true n2]; rfl
          · have h5 : T.getD X.length 0 = x := UInt8.toNat_inj.1 (by omega)
            have n1 : X.length < T.length ∧ T.getD X.length 0 = x := ⟨by omega, h5⟩
            rw [if_neg h4, decide_eq_true n1]; rfl
  · rfl
/-- Alive: both readings stand, and something may lie between. -/
def liveR (a b c d : Bool) (S T X : List UInt8) : Option (Nat × Nat) :=
  match loR a S X, hiR c T X with
  | some L, some H => if btw b d S T L H then some (L, H) else none
  | _, _ => none
theorem loR_le {a : Bool} {S X : List UInt8} {L : Nat} (h : loR a S X = some L) : L = 0 ∨ (L = X.length + 1 ∧ headB S X = true ∧ a = false) := by
  unfold loR at h
  split at h
  · injection h with h; exact .inl h.symm
  · split at h
    · injection h with h; exact .inr ⟨h.symm, by assumption, by simp_all⟩
    · split at h
      · cases h
      · injection h with h; exact .inl h.symm
theorem hiR_le {c : Bool} {T X : List UInt8} {H : Nat} (h : hiR c T X = some H) : H = 0 ∨ (H = X.length + 1 ∧ headB T X = true ∧ c = false) := by
  unfold hiR at h
  split at h
  · injection h with h; exact .inl h.symm
  · split at h
    · injection h with h; exact .inr ⟨h.symm, by assumption, by simp_all⟩
    · split at h
      · injection h with h; exact .inl h.symm
      · cases h
theorem stLo_cases {S : List UInt8} {x : UInt8} {L L2 : Nat} (h : stLo S x (L + 1) = some L2) : (L2 = 0 ∧ (L = S.length ∨ S.getD L 0 < x)) ∨ (L2 = L + 2 ∧ L ≠ S.length ∧ S.getD L 0 = x) := by
  unfold stLo at h
  rw [if_neg (by omega), Nat.add_sub_cancel] at h
  split at h
  · injection h with h; exact .inl ⟨h.symm, .inl (by omega)⟩
  · split at h
    · injection h with h; exact .inl ⟨h.symm, .inr (UInt8.lt_iff_toNat_lt.2 (by assumption))⟩
    · split at h
      · cases h
      · injection h with h; exact .inr ⟨by omega, by omega, UInt8.toNat_inj.1 (by omega)⟩
theorem stHi_cases {T : List UInt8} {x : UInt8} {H H2 : Nat} (h : stHi T x (H + 1) = some H2) : (H2 = 0 ∧ H ≠ T.length ∧ x < T.getD H 0) ∨ (H2 = H + 2 ∧ H ≠ T.length ∧ T.getD H 0 = x) := by
  unfold stHi at h
  rw [if_neg (by omega), Nat.add_sub_cancel] at h
  split at h
  · cases h
  · split at h
    · cases h
    · split at h
      · injection h with h; exact .inl ⟨h.symm, by omega, UInt8.lt_iff_toNat_lt.2 (by assumption)⟩
      · injection h with h; exact .inr ⟨by omega, by omega, UInt8.toNat_inj.1 (by omega)⟩
theorem getD_snoc (S : List UInt8) (n : Nat) (h : n < S.length) : (S ++ [0]).getD n 0 = S.getD n 0 := by
  rw [List.getD_eq_getElem?_getD, List.getElem?_append_left h, ← List.getD_eq_getElem?_getD]
theorem getD_last (S : List UInt8) : (S ++ [(0 : UInt8)]).getD S.length 0 = 0 := by
  rw [List.getD_eq_getElem?_getD, List.getElem?_append_right (Nat.le_refl _)]; simp
/-- What lives behind one byte more lived before. -/
theorem btw_back {a b c d : Bool} {S T X : List UInt8} {x : UInt8} {L H L2 H2 : Nat} (hL : loR a S X = some L) (hH : hiR c T X = some H) (hL2 : stLo S x L = some L2) (hH2 : stHi T x H = some H2) (h : btw b d S T L2 H2 = true) : btw b d S T L H = true := by
  unfold btw
  rcases hiR_le hH with rfl | ⟨rfl, hT, _⟩
  · rw [if_pos rfl]
  rw [if_neg (by omega)]
  have hlt := headB_len hT
  rcases loR_le hL with rfl | ⟨rfl, hS, _⟩
  · rw [if_pos rfl, Bool.or_eq_true, decide_eq_true_eq]
    rcases stHi_cases hH2 with ⟨_, h1, _⟩ | ⟨_, h1, _⟩ <;> exact .inl (by omega)
  · rw [if_neg (by omega)]
    have hls := headB_len hS
    rcases stLo_cases hL2 with ⟨rfl, h1⟩ | ⟨rfl, h1, h2⟩ <;> rcases stHi_cases hH2 with ⟨rfl, h3, h4⟩ | ⟨rfl, h3, h4⟩
    · have hST : Op.bytesLess S T = true := less_split hS hT (by omega) (by
        rcases h1 with h1 | h1
        · exact .inl h1
        · right; rw [UInt8.lt_iff_toNat_lt] at h1 h4 ⊢; omega)
      rw [if_neg (less_ne hST), hST, if_neg (by simp)]
      have : T ≠ S ++ [0] := fun e => by
        rw [e] at h4
        rcases h1 with h1 | h1
        · rw [h1, getD_last] at h4
          rw [UInt8.lt_iff_toNat_lt] at h4
          have : (0 : UInt8).toNat = 0 := rfl
          omega
        · have hx : X.length < S.length := by
            rw [e, List.length_append] at h3
            simp only [List.length_singleton] at h3
            rcases Nat.lt_or_ge X.length S.length with h5 | h5
            · exact h5
            · have h6 : X.length = S.length := by omega
              rw [h6, getD_last] at h4
              rw [UInt8.lt_iff_toNat_lt] at h4
              have : (0 : UInt8).toNat = 0 := rfl
              omega
          rw [getD_snoc _ _ hx] at h4
          rw [UInt8.lt_iff_toNat_lt] at h1 h4; omega
      rw [decide_eq_true this]; simp
    · have hST : Op.bytesLess S T = true := less_split hS hT (by omega) (by
        rcases h1 with h1 | h1
        · exact .inl h1
        · right; rw [h4]; exact h1)
      rw [if_neg (less_ne hST), hST, if_neg (by simp)]
      unfold btw at h
      rw [if_neg (by omega), if_pos rfl, Bool.or_eq_true, decide_eq_true_eq] at h
      rcases h with h | h
      · have : T ≠ S ++ [0] := fun e => by
          have h5 : T.length = S.length + 1 := by rw [e]; simp
          have hx : X.length < S.length := by omega
          rw [e, getD_snoc _ _ hx] at h4
          rcases h1 with h1 | h1
          · omega
          · rw [h4] at h1; exact UInt8.lt_irrefl _ h1
        rw [decide_eq_true this]; simp
      · rw [h]; simp
    · have hST : Op.bytesLess S T = true := less_split hS hT (by omega) (by right; rw [h2]; exact h4)
      rw [if_neg (less_ne hST), hST, if_neg (by simp)]
      have : T ≠ S ++ [0] := fun e => by
        have hx : X.length < S.length := by omega
        rw [e, getD_snoc _ _ hx, h2] at h4
        exact UInt8.lt_irrefl _ h4
      rw [decide_eq_true this]; simp
    · unfold btw at h
      rw [if_neg (by omega), if_neg (by omega)] at h
      exact h

def accR (a b c d : Bool) (S T X : List UInt8) : Bool :=
  if !a && (Op.bytesLess X S || ((X == S) && !b)) then false else c || (Op.bytesLess X T || ((X == T) && d))
def spAccL (b d : Bool) (S T : List UInt8) (L H : Nat) : Bool :=
  if L = 0 ∨ (L = S.length + 1 ∧ b = true) then (if H = T.length + 1 then d else true) else false
theorem head_ne {S X : List UInt8} (h : headB S X = false) : X ≠ S := fun e => by subst e; rw [headB_self] at h; cases h
/-- The lower bound is kept. -/
def lowOk (a b : Bool) (S X : List UInt8) : Bool := !(!a && (Op.bytesLess X S || ((X == S) && !b)))
def upOk (c d : Bool) (T X : List UInt8) : Bool := c || (Op.bytesLess X T || ((X == T) && d))
theorem accR_eq (a b c d : Bool) (S T X : List UInt8) : accR a b c d S T X = (lowOk a b S X && upOk c d T X) := by
  unfold accR lowOk upOk
  cases (!a && (Op.bytesLess X S || ((X == S) && !b))) <;> simp
theorem low_none {a b : Bool} {S X : List UInt8} (h : loR a S X = none) : lowOk a b S X = false := by
  unfold loR at h
  split at h
  · cases h
  · split at h
    · cases h
    · split at h
      · next h1 _ h2 => unfold lowOk; simp_all
      · cases h
theorem low_some {a b : Bool} {S X : List UInt8} {L : Nat} (h : loR a S X = some L) : lowOk a b S X = decide (L = 0 ∨ (L = S.length + 1 ∧ b = true)) := by
  unfold loR at h
  split at h
  · next h1 => injection h with h; subst h; unfold lowOk; rw [h1]; simp
  · next h1 =>
    split at h
    · next h2 =>
      injection h with h
      have hl := headB_len h2
      unfold lowOk
      rw [less_head h2]
      have ha : a = false := by simpa using h1
      rw [ha, Bool.eq_iff_iff, decide_eq_true_eq]
      subst h
      by_cases h3 : X.length = S.length
      · have := headB_eq h2 h3
        subst this
        simp
      · have hne : (X == S) = false := by rw [beq_eq_false_iff_ne]; intro e; rw [e] at h3; exact h3 rfl
        rw [hne, decide_eq_true (show X.length < S.length by omega)]
        simp only [Bool.not_false, Bool.true_and, Bool.false_and, Bool.or_false, Bool.not_true, Bool.false_eq_true, false_iff]
        omega
    · next h2 =>
      split at h
      · cases h
      · next h3 =>
        injection h with h; subst h
        have hne : (X == S) = false := by rw [beq_eq_false_iff_ne]; exact head_ne (by simpa using h2)
        unfold lowOk
        rw [hne, show Op.bytesLess X S = false by simpa using h3]; simp
theorem up_none {c d : Bool} {T X : List UInt8} (h : hiR c T X = none) : upOk c d T X = false := by
  unfold hiR at h
  split at h
  · cases h
  · next h1 =>
    split at h
    · cases h
    · next h2 =>
      split at h
      · cases h
      · next h3 =>
        have hne : (X == T) = false := by rw [beq_eq_false_iff_ne]; exact head_ne (by simpa using h2)
        unfold upOk
        rw [hne, show Op.bytesLess X T = false by simpa using h3, show c = false by simpa using h1]; simp
theorem up_some {c d : Bool} {T X : List UInt8} {H : Nat} (h : hiR c T X = some H) : upOk c d T X = (if H = T.length + 1 then d else true) := by
  unfold hiR at h
  split at h
  · next h1 => injection h with h; subst h; unfold upOk; rw [h1, if_neg (by omega)]; simp
  · next h1 =>
    have hc : c = false := by simpa using h1
    split at h
    · next h2 =>
      injection h with h
      have hl := headB_len h2
      unfold upOk
      rw [less_head h2, hc]
      subst h
      by_cases h3 : X.length = T.length
      · have := headB_eq h2 h3
        subst this
        rw [if_pos rfl]; simp
      · rw [if_neg (by omega), decide_eq_true (show X.length < T.length by omega)]; simp
    · next h2 =>
      split at h
      · next h3 => injection h with h; subst h; unfold upOk; rw [h3, if_neg (by omega)]; simp
      · cases h
theorem acc_some {a b c d : Bool} {S T X : List UInt8} {L H : Nat} (hL : loR a S X = some L) (hH : hiR c T X = some H) : spAccL b d S T L H = accR a b c d S T X := by
  rw [accR_eq, low_some hL, up_some hH]
  unfold spAccL
  by_cases h : L = 0 ∨ (L = S.length + 1 ∧ b = true)
  · rw [if_pos h, decide_eq_true h, Bool.true_and]
  · rw [if_neg h, decide_eq_false h, Bool.false_and]
/-- What is accepted lives. -/
theorem acc_btw {a b c d : Bool} {S T X : List UInt8} {L H : Nat} (hL : loR a S X = some L) (hH : hiR c T X = some H) (h : spAccL b d S T L H = true) : btw b d S T L H = true := by
  unfold spAccL at h
  unfold btw
  rcases hiR_le hH with rfl | ⟨rfl, hT, _⟩
  · rw [if_pos rfl]
  rw [if_neg (by omega)]
  have hlt := headB_len hT
  split at h
  · next h1 =>
    rcases loR_le hL with rfl | ⟨rfl, hS, _⟩
    · rw [if_pos rfl, Bool.or_eq_true, decide_eq_true_eq]
      split at h
      · exact .inr h
      · exact .inl (by omega)
    · rw [if_neg (by omega)]
      rcases h1 with h1 | ⟨h1, hb⟩
      · omega
      have hXS := headB_eq hS (by omega)
      subst hXS
      by_cases hST : X = T
      · rw [if_pos hST, hb]
        subst hST
        rw [if_pos rfl] at h
        rw [h]; rfl
      · rw [if_neg hST, less_head hT]
        have : X.length < T.length := by
          rcases Nat.lt_or_ge X.length T.length with h2 | h2
          · exact h2
          · exact absurd (headB_eq hT (by omega)) hST
        rw [decide_eq_true this, if_neg (by simp), hb]; rfl
  · cases h
theorem up_far {c d : Bool} {T X : List UInt8} (h : headB T X = false) (hu : upOk c d T X = true) (Y : List UInt8) : upOk c d T (X ++ Y) = true := by
  have hne : (X == T) = false := by rw [beq_eq_false_iff_ne]; exact head_ne h
  unfold upOk at hu ⊢
  rw [hne] at hu
  rw [less_far h]
  simp only [Bool.false_and, Bool.or_false] at hu
  rw [Bool.or_eq_true] at hu
  rcases hu with h1 | h1 <;> rw [h1] <;> simp
theorem low_zero (a b : Bool) (S : List UInt8) : lowOk a b S (S ++ [0]) = true := by
  unfold lowOk
  have h1 : Op.bytesLess (S ++ [0]) S = false := by
    rw [less_near (headB_self S)]; simp
  have h2 : ((S ++ [0]) == S) = false := by
    rw [beq_eq_false_iff_ne]; intro e
    have := congrArg List.length e
    simp at this
  rw [h1, h2]; simp
/-- What lives is accepted, or the least text above the lower bound is. -/
theorem live_acc {a b c d : Bool} {S T X : List UInt8} {L H : Nat} (hL : loR a S X = some L) (hH : hiR c T X = some H) (h : btw b d S T L H = true) :
    accR a b c d S T X = true ∨ (a = false ∧ headB S X = true ∧ (accR a b c d S T S = true ∨ accR a b c d S T (S ++ [0]) = true)) := by
  rcases loR_le hL with rfl | ⟨rfl, hS, ha⟩
  · left
    rw [← acc_some hL hH]
    unfold spAccL
    rw [if_pos (.inl rfl)]
    split
    · next h1 =>
      unfold btw at h
      rw [if_neg (by omega), if_pos rfl, Bool.or_eq_true, decide_eq_true_eq] at h
      rcases h with h | h
      · omega
      · exact h
    · rfl
  · refine .inr ⟨ha, hS, ?_⟩
    rw [accR_eq, accR_eq, low_zero, Bool.true_and]
    rcases hiR_le hH with rfl | ⟨rfl, hT, hc⟩
    · right
      have hu := up_some (d := d) hH
      rw [if_neg (by omega)] at hu
      cases c with
      | true => rfl
      | false =>
        have hTX : headB T X = false := by
          cases hh : headB T X
          · rfl
          · unfold hiR at hH; rw [hh] at hH; simp at hH
        obtain ⟨Y, hY⟩ : ∃ Y, S = X ++ Y := ⟨S.drop X.length, by
          have := ((headB_iff S X).1 hS).2
          conv => lhs; rw [← List.take_append_drop X.length S, ← this]⟩
        rw [hY, List.append_assoc]
        exact up_far hTX hu _
    · unfold btw at h
      rw [if_neg (by omega), if_neg (by omega)] at h
      by_cases hST : S = T
      · rw [if_pos hST] at h
        left
        rw [Bool.and_eq_true] at h
        subst hST
        unfold lowOk upOk
        rw [less_irrefl, h.1, h.2]; simp
      · rw [if_neg hST] at h
        split at h
        · cases h
        · next hl =>
          have hl : Op.bytesLess S T = true := by simpa using hl
          cases b with
          | true => left; unfold lowOk upOk; rw [less_irrefl, hl]; simp
          | false =>
            right
            rcases less_zero hl with h1 | h1
            · unfold upOk; rw [h1]; simp
            · rw [decide_eq_false (fun e => e h1)] at h
              unfold upOk
              rw [← h1]
              simp at h
              simp [h]

theorem spanBt_eq (b d : Bool) (s t : ByteArray) (L H : Nat) : spanBt b d s t L H = btw b d s.data.toList t.data.toList L H := by
  have h1 : (s ++ ⟨#[0]⟩).data.toList = s.data.toList ++ [0] := by
    rw [ByteArray.data_append]; simp
  have h2 : t.data.toList.length = t.size := Array.length_toList (xs := t.data)
  unfold spanBt btw
  rw [ByteArray.toList_eq, ByteArray.toList_eq, ByteArray.toList_eq, h1, h2]
  have h3 : (s.data.toList == t.data.toList) = decide (s.data.toList = t.data.toList) := by
    rw [Bool.eq_iff_iff, beq_iff_eq, decide_eq_true_eq]
  have h4 : (!(t.data.toList == s.data.toList ++ [0])) = decide (t.data.toList ≠ s.data.toList ++ [0]) := by
    rw [Bool.eq_iff_iff, decide_eq_true_eq]; simp
  rw [h3, h4]
  by_cases h : s.data.toList = t.data.toList
  · rw [if_pos (decide_eq_true h), if_pos h]
  · rw [decide_eq_false h, if_neg h]
    simp only [Bool.false_eq_true, if_false]
theorem spLo_eq (s : ByteArray) (x : UInt8) (L : Nat) : spLo s x L = stLo s.data.toList x L := by
  have h2 : s.data.toList.length = s.size := Array.length_toList (xs := s.data)
  unfold spLo stLo; rw [h2]
theorem spHi_eq (t : ByteArray) (x : UInt8) (H : Nat) : spHi t x H = stHi t.data.toList x H := by
  have h2 : t.data.toList.length = t.size := Array.length_toList (xs := t.data)
  unfold spHi stHi; rw [h2]
def descR (o : Option (Nat × Nat)) : ByteArray := match o with | some (L, H) => placeS L ++ placeS H | none => ⟨#[]⟩
theorem desc_ne (L H : Nat) : placeS L ++ placeS H ≠ ⟨#[]⟩ := fun e => by
  have := congrArg ByteArray.size e
  rw [ByteArray.size_append, placeS_size, placeS_size] at this
  have h2 : (⟨#[]⟩ : ByteArray).size = 0 := rfl
  omega
theorem spanS_eq (b d : Bool) (s t : ByteArray) (L H : Nat) : spanS b d s t L H = descR (if btw b d s.data.toList t.data.toList L H then some (L, H) else none) := by
  unfold spanS
  rw [spanBt_eq]
  split <;> rfl
theorem loR_bd {a : Bool} {S X : List UInt8} {L : Nat} (h : loR a S X = some L) : L ≤ S.length + 1 := by
  rcases loR_le h with rfl | ⟨rfl, h2, _⟩
  · omega
  · have := headB_len h2; omega
theorem hiR_bd {a : Bool} {S X : List UInt8} {L : Nat} (h : hiR a S X = some L) : L ≤ S.length + 1 := by
  rcases hiR_le h with rfl | ⟨rfl, h2, _⟩
  · omega
  · have := headB_len h2; omega
theorem descR_some (L H : Nat) : descR (some (L, H)) = placeS L ++ placeS H := rfl
theorem spanR_step (a b : Bool) (s : ByteArray) (c d : Bool) (t : ByteArray) (D : ByteArray) (x : UInt8) : (spanM a b s c d t).step D x = spStep b d s t (numB (D.extract 0 4)) (numB (D.extract 4 8)) x := rfl
theorem spanR_acc (a b : Bool) (s : ByteArray) (c d : Bool) (t : ByteArray) (D : ByteArray) : (spanM a b s c d t).acc D = spAcc b d s t (numB (D.extract 0 4)) (numB (D.extract 4 8)) := rfl
theorem stepM_nil (M : Mach) (b : UInt8) : stepM M ⟨#[]⟩ b = ⟨#[]⟩ := by unfold stepM; rw [if_pos rfl]
theorem run_span (a b : Bool) (s : ByteArray) (c d : Bool) (t : ByteArray) (hs : s.size < 4000000000) (ht : t.size < 4000000000) (X : List UInt8) :
    runM (spanM a b s c d t) X = descR (liveR a b c d s.data.toList t.data.toList X) := by
  have hsl : s.data.toList.length = s.size := Array.length_toList (xs := s.data)
  have htl : t.data.toList.length = t.size := Array.length_toList (xs := t.data)
  induction X using snocI with
  | h0 =>
    show spanS b d s t (if a then 0 else 1) (if c then 0 else 1) = _
    rw [spanS_eq]
    have e1 : loR a s.data.toList [] = some (if a then 0 else 1) := by
      unfold loR; rw [headB_nil]; cases a <;> rfl
    have e2 : hiR c t.data.toList [] = some (if c then 0 else 1) := by
      unfold hiR; rw [headB_nil]; cases c <;> rfl
    unfold liveR
    rw [e1, e2]
  | h1 X x ih =>
    rw [runM_snoc, ih]
    unfold liveR
    rw [loR_snoc, hiR_snoc]
    cases hL : loR a s.data.toList X with
    | none =>
      cases hH : hiR c t.data.toList X <;> exact stepM_nil _ _
    | some L =>
      cases hH : hiR c t.data.toList X with
      | none =>
        show _ = descR (match stLo s.data.toList x L, none with | some L, some H => if btw b d s.data.toList t.data.toList L H then some (L, H) else none | _, _ => none)
        cases stLo s.data.toList x L <;> exact stepM_nil _ _
      | some H =>
        show stepM _ (descR (if btw b d s.data.toList t.data.toList L H then some (L, H) else none)) x = descR (match stLo s.data.toList x L, stHi t.data.toList x H with | some L, some H => if btw b d s.data.toList t.data.toList L H then some (L, H) else none | _, _ => none)
        cases hb : btw b d s.data.toList t.data.toList L H
        · rw [if_neg (by simp)]
          have e : ∀ L2 H2, stLo s.data.toList x L = some L2 → stHi t.data.toList x H = some H2 → btw b d s.data.toList t.data.toList L2 H2 = false := fun L2 H2 h1 h2 => by
            cases h3 : btw b d s.data.toList t.data.toList L2 H2
            · rfl
            · rw [btw_back hL hH h1 h2 h3] at hb; cases hb
          unfold stepM
          rw [show descR none = ⟨#[]⟩ from rfl, if_pos rfl]
          cases h1 : stLo s.data.toList x L with
          | none => rfl
          | some L2 =>
            cases h2 : stHi t.data.toList x H with
            | none => rfl
            | some H2 =>
              show _ = descR (if btw b d s.data.toList t.data.toList L2 H2 then some (L2, H2) else none)
              rw [e L2 H2 h1 h2]; rfl
        · rw [if_pos rfl, descR_some]
          unfold stepM
          rw [if_neg (desc_ne L H)]
          rw [spanR_step, place2_l, place2_r, numB_place L (by have := loR_bd hL; omega), numB_place H (by have := hiR_bd hH; omega)]
          unfold spStep
          rw [spLo_eq, spHi_eq]
          cases h1 : stLo s.data.toList x L with
          | none => rfl
          | some L2 =>
            cases h2 : stHi t.data.toList x H with
            | none => rfl
            | some H2 => exact spanS_eq b d s t L2 H2
theorem acc_span (a b : Bool) (s : ByteArray) (c d : Bool) (t : ByteArray) (hs : s.size < 4000000000) (ht : t.size < 4000000000) (X : List UInt8) :
    accM (spanM a b s c d t) X = accR a b c d s.data.toList t.data.toList X := by
  have hsl : s.data.toList.length = s.size := Array.length_toList (xs := s.data)
  have htl : t.data.toList.length = t.size := Array.length_toList (xs := t.data)
  unfold accM
  rw [run_span a b s c d t hs ht]
  unfold liveR
  cases hL : loR a s.data.toList X with
  | none =>
    have h0 := low_none (b := b) hL
    rw [accR_eq, h0, Bool.false_and]
    rfl
  | some L =>
    cases hH : hiR c t.data.toList X with
    | none =>
      have h0 := up_none (d := d) hH
      rw [accR_eq, h0, Bool.and_false]
      rfl
    | some H =>
      rw [← acc_some hL hH]
      show (decide (descR (if btw b d s.data.toList t.data.toList L H then some (L, H) else none) ≠ ⟨#[]⟩) && (spanM a b s c d t).acc (descR (if btw b d s.data.toList t.data.toList L H then some (L, H) else none))) = _
      cases hb : btw b d s.data.toList t.data.toList L H
      · have : spAccL b d s.data.toList t.data.toList L H = false := by
          cases h : spAccL b d s.data.toList t.data.toList L H
          · rfl
          · rw [acc_btw hL hH h] at hb; cases hb
        rw [this]; rfl
      · rw [if_pos rfl]
        rw [descR_some, spanR_acc, decide_eq_true (desc_ne L H), Bool.true_and, place2_l, place2_r, numB_place L (by have := loR_bd hL; omega), numB_place H (by have := hiR_bd hH; omega)]
        unfold spAcc spAccL
        rw [hsl, htl]
theorem alive_span (a b : Bool) (s : ByteArray) (c d : Bool) (t : ByteArray) (hs : s.size < 4000000000) (ht : t.size < 4000000000) (X : List UInt8) :
    aliveM (spanM a b s c d t) X = (accR a b c d s.data.toList t.data.toList X || (!a && headB s.data.toList X && (accR a b c d s.data.toList t.data.toList s.data.toList || accR a b c d s.data.toList t.data.toList (s.data.toList ++ [0])))) := by
  have up : ∀ Y : List UInt8, accM (spanM a b s c d t) (X ++ Y) = true → aliveM (spanM a b s c d t) X = true := fun Y h => by
    unfold accM at h
    unfold aliveM
    rw [Bool.and_eq_true, decide_eq_true_eq] at h
    rw [decide_eq_true_eq]
    exact fun e => h.1 (runM_dead _ X Y e)
  rw [Bool.eq_iff_iff, Bool.or_eq_true, Bool.and_eq_true, Bool.and_eq_true, Bool.or_eq_true]
  constructor
  · intro h
    unfold aliveM at h
    rw [run_span a b s c d t hs ht, decide_eq_true_eq] at h
    unfold liveR at h
    cases hL : loR a s.data.toList X with
    | none => rw [hL] at h; exact absurd rfl h
    | some L =>
      cases hH : hiR c t.data.toList X with
      | none => rw [hL, hH] at h; exact absurd rfl h
      | some H =>
        rw [hL, hH] at h
        have hb : btw b d s.data.toList t.data.toList L H = true := by
          cases hb : btw b d s.data.toList t.data.toList L H
          · exfalso; apply h
            show descR (if btw b d s.data.toList t.data.toList L H then some (L, H) else none) = _
            rw [hb]; rfl
          · rfl
        rcases live_acc hL hH hb with h1 | ⟨h1, h2, h3⟩
        · exact .inl h1
        · exact .inr ⟨⟨by rw [h1]; rfl, h2⟩, h3⟩
  · rintro (h | ⟨⟨_, h2⟩, h3⟩)
    · exact up [] (by rw [List.append_nil, acc_span a b s c d t hs ht]; exact h)
    · obtain ⟨Y, hY⟩ : ∃ Y, s.data.toList = X ++ Y := ⟨s.data.toList.drop X.length, by
        have := ((headB_iff s.data.toList X).1 h2).2
        conv => lhs; rw [← List.take_append_drop X.length s.data.toList, ← this]⟩
      rcases h3 with h3 | h3
      · exact up Y (by rw [← hY, acc_span a b s c d t hs ht]; exact h3)
      · exact up (Y ++ [0]) (by rw [← List.append_assoc, ← hY, acc_span a b s c d t hs ht]; exact h3)
theorem accSp_eq (lop lin : Bool) (ls : ByteArray) (hop hin : Bool) (hs x : ByteArray) : accSp lop lin ls hop hin hs x = accR lop lin hop hin ls.data.toList hs.data.toList x.data.toList := by
  unfold accSp accR
  rw [ByteArray.toList_eq, ByteArray.toList_eq, ByteArray.toList_eq]
end Go.Proofs.YtejmjjgbbojfbaaDoor
