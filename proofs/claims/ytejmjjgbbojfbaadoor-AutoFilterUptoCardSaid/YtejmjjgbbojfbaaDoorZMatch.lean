/- What a pattern matches, and that its machine tells just that. No program occurs here. -/
import Derived.Test.YtejmjjgbbojfbaaDoorZG14
namespace Go.Proofs.YtejmjjgbbojfbaaDoor
set_option linter.unusedVariables false

/-- Do the first i elements match s? -/
def Mt (es : List PEl) : Nat → List UInt8 → Prop
  | 0, s => s = []
  | i + 1, s => (PEl.k es i = 2 ∧ ∃ j, j ≤ s.length ∧ Mt es i (s.take j)) ∨ (PEl.k es i = 1 ∧ ∃ t c, s = t ++ [c] ∧ Mt es i t) ∨ (PEl.k es i = 0 ∧ ∃ t, s = t ++ [PEl.b es i] ∧ Mt es i t)
theorem getD_set (l : List Bool) (i j : Nat) (v : Bool) : (l.set i v).getD j false = if i = j ∧ i < l.length then v else l.getD j false := by
  rw [List.getD_eq_getElem?_getD, List.getD_eq_getElem?_getD, List.getElem?_set]
  by_cases h : i = j
  · subst h
    by_cases h2 : i < l.length
    · simp [h2]
    · simp [h2]
  · simp [h]
theorem closeI_stay (es : List PEl) (s : List Bool) (m j : Nat) (h : m < j) : (closeI es s m).getD j false = s.getD j false := by
  induction m with
  | zero => rfl
  | succ m ih =>
    rw [closeI]
    split
    · rw [getD_set, if_neg (by omega)]; exact ih (by omega)
    · exact ih (by omega)
theorem closeI_done (es : List PEl) (s : List Bool) (i m : Nat) (h : i ≤ m) : (closeI es s m).getD i false = (closeI es s i).getD i false := by
  induction m with
  | zero => have : i = 0 := by omega
            subst this; rfl
  | succ m ih =>
    rcases Nat.lt_or_ge m i with h1 | h1
    · have : i = m + 1 := by omega
      subst this; rfl
    · rw [closeI]
      split
      · rw [getD_set, if_neg (by omega)]; exact ih h1
      · exact ih h1
theorem closeI_zero (es : List PEl) (s : List Bool) (m : Nat) : (closeI es s m).getD 0 false = s.getD 0 false := closeI_done es s 0 m (Nat.zero_le _)
theorem closeI_succ (es : List PEl) (s : List Bool) (i m : Nat) (h : i < m) (hl : i + 1 < s.length) : (closeI es s m).getD (i + 1) false = true ↔ s.getD (i + 1) false = true ∨ ((closeI es s m).getD i false = true ∧ PEl.k es i = 2) := by
  rw [closeI_done es s (i + 1) m h, closeI_done es s i m (by omega), closeI]
  have h1 := closeI_stay es s i (i + 1) (by omega)
  split
  · next hc => rw [getD_set, if_pos ⟨rfl, by rw [closeI_length]; exact hl⟩]; exact ⟨fun _ => .inr hc, fun _ => rfl⟩
  · next hc => rw [h1]; constructor
               · exact fun h => .inl h
               · rintro (h | h)
                 · exact h
                 · exact absurd h hc
theorem stepI_get (es : List PEl) (D : List Bool) (b : UInt8) (i m : Nat) (hl : i + 1 < D.length) : (stepI es D b m).getD (i + 1) false = true ↔ i < m ∧ takes es D b i := by
  induction m with
  | zero => rw [stepI, List.getD_eq_getElem?_getD, List.getElem?_replicate]; simp; split <;> simp
  | succ m ih =>
    rw [stepI]
    split
    · next hc =>
      rw [getD_set, stepI_length]
      by_cases h : m = i
      · subst h; rw [if_pos ⟨rfl, hl⟩]; simp [hc]
      · rw [if_neg (by omega), ih]
        constructor
        · exact fun h => ⟨by omega, h.2⟩
        · exact fun h2 => ⟨by omega, h2.2⟩
    · next hc =>
      rw [ih]
      constructor
      · exact fun h => ⟨by omega, h.2⟩
      · rintro ⟨h1, h2⟩
        refine ⟨?_, h2⟩
        rcases Nat.lt_or_ge i m with h3 | h3
        · exact h3
        · have : i = m := by omega
          subst this; exact absurd h2 hc
theorem stepI_zero (es : List PEl) (D : List Bool) (b : UInt8) (m : Nat) : (stepI es D b m).getD 0 false = false := by
  induction m with
  | zero => rw [stepI, List.getD_eq_getElem?_getD, List.getElem?_replicate]; split <;> rfl
  | succ m ih =>
    rw [stepI]
    split
    · rw [getD_set, if_neg (by omega)]; exact ih
    · exact ih
/-- The set behind s. -/
def setOf (es : List PEl) (s : List UInt8) : List Bool := s.foldl (stepL es) (startL es)
theorem setOf_snoc (es : List PEl) (s : List UInt8) (b : UInt8) : setOf es (s ++ [b]) = stepL es (setOf es s) b := by unfold setOf; rw [List.foldl_append]; rfl
theorem snocI {α : Type} {P : List α → Prop} (h0 : P []) (h1 : ∀ l x, P l → P (l ++ [x])) (l : List α) : P l := by
  have h : ∀ l : List α, P l.reverse := fun l => by
    induction l with
    | nil => exact h0
    | cons x l ih => rw [List.reverse_cons]; exact h1 _ _ ih
  rw [← List.reverse_reverse l]; exact h _
theorem setOf_length (es : List PEl) (s : List UInt8) : (setOf es s).length = es.length + 1 := by
  induction s using snocI with
  | h0 => exact startL_length es
  | h1 l x ih => rw [setOf_snoc, stepL_length, ih]
theorem set_mt (es : List PEl) (s : List UInt8) : ∀ i, i ≤ es.length → ((setOf es s).getD i false = true ↔ Mt es i s) := by
  induction s using snocI with
  | h0 =>
    intro i
    induction i with
    | zero =>
      intro _
      show (startL es).getD 0 false = true ↔ _
      unfold startL
      rw [closeI_zero, getD_set]
      simp [Mt]
    | succ i ih =>
      intro hi
      have ih := ih (by omega)
      show (startL es).getD (i + 1) false = true ↔ _
      have ih : (startL es).getD i false = true ↔ Mt es i [] := ih
      unfold startL at ih ⊢
      rw [closeI_succ es _ i es.length (by omega) (by simp; omega), getD_set, if_neg (by omega), ih, List.getD_eq_getElem?_getD, List.getElem?_replicate]
      simp only [Mt]
      constructor
      · rintro (h | ⟨h1, h2⟩)
        · split at h <;> cases h
        · exact .inl ⟨h2, 0, Nat.le_refl _, h1⟩
      · rintro (⟨h1, j, _, h2⟩ | ⟨_, t, c, h, _⟩ | ⟨_, t, h, _⟩)
        · right; exact ⟨by simpa using h2, h1⟩
        · simp at h
        · simp at h
  | h1 s b ihs =>
    have hlen := setOf_length es s
    intro i
    induction i with
    | zero =>
      intro _
      rw [setOf_snoc]
      unfold stepL
      rw [closeI_zero, stepI_zero]
      simp [Mt]
    | succ i ih =>
      intro hi
      have ih := ih (by omega)
      have ih0 := ihs i (by omega)
      have ih1 := ihs (i + 1) hi
      rw [setOf_snoc] at ih ⊢
      unfold stepL at ih ⊢
      rw [closeI_succ es _ i es.length (by omega) (by rw [stepI_length]; omega), stepI_get es _ b i es.length (by omega), ih]
      unfold takes
      rw [ih0, ih1]
      constructor
      · rintro (⟨_, h⟩ | ⟨h1, h2⟩)
        · rcases h with ⟨h1, h2⟩ | ⟨h1, h2⟩ | ⟨h1, h2, h3⟩
          · simp only [Mt] at h2
            rcases h2 with ⟨_, j, hj, h3⟩ | ⟨h3, _⟩ | ⟨h3, _⟩
            · exact .inl ⟨h1, j, by simp; omega, by rw [List.take_append_of_le_length hj]; exact h3⟩
            · omega
            · omega
          · exact .inr (.inl ⟨h1, s, b, rfl, h2⟩)
          · exact .inr (.inr ⟨h1, s, by rw [h2], h3⟩)
        · exact .inl ⟨h2, (s ++ [b]).length, Nat.le_refl _, by rw [List.take_length]; exact h1⟩
      · intro h
        simp only [Mt] at h
        rcases h with ⟨h1, j, hj, h2⟩ | ⟨h1, t, c, h2, h3⟩ | ⟨h1, t, h2, h3⟩
        · rcases Nat.lt_or_ge s.length j with h4 | h4
          · right
            refine ⟨?_, h1⟩
            rw [List.take_of_length_le (by simp; omega)] at h2; exact h2
          · left
            refine ⟨by omega, .inl ⟨h1, ?_⟩⟩
            rw [List.take_append_of_le_length h4] at h2
            exact .inl ⟨h1, j, h4, h2⟩
        · obtain ⟨rfl, hc⟩ := List.append_inj' h2 rfl
          exact .inl ⟨by omega, .inr (.inl ⟨h1, h3⟩)⟩
        · obtain ⟨rfl, hc⟩ := List.append_inj' h2 rfl
          injection hc with hc
          exact .inl ⟨by omega, .inr (.inr ⟨h1, hc.symm, h3⟩)⟩
theorem none_step {es : List PEl} {D : List Bool} (h : D.any id = false) (b : UInt8) : (stepL es D b).any id = false := by
  have hD : ∀ i, D.getD i false = false := fun i => by
    rw [List.getD_eq_getElem?_getD]
    cases hi : D[i]? with
    | none => rfl
    | some v =>
      have := List.any_eq_false.1 h v (List.mem_of_getElem? hi)
      simpa using this
  have hS : ∀ m, stepI es D b m = List.replicate D.length false := fun m => by
    induction m with
    | zero => rfl
    | succ m ih =>
      rw [stepI, if_neg, ih]
      rintro (⟨_, h⟩ | ⟨_, h⟩ | ⟨_, _, h⟩) <;> rw [hD] at h <;> cases h
  have hC : ∀ m, closeI es (List.replicate D.length false) m = List.replicate D.length false := fun m => by
    induction m with
    | zero => rfl
    | succ m ih =>
      rw [closeI, ih, if_neg]
      rintro ⟨h, _⟩
      rw [List.getD_eq_getElem?_getD, List.getElem?_replicate] at h
      split at h <;> cases h
  unfold stepL
  rw [hS, hC, List.any_eq_false]
  intro x hx
  rw [(List.mem_replicate.1 hx).2]; simp
theorem strB_ne {l : List Bool} (h : 0 < l.length) : strB l ≠ ⟨#[]⟩ := fun e => by
  have := congrArg ByteArray.size e
  rw [strB, strOf_size, bitsB_length] at this
  have h2 : (⟨#[]⟩ : ByteArray).size = 0 := rfl
  omega
theorem start_any (es : List PEl) : (startL es).any id = true := by
  have h := (set_mt es [] 0 (Nat.zero_le _)).2 (by simp [Mt])
  have h : (startL es).getD 0 false = true := h
  exact List.any_eq_true.2 ⟨true, by
    rw [List.getD_eq_getElem?_getD] at h
    cases hi : (startL es)[0]? with
    | none => rw [hi] at h; cases h
    | some v => rw [hi] at h; have : v = true := h
                subst this; exact List.mem_of_getElem? hi, rfl⟩
theorem run_set (es : List PEl) (s : List UInt8) : (runM (wildM es) s = ⟨#[]⟩ ∧ (setOf es s).any id = false) ∨ (runM (wildM es) s = strB (setOf es s) ∧ (setOf es s).any id = true) := by
  induction s using snocI with
  | h0 => exact .inr ⟨rfl, start_any es⟩
  | h1 s b ih =>
    rw [runM_snoc, setOf_snoc]
    rcases ih with ⟨h1, h2⟩ | ⟨h1, h2⟩
    · exact .inl ⟨by rw [h1]; rfl, none_step h2 b⟩
    · rw [h1]
      unfold stepM
      rw [if_neg (strB_ne (by rw [setOf_length]; omega))]
      show ((if (stepL es (boolsOf (strB (setOf es s))) b).any id then strB (stepL es (boolsOf (strB (setOf es s))) b) else ⟨#[]⟩) = _ ∧ _) ∨ ((if (stepL es (boolsOf (strB (setOf es s))) b).any id then strB (stepL es (boolsOf (strB (setOf es s))) b) else ⟨#[]⟩) = _ ∧ _)
      rw [boolsOf_strB]
      cases hA : (stepL es (setOf es s) b).any id
      · exact .inl ⟨by rw [if_neg (by simp)], rfl⟩
      · exact .inr ⟨by rw [if_pos rfl], rfl⟩
theorem none_get {D : List Bool} (h : D.any id = false) (i : Nat) : D.getD i false = false := by
  rw [List.getD_eq_getElem?_getD]
  cases hi : D[i]? with
  | none => rfl
  | some v =>
    have := List.any_eq_false.1 h v (List.mem_of_getElem? hi)
    simpa using this
theorem acc_mt (es : List PEl) (s : List UInt8) : accM (wildM es) s = true ↔ Mt es es.length s := by
  rw [← set_mt es s es.length (Nat.le_refl _)]
  unfold accM
  rcases run_set es s with ⟨h1, h2⟩ | ⟨h1, h2⟩
  · rw [h1, none_get h2]; simp
  · rw [h1, decide_eq_true (strB_ne (by rw [setOf_length]; omega)), Bool.true_and]
    show (boolsOf (strB (setOf es s))).getD es.length false = true ↔ _
    rw [boolsOf_strB]
/-- A set's head tells of no more than its elements. -/
theorem Mt_app (es es' : List PEl) : ∀ (i : Nat) (s : List UInt8), i ≤ es.length → (Mt (es ++ es') i s ↔ Mt es i s)
  | 0, _, _ => Iff.rfl
  | i + 1, s, h => by
    have hk : PEl.k (es ++ es') i = PEl.k es i := by unfold PEl.k; rw [List.getD_eq_getElem?_getD, List.getD_eq_getElem?_getD, List.getElem?_append_left (by omega)]
    have hb : PEl.b (es ++ es') i = PEl.b es i := by unfold PEl.b; rw [List.getD_eq_getElem?_getD, List.getD_eq_getElem?_getD, List.getElem?_append_left (by omega)]
    have ih := fun s => Mt_app es es' i s (by omega)
    simp only [Mt, hk, hb, ih]
theorem last_k (es : List PEl) (e : PEl) : PEl.k (es ++ [e]) es.length = e.1 := by unfold PEl.k; rw [List.getD_eq_getElem?_getD, List.getElem?_append_right (Nat.le_refl _)]; simp
theorem last_b (es : List PEl) (e : PEl) : PEl.b (es ++ [e]) es.length = e.2 := by unfold PEl.b; rw [List.getD_eq_getElem?_getD, List.getElem?_append_right (Nat.le_refl _)]; simp
def MtA (es : List PEl) (s : List UInt8) : Prop := Mt es es.length s
theorem MtA.letter {es : List PEl} {s : List UInt8} (h : MtA es s) (c : UInt8) : MtA (es ++ [(0, c)]) (s ++ [c]) := by
  unfold MtA; rw [List.length_append, List.length_singleton]
  exact .inr (.inr ⟨last_k _ _, s, by rw [last_b], (Mt_app es _ _ _ (Nat.le_refl _)).2 h⟩)
theorem MtA.gap {es : List PEl} {s : List UInt8} (h : MtA es s) (b c : UInt8) : MtA (es ++ [(1, b)]) (s ++ [c]) := by
  unfold MtA; rw [List.length_append, List.length_singleton]
  exact .inr (.inl ⟨last_k _ _, s, c, rfl, (Mt_app es _ _ _ (Nat.le_refl _)).2 h⟩)
theorem MtA.star {es : List PEl} {s : List UInt8} (h : MtA es s) (b : UInt8) (t : List UInt8) : MtA (es ++ [(2, b)]) (s ++ t) := by
  unfold MtA; rw [List.length_append, List.length_singleton]
  exact .inl ⟨last_k _ _, s.length, by simp, by rw [List.take_left']; exact (Mt_app es _ _ _ (Nat.le_refl _)).2 h; rfl⟩
theorem MtA.letters {es : List PEl} {s : List UInt8} (h : MtA es s) (l : List UInt8) : MtA (es ++ l.map fun c => ((0 : Nat), c)) (s ++ l) := by
  induction l using snocI with
  | h0 => simpa using h
  | h1 l c ih => rw [List.map_append, ← List.append_assoc, ← List.append_assoc]; exact ih.letter c
theorem MtA.gap_nil (es : List PEl) (b : UInt8) : ¬ MtA (es ++ [(1, b)]) [] := by
  unfold MtA; rw [List.length_append, List.length_singleton]
  rintro (⟨h, _⟩ | ⟨_, t, c, h, _⟩ | ⟨h, _⟩)
  · rw [last_k] at h; cases h
  · simp at h
  · rw [last_k] at h; cases h
def escB (c : UInt8) : List UInt8 := if c = 42 ∨ c = 63 ∨ c = 92 then [92, c] else [c]
def litB (l : List UInt8) : List UInt8 := l.flatMap escB
theorem elems_lit (l r : List UInt8) : elems (litB l ++ r) = (elems r).map ((l.map fun c => ((0 : Nat), c)) ++ ·) := by
  induction l with
  | nil => simp [litB]
  | cons c l ih =>
    have e : litB (c :: l) ++ r = escB c ++ (litB l ++ r) := by simp [litB]
    rw [e]
    unfold escB
    split
    · next h =>
      rw [List.cons_append, List.cons_append, List.nil_append, elems_esc, ih]
      cases elems r <;> rfl
    · next h =>
      rw [List.cons_append, List.nil_append, elems_let _ (fun e => h (.inl e)) (fun e => h (.inr (.inl e))) (fun e => h (.inr (.inr e))), ih]
      cases elems r <;> rfl
end Go.Proofs.YtejmjjgbbojfbaaDoor
