/- Heads, plain: the keys that begin with a head stand together, from seekP on. No program occurs here. -/
import Derived.Test.YtfeldllcpeibcaaDoorDictT
namespace Go.Proofs.YtfeldllcpeibcaaDoor
set_option linter.unusedVariables false

/-- Does K begin with k? -/
def pre (k K : List UInt8) : Bool := decide (k.length ≤ K.length) && (K.take k.length == k)
theorem pre_iff (k K : List UInt8) : pre k K = true ↔ ∃ s, K = k ++ s := by
  unfold pre
  rw [Bool.and_eq_true, decide_eq_true_eq, beq_iff_eq]
  constructor
  · rintro ⟨_, h⟩
    exact ⟨K.drop k.length, by conv => lhs; rw [← List.take_append_drop k.length K, h]⟩
  · rintro ⟨s, rfl⟩
    exact ⟨by rw [List.length_append]; omega, List.take_left⟩
theorem bl_pre : ∀ k s : List UInt8, Go.Op.bytesLess (k ++ s) k = false
  | [], s => by cases s <;> rfl
  | x :: k, s => by
    have h : ¬ x < x := fun h => by have := UInt8.lt_iff_toNat_lt.1 h; omega
    rw [List.cons_append]
    unfold Go.Op.bytesLess
    simp [h, bl_pre k s]
theorem pre_between : ∀ k a r : List UInt8, Go.Op.bytesLess a k = false → Go.Op.bytesLess a (k ++ r) = true → ∃ s, a = k ++ s
  | [], a, _, _, _ => ⟨a, rfl⟩
  | x :: k, [], _, h, _ => by simp [Go.Op.bytesLess] at h
  | x :: k, y :: a, r, h, g => by
    rw [List.cons_append] at g
    unfold Go.Op.bytesLess at h g
    simp only [Bool.or_eq_false_iff, Bool.or_eq_true, Bool.and_eq_true, decide_eq_true_eq, decide_eq_false_iff_not, beq_iff_eq] at h g
    obtain ⟨h1, h2⟩ := h
    rcases g with g | ⟨g1, g2⟩
    · exact absurd g h1
    · subst g1
      have h3 : Go.Op.bytesLess a k = false := by simpa using h2
      obtain ⟨s, hs⟩ := pre_between k a r h3 g2
      exact ⟨s, by rw [hs]; rfl⟩
theorem pre_bl {k K : List UInt8} (h : pre k K = true) : Go.Op.bytesLess K k = false := by
  obtain ⟨s, rfl⟩ := (pre_iff k K).1 h
  exact bl_pre k s
/-- How many entries' keys begin with k. -/
def headsN (es : List EntV) (k : List UInt8) : Nat := ((es.drop (seekP es k)).takeWhile fun e => pre k e.K).length
theorem headsN_le (es : List EntV) (k : List UInt8) : seekP es k + headsN es k ≤ es.length := by
  have h := seekP_le es k
  have h2 := (List.takeWhile_sublist (fun e : EntV => pre k e.K) (l := es.drop (seekP es k))).length_le
  rw [List.length_drop] at h2
  unfold headsN; omega
theorem tw_lt {p : EntV → Bool} : ∀ (l : List EntV) (t : Nat) (h : t < l.length), t < (l.takeWhile p).length → p l[t] = true
  | [], _, h, _ => by simp at h
  | e :: r, t, h, ht => by
    cases he : p e with
    | false => rw [List.takeWhile_cons_of_neg (by simp [he])] at ht; simp at ht
    | true =>
      rw [List.takeWhile_cons_of_pos (by simp [he])] at ht
      cases t with
      | zero => exact he
      | succ t => exact tw_lt r t (by simpa using h) (by simpa using ht)
theorem tw_at {p : EntV → Bool} : ∀ (l : List EntV) (h : (l.takeWhile p).length < l.length), p l[(l.takeWhile p).length] = false
  | [], h => by simp at h
  | e :: r, h => by
    cases he : p e with
    | false =>
      have e0 : ((e :: r).takeWhile p).length = 0 := by rw [List.takeWhile_cons_of_neg (by simp [he])]; rfl
      simp only [e0]; exact he
    | true =>
      have e0 : ((e :: r).takeWhile p).length = (r.takeWhile p).length + 1 := by rw [List.takeWhile_cons_of_pos (by simp [he])]; rfl
      simp only [e0]
      exact tw_at r (by rw [e0] at h; simpa using h)
theorem heads_low (es : List EntV) (k : List UInt8) (t : Nat) (h : t < es.length) (ht : t < seekP es k) : pre k es[t].K = false := by
  cases hp : pre k es[t].K with
  | false => rfl
  | true => have := pre_bl hp; rw [seekP_lt es k t h ht] at this; cases this
theorem heads_in (es : List EntV) (k : List UInt8) (t : Nat) (h : t < es.length) (h1 : seekP es k ≤ t) (h2 : t < seekP es k + headsN es k) : pre k es[t].K = true := by
  have g := tw_lt (p := fun e => pre k e.K) (es.drop (seekP es k)) (t - seekP es k) (by rw [List.length_drop]; omega) (by unfold headsN at h2; omega)
  rw [List.getElem_drop] at g
  simpa only [show seekP es k + (t - seekP es k) = t by omega] using g
theorem heads_out {es : List EntV} (hr : rising none es) (k : List UInt8) (t : Nat) (h : t < es.length) (h2 : seekP es k + headsN es k ≤ t) : pre k es[t].K = false := by
  have hlt : ((es.drop (seekP es k)).takeWhile fun e => pre k e.K).length < (es.drop (seekP es k)).length := by
    rw [List.length_drop]; unfold headsN at h2; omega
  have g := tw_at (p := fun e => pre k e.K) (es.drop (seekP es k)) hlt
  rw [List.getElem_drop] at g
  have g : pre k (es[seekP es k + headsN es k]'(by omega)).K = false := g
  rcases Nat.lt_or_eq_of_le h2 with h3 | h3
  · cases hp : pre k es[t].K with
    | false => rfl
    | true =>
      obtain ⟨r, he⟩ := (pre_iff _ _).1 hp
      have h4 := rising_lt hr _ t h h3
      rw [he] at h4
      have h5 := (pre_iff k _).2 (pre_between k _ r (seekP_ge hr k _ (by omega) (by omega)) h4)
      rw [g] at h5; cases h5
  · simp only [h3] at g; exact g
/-- Find is the first entry of this key. -/
theorem find_at {es : List EntV} (hr : rising none es) (k : List UInt8) (i : Nat) (h : i < es.length) (he : es[i].K = k) : findP es k = (i, true) := by
  have hs : seekP es k = i := by
    rcases Nat.lt_trichotomy (seekP es k) i with h1 | h1 | h1
    · have h2 := rising_lt hr _ i h h1
      rw [he, seekP_at es k (by omega)] at h2; cases h2
    · exact h1
    · have h2 := seekP_lt es k i h h1
      rw [he, bl_irrefl] at h2; cases h2
  unfold findP
  rw [dif_pos (by omega)]
  simp only [hs]
  rw [if_pos he]
theorem find_not {es : List EntV} (k : List UInt8) (hn : ∀ i (h : i < es.length), es[i].K ≠ k) : findP es k = (0, false) := by
  unfold findP
  split
  · next h => rw [if_neg (hn _ h)]
  · rfl
end Go.Proofs.YtfeldllcpeibcaaDoor
