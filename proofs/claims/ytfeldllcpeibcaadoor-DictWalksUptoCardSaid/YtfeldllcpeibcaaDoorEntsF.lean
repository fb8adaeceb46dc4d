/- Entries made of rising keys, with numbers that hang on the place. No program occurs here. -/
import Derived.Test.YtfeldllcpeibcaaDoorRefusesP
import Derived.Test.YtfeldllcpeibcaaDoorHeadsP
namespace Go.Proofs.YtfeldllcpeibcaaDoor
set_option linter.unusedVariables false

/-- Entries of keys, the numbers by the place. -/
def entsF (d t a s : Nat → Int) (ks : List (List UInt8)) : List EntV := ks.mapIdx fun i k => ⟨strOf k, d i, t i, a i, s i⟩
theorem entsF_length (d t a s : Nat → Int) (ks : List (List UInt8)) : (entsF d t a s ks).length = ks.length := by simp [entsF]
theorem entsF_get (d t a s : Nat → Int) (ks : List (List UInt8)) (i : Nat) (h : i < (entsF d t a s ks).length) : (entsF d t a s ks)[i] = ⟨strOf (ks[i]'(by rwa [entsF_length] at h)), d i, t i, a i, s i⟩ := by simp [entsF]
theorem entsF_snoc (d t a s : Nat → Int) (ks : List (List UInt8)) (k : List UInt8) : entsF d t a s (ks ++ [k]) = entsF d t a s ks ++ [⟨strOf k, d ks.length, t ks.length, a ks.length, s ks.length⟩] := by
  simp [entsF, List.mapIdx_append]
theorem entsF_take (d t a s : Nat → Int) (ks : List (List UInt8)) (i : Nat) (h : i < ks.length) : entsF d t a s (ks.take (i + 1)) = entsF d t a s (ks.take i) ++ [⟨strOf ks[i], d i, t i, a i, s i⟩] := by
  rw [List.take_succ_eq_append_getElem h, entsF_snoc, List.length_take, Nat.min_eq_left (Nat.le_of_lt h)]
theorem entsF_ok {d t a s : Nat → Int} {ks : List (List UInt8)} (h : ∀ k ∈ ks, okKey k) (hn : ∀ i, i < ks.length → numOk (d i) = true ∧ numOk (t i) = true ∧ numOk (a i) = true ∧ numOk (s i) = true) : ∀ e ∈ entsF d t a s ks, entOk e = true := by
  intro e he
  obtain ⟨i, hi, rfl⟩ := List.mem_iff_getElem.1 he
  have hi' : i < ks.length := by rwa [entsF_length] at hi
  rw [entsF_get]
  have h1 := h ks[i] (List.getElem_mem hi')
  obtain ⟨n1, n2, n3, n4⟩ := hn i hi'
  unfold entOk
  rw [strOf_K]
  simp only [Bool.and_eq_true]
  exact ⟨decide_eq_true h1, n1, n2, n3, n4⟩
theorem entsF_rising {d t a s : Nat → Int} {ks : List (List UInt8)} (h : ks.Pairwise (fun x y => Go.Op.bytesLess x y = true)) : rising none (entsF d t a s ks) := by
  rw [rising_none]
  intro j hj
  rw [entsF_length] at hj
  rw [entsF_get, entsF_get, strOf_K, strOf_K]
  exact List.pairwise_iff_getElem.1 h j (j + 1) (by omega) hj (by omega)
theorem entsF_K (d t a s : Nat → Int) (ks : List (List UInt8)) (i : Nat) (h : i < ks.length) : ((entsF d t a s ks)[i]'(by rwa [entsF_length])).K = ks[i] := by
  rw [entsF_get, strOf_K]
theorem num_lt {n m : Nat} (h : n ≤ 2147483647) : numOk (n : Int) = true := decide_eq_true (by omega)
/-- What stands at the place where it is sought is found, and nothing else is. -/
theorem findP_eq {es : List EntV} (hr : rising none es) (k : List UInt8) : findP es k = if h : seekP es k < es.length then (if es[seekP es k].K = k then (seekP es k, true) else (0, false)) else (0, false) := rfl
/-- Seek of a key that stands at i is i. -/
theorem seek_at {es : List EntV} (hr : rising none es) (i : Nat) (h : i < es.length) : seekP es es[i].K = i := by
  rcases Nat.lt_trichotomy (seekP es es[i].K) i with h1 | h1 | h1
  · have h2 := seekP_at es es[i].K (by omega)
    have h3 := rising_lt hr (seekP es es[i].K) i h h1
    rw [h2] at h3; cases h3
  · exact h1
  · have h2 := seekP_lt es es[i].K i h h1
    rw [bl_irrefl] at h2; cases h2
theorem seek_part {es : List EntV} (hr : rising none es) (k : List UInt8) (i : Nat) (h : i < es.length) : Go.Op.bytesLess es[i].K k = decide (i < seekP es k) := by
  by_cases h1 : i < seekP es k
  · rw [seekP_lt es k i h h1, decide_eq_true h1]
  · rw [seekP_ge hr k i h (by omega), decide_eq_false h1]
theorem heads_part {es : List EntV} (hr : rising none es) (k : List UInt8) (i : Nat) (h : i < es.length) : pre k es[i].K = (decide (seekP es k ≤ i) && decide (i < seekP es k + headsN es k)) := by
  by_cases h1 : seekP es k ≤ i
  · by_cases h2 : i < seekP es k + headsN es k
    · rw [heads_in es k i h h1 h2, decide_eq_true h1, decide_eq_true h2]; rfl
    · rw [heads_out hr k i h (by omega), decide_eq_true h1, decide_eq_false h2]; rfl
  · rw [heads_low es k i h (by omega), decide_eq_false h1]; rfl
end Go.Proofs.YtfeldllcpeibcaaDoor
