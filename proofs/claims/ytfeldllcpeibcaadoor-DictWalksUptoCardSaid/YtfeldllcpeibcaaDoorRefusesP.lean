/- DictRefuses, plain: entries of rising keys, spoilt in one place. No program occurs here. -/
import Derived.Test.YtfeldllcpeibcaaDoorSorted
namespace Go.Proofs.YtfeldllcpeibcaaDoor
set_option linter.unusedVariables false

/-- Entries of keys alone. -/
def entsK (ks : List (List UInt8)) : List EntV := ks.map fun k => ⟨strOf k, 0, 0, 0, 0⟩
theorem entsK_length (ks : List (List UInt8)) : (entsK ks).length = ks.length := by simp [entsK]
theorem entsK_get (ks : List (List UInt8)) (i : Nat) (h : i < (entsK ks).length) : (entsK ks)[i] = ⟨strOf (ks[i]'(by rwa [entsK_length] at h)), 0, 0, 0, 0⟩ := by simp [entsK]
theorem entsK_ok {ks : List (List UInt8)} (h : ∀ k ∈ ks, okKey k) : ∀ e ∈ entsK ks, entOk e = true := by
  intro e he
  obtain ⟨k, hk, rfl⟩ := List.mem_map.1 he
  have := h k hk
  unfold entOk
  rw [strOf_K]
  simp only [Bool.and_eq_true]
  exact ⟨decide_eq_true this, by decide, by decide, by decide, by decide⟩
theorem entsK_rising {ks : List (List UInt8)} (h : ks.Pairwise (fun x y => Go.Op.bytesLess x y = true)) : rising none (entsK ks) := by
  rw [rising_none]
  intro j hj
  rw [entsK_length] at hj
  rw [entsK_get, entsK_get, strOf_K, strOf_K]
  exact List.pairwise_iff_getElem.1 h j (j + 1) (by omega) hj (by omega)
/-- One that may not be makes the list one that may not be. -/
theorem bad_in {es : List EntV} {e : EntV} (he : e ∈ es) (hb : entOk e = false) : ¬ ∀ x ∈ es, entOk x = true := fun h => by
  have := h e he; rw [hb] at this; cases this
theorem bad_set {es : List EntV} {i : Nat} (hi : i < es.length) {e : EntV} (hb : entOk e = false) : ¬ ∀ x ∈ es.set i e, entOk x = true :=
  bad_in (List.mem_iff_getElem.2 ⟨i, by rw [List.length_set]; exact hi, List.getElem_set_self ..⟩) hb
/-- A key once more at the end doesn't rise. -/
theorem dup_falls {es : List EntV} (hr : rising none es) {i : Nat} (hi : i < es.length) : ¬ rising none (es ++ [es[i]]) := fun h => by
  have h1 := rising_lt h i es.length (by simp) hi
  rw [List.getElem_append_left hi] at h1
  simp only [List.getElem_append_right (Nat.le_refl _), Nat.sub_self, List.getElem_singleton] at h1
  rw [bl_irrefl] at h1; cases h1
theorem dup_ok {es : List EntV} (ok : ∀ e ∈ es, entOk e = true) {i : Nat} (hi : i < es.length) : ∀ e ∈ es ++ [es[i]], entOk e = true := fun e he => by
  rcases List.mem_append.1 he with he | he
  · exact ok e he
  · rw [List.mem_singleton.1 he]; exact ok _ (List.getElem_mem hi)
theorem bad_key0 (d t a s : Int) : entOk ⟨strOf [], d, t, a, s⟩ = false := by
  unfold entOk; rw [strOf_K]; simp
theorem bad_key66 (k : List UInt8) (hk : k.length = 66) (d t a s : Int) : entOk ⟨strOf k, d, t, a, s⟩ = false := by
  unfold entOk; rw [strOf_K, hk]; simp
theorem bad_num (k : ByteArray) (d t a s : Int) (h : ¬ (numOk d = true ∧ numOk t = true ∧ numOk a = true ∧ numOk s = true)) : entOk ⟨k, d, t, a, s⟩ = false := by
  cases he : entOk ⟨k, d, t, a, s⟩ with
  | false => rfl
  | true => exact absurd (entOk_num he) h
end Go.Proofs.YtfeldllcpeibcaaDoor
