/- PostsOwns: what its walk stands on. -/
import Derived.Test.YthnpbfadblcicaaDoorZG16
import Derived.Test.YthnpbfadblcicaaDoorZG17
import Derived.Test.YthnpbfadblcicaaDoorZDocD
import Derived.Test.YthnpbfadblcicaaDoorZOwnI
namespace Go.Proofs.YthnpbfadblcicaaDoor
set_option linter.unusedVariables false
open Go.ChangeShapes Go.WideShapes Go.ChangeAt Go.RowKit

/-- A part of a list of own. -/
theorem own_takeN {w : World} {B : Nat} {t : TypeId} {a : Option Addr} {n c : Nat} {xs : List Value} (h : Own w B t (.slice a n c) xs) (k : Nat) (hk : k ≤ xs.length) : Own w B t (.slice a k c) (xs.take k) := by
  rcases h with ⟨hv, rfl⟩ | ⟨g, cap, cur, hv, h1, hh, h2, h3, h4, h5⟩
  · injection hv with e1 e2 e3
    subst e1 e3
    obtain rfl : k = 0 := by simpa using hk
    exact .inl ⟨rfl, rfl⟩
  · injection hv with e1 e2 e3
    subst e1 e3
    have hl : (xs.take k).length = k := by rw [List.length_take]; omega
    refine .inr ⟨g, c, cur, by rw [hl], h1, hh, by rw [hl]; omega, h3, h4, ?_⟩
    rw [hl, ← h5, List.take_take, Nat.min_eq_left hk]
theorem pcells_take (ps : List PostV) (vs : Nat → Value) (k : Nat) (hk : k ≤ ps.length) : pcells (ps.take k) vs = (pcells ps vs).take (k * 2) := by
  have hl : (ps.take k).length = k := by rw [List.length_take]; omega
  refine List.ext_getElem? fun j => ?_
  by_cases hj : j < k * 2
  · rw [List.getElem?_take, if_pos hj, pcells_get _ _ j (by rw [hl]; exact hj), pcells_get _ _ j (by omega), getD_at _ _ (by rw [hl]; omega), getD_at _ _ (by omega), List.getElem_take]
  · rw [pcells_none _ _ _ (by rw [hl]; exact hj), List.getElem?_take, if_neg hj]
theorem rowP_take {w : World} {B : Nat} {a : Option Addr} {n c : Nat} {ps : List PostV} {vs : Nat → Value} (h : RowP w B (.slice a n c) ps vs) (k : Nat) (hk : k ≤ ps.length) : RowP w B (.slice a k c) (ps.take k) vs := by
  have hl : (ps.take k).length = k := by rw [List.length_take]; omega
  refine ⟨⟨by rw [pcells_length], ?_⟩, fun i hi => ?_, fun i j b hi hj => h.sep i j b (by omega) (by omega)⟩
  · rcases h.row.2 with ⟨hv, h0⟩ | ⟨g, cap, cur, hv, hb, hg, h1, h2, h3, h4⟩
    · injection hv with e1 e2 e3
      subst e1 e3
      obtain rfl : k = 0 := by omega
      exact .inl ⟨rfl, by simp⟩
    · injection hv with e1 e2 e3
      subst e1 e3
      refine .inr ⟨g, c, cur, by rw [hl], hb, hg, by rw [hl]; omega, h2, h3, ?_⟩
      rw [hl, pcells_take ps vs k hk, ← h4, List.take_take, Nat.min_eq_left (Nat.mul_le_mul_right 2 hk)]
  · rw [List.getElem_take]
    exact h.own i (by omega)
theorem uvar_head0 {n : Nat} (h : (uvar n).head? = some 0) : n = 0 := by
  rw [uvar] at h
  split at h
  · next hn =>
    simp only [List.head?_cons, Option.some.injEq] at h
    have := congrArg UInt8.toNat h
    simp at this
    omega
  · simp only [List.head?_cons, Option.some.injEq] at h
    have := congrArg UInt8.toNat h
    simp at this
    omega
theorem open_zeros_two : openV [0, 0] = some ⟨0, 0, [], []⟩ := by
  have h := openV_of (ps := []) rfl (fun p hp => by cases hp) (by simp) (by simp [totalV])
  have e : imageV [] = [0, 0] := by
    unfold imageV
    rw [chp_nil]
    simp [totalV, blksV, headV, bodyV, uvar_small]
  rw [e, chp_nil] at h
  exact h
theorem open_zeros_no {n : Nat} (hn : n ≠ 2) : openV (List.replicate n 0) = none := by
  cases h : openV (List.replicate n 0) with
  | none => rfl
  | some r =>
    obtain ⟨ps, ok, ha, he, -⟩ := openV_form h
    have hh : (imageV ps).head? = some 0 := by
      rw [← he]
      have h1 := image_pos ps
      rw [← he, List.length_replicate] at h1
      obtain ⟨m, rfl⟩ : ∃ m, n = m + 1 := ⟨n - 1, by omega⟩
      rfl
    have h2 : (uvar ps.length).head? = some 0 := by
      unfold imageV at hh
      simp only [List.append_assoc] at hh
      cases hu : uvar ps.length with
      | nil => exact absurd hu (uvar_ne _)
      | cons x r => rw [hu] at hh; exact hh
    have h3 := uvar_head0 h2
    obtain rfl : ps = [] := List.eq_nil_of_length_eq_zero h3
    have e : imageV [] = [0, 0] := by
      unfold imageV
      rw [chp_nil]
      simp [totalV, blksV, headV, bodyV, uvar_small]
    rw [e] at he
    have := congrArg List.length he
    simp at this
    exact absurd this hn
/-- The postings that the law writes over its own. -/
def threeV (k : Nat) : List PostV := (List.range k).map fun (i : Nat) => ⟨3 * (i : Int), [(i : Int)]⟩
theorem threeV_succ (k : Nat) : threeV (k + 1) = threeV k ++ [⟨3 * (k : Int), [(k : Int)]⟩] := by simp [threeV, List.range_succ]
theorem threeV_length (k : Nat) : (threeV k).length = k := by simp [threeV]
theorem threeV_last : ∀ k : Nat, lastV (-1) (threeV (k + 1)) = 3 * (k : Int) := fun k => by
  rw [threeV_succ]
  have : ∀ (l : List PostV) (b : Int) (p : PostV), lastV b (l ++ [p]) = p.doc := by
    intro l
    induction l with
    | nil => intro b p; rfl
    | cons q r ih => intro b p; exact ih q.doc p
  rw [this]
theorem three_ok : ∀ m : Nat, m ≤ 1048576 → okV (-1) (threeV m)
  | 0, _ => rfl
  | m + 1, hm => by
    rw [threeV_succ]
    refine okV_join (three_ok m (by omega)) (okV_mk (goodV_mk ?_ ?_ ?_ (by simp) ?_) rfl)
    · show 0 ≤ 3 * (m : Int); omega
    · show 3 * (m : Int) < 2147483647; omega
    · show lastV (-1) (threeV m) < 3 * (m : Int)
      cases m with
      | zero => show (-1 : Int) < _; omega
      | succ m => rw [threeV_last]; omega
    · show asc (-1) [(m : Int)]
      refine ⟨by omega, by omega, trivial⟩
theorem three_total (m : Nat) : totalV (threeV m) = m := by
  induction m with
  | zero => rfl
  | succ m ih => rw [threeV_succ, totalV_append, ih]; rfl
theorem three_fit (m : Nat) (hm : m ≤ 1048576) : FitP (threeV m) := fun p hp => by
  obtain ⟨i, hi, rfl⟩ := List.mem_map.1 hp
  have := List.mem_range.1 hi
  refine ⟨by show _ ∧ 3 * (i : Int) ≤ _; constructor; show _ ≤ 3 * (i : Int); omega; omega, fun z hz => ?_, by show 1 ≤ 31000000; omega⟩
  obtain rfl := List.mem_singleton.1 hz
  omega
end Go.Proofs.YthnpbfadblcicaaDoor
