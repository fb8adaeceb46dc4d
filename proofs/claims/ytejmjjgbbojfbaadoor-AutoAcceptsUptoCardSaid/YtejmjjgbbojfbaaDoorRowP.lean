/- The document's row of a pattern, in plain Lean. No program occurs here. -/
import Derived.Test.YtejmjjgbbojfbaaDoorMatch
namespace Go.Proofs.YtejmjjgbbojfbaaDoor
set_option linter.unusedVariables false

/-- One place of the next line. -/
def stepR (e : PEl) (s : List UInt8) (P : List Bool) (j : Nat) : Bool :=
  if e.1 = 2 then (P.take (j + 1)).any id else decide (0 < j) && (P.getD (j - 1) false && (decide (e.1 = 1) || decide (s.getD (j - 1) 0 = e.2)))
def nextR (e : PEl) (s : List UInt8) (P : List Bool) : List Bool := (List.range (s.length + 1)).map (stepR e s P)
def tabR (es : List PEl) (s : List UInt8) : List Bool := es.foldl (fun P e => nextR e s P) ((List.replicate (s.length + 1) false).set 0 true)
def outR (es : List PEl) (s : List UInt8) : List Bool := (List.range (es.length + 1)).map fun i => (tabR (es.take i) s).getD s.length false
theorem nextR_len (e : PEl) (s : List UInt8) (P : List Bool) : (nextR e s P).length = s.length + 1 := by simp [nextR]
theorem tabR_snoc (es : List PEl) (e : PEl) (s : List UInt8) : tabR (es ++ [e]) s = nextR e s (tabR es s) := by unfold tabR; rw [List.foldl_append]; rfl
theorem tabR_len (es : List PEl) (s : List UInt8) : (tabR es s).length = s.length + 1 := by
  induction es using snocI with
  | h0 => simp [tabR]
  | h1 l x _ => rw [tabR_snoc]; exact nextR_len x s _
theorem tabR_take {es : List PEl} {s : List UInt8} {i : Nat} (h : i < es.length) : tabR (es.take (i + 1)) s = nextR es[i] s (tabR (es.take i) s) := by
  rw [List.take_add_one, List.getElem?_eq_getElem h]
  exact tabR_snoc _ _ _
theorem outR_take {es : List PEl} {s : List UInt8} {i : Nat} (h : i < es.length) : outR (es.take (i + 1)) s = outR (es.take i) s ++ [(nextR es[i] s (tabR (es.take i) s)).getD s.length false] := by
  have h1 : (es.take (i + 1)).length = i + 1 := by simp; omega
  have h2 : (es.take i).length = i := by simp; omega
  unfold outR
  rw [h1, h2, List.range_succ (n := i + 1), List.map_append]
  congr 1
  · refine List.map_congr_left fun k hk => ?_
    have hk := List.mem_range.1 hk
    rw [List.take_take, List.take_take, Nat.min_eq_left (by omega), Nat.min_eq_left (by omega)]
  · simp only [List.map_cons, List.map_nil]
    rw [List.take_take, Nat.min_eq_left (Nat.le_refl _), tabR_take h]
/-- The next line, where its first j places stand. -/
def partR (e : PEl) (s : List UInt8) (P : List Bool) (j : Nat) : List Bool := (List.range (s.length + 1)).map fun k => if k < j then stepR e s P k else false
theorem partR_len (e : PEl) (s : List UInt8) (P : List Bool) (j : Nat) : (partR e s P j).length = s.length + 1 := by simp [partR]
theorem partR_zero (e : PEl) (s : List UInt8) (P : List Bool) : partR e s P 0 = List.replicate (s.length + 1) false := by
  unfold partR
  refine List.ext_getElem (by simp) fun k h1 h2 => ?_
  simp
theorem partR_all (e : PEl) (s : List UInt8) (P : List Bool) : partR e s P (s.length + 1) = nextR e s P := by
  unfold partR nextR
  exact List.map_congr_left fun k hk => by rw [if_pos (List.mem_range.1 hk)]
theorem partR_get (e : PEl) (s : List UInt8) (P : List Bool) (j k : Nat) (h : k < (partR e s P j).length) : (partR e s P j)[k]'h = if k < j then stepR e s P k else false := by simp [partR]
theorem partR_set (e : PEl) (s : List UInt8) (P : List Bool) (j : Nat) : (partR e s P j).set j (stepR e s P j) = partR e s P (j + 1) := by
  refine List.ext_getElem (by rw [List.length_set, partR_len, partR_len]) fun k h1 h2 => ?_
  rw [List.getElem_set, partR_get _ _ _ _ _ h2, partR_get _ _ _ _ _ (by rw [List.length_set] at h1; exact h1)]
  by_cases h : j = k
  · subst h; rw [if_pos rfl, if_pos (by omega)]
  · rw [if_neg h]
    by_cases hk : k < j
    · rw [if_pos hk, if_pos (by omega)]
    · rw [if_neg hk, if_neg (by omega)]
theorem any_takeR (P : List Bool) (j : Nat) : (P.take (j + 1)).any id = ((P.take j).any id || P.getD j false) := by
  rw [List.take_add_one, List.any_append, List.getD_eq_getElem?_getD]
  cases P[j]? <;> simp
end Go.Proofs.YtejmjjgbbojfbaaDoor
