/- posts, plain: the blocks one behind the other. -/
import Derived.Test.YthnpbfadblcicaaDoorZPSkip
import Derived.Test.YthnpbfadblcicaaDoorZG11
namespace Go.Proofs.YthnpbfadblcicaaDoor
set_option linter.unusedVariables false

/-- Where block k begins. -/
def atV (ps : List PostV) (k : Nat) : Nat := headL ps + (bodyV (blksV (-1) ((chp ps).take k))).length
theorem blk_fact (ps : List PostV) (k : Nat) (h : k < (chp ps).length) (h2 : k < (skV (-1) (headL ps) (chp ps)).length) :
    ∃ la sz, (skV (-1) (headL ps) (chp ps))[k] = ⟨la, ((chp ps)[k]).length, atV ps k, sz⟩ ∧ 1 ≤ sz ∧ atV ps k + sz = atV ps (k + 1) ∧ 0 < ((chp ps)[k]).length ∧ ((chp ps)[k]).length ≤ 16 ∧ (k + 1 < (chp ps).length → ((chp ps)[k]).length = 16) ∧
      ((chp ps)[k]).length = min 16 (ps.length - 16 * k) ∧ ∀ hp : ((chp ps)[k]).length - 1 < ((chp ps)[k]).length, la = (((chp ps)[k])[((chp ps)[k]).length - 1]).doc := by
  obtain ⟨q1, q2, q3, q4⟩ := chp_flat _ ps (Nat.le_refl _)
  have hg := chp_get k ps h
  have hl : ((chp ps)[k]).length = min 16 (ps.length - 16 * k) := by rw [hg, List.length_take, List.length_drop]
  refine ⟨_, _, skV_get (chp ps) (-1) (headL ps) k h2 h, ?_, ?_, by omega, by omega, by omega, hl, fun hp => ?_⟩
  · unfold blockB pckB
    have := List.length_pos_iff.2 (uvar_ne (gapsD (lastV (-1) ((chp ps).take k).flatten) (chp ps)[k]).length)
    rw [List.length_append, List.length_append]
    omega
  · unfold atV
    rw [bodyV_take (-1) (chp ps) k h]
    omega
  · rw [List.take_succ_eq_append_getElem h, List.flatten_append, lastV_append]
    have hne : (chp ps)[k] ≠ [] := fun e => by rw [e] at hp; simp at hp
    have h9 := lastV_get (lastV (-1) ((chp ps).take k).flatten) (chp ps)[k] hne
    simpa using h9
theorem blk_fact2 (ps : List PostV) (k : Nat) (h : k < (chp ps).length) (h2 : k < (skV (-1) (headL ps) (chp ps)).length) (CH : List PostV) (hCH : (ps.drop (16 * k)).take 16 = CH) :
    ∃ la sz, (skV (-1) (headL ps) (chp ps))[k] = ⟨la, CH.length, atV ps k, sz⟩ ∧ 1 ≤ sz ∧ atV ps k + sz = atV ps (k + 1) ∧ 0 < CH.length ∧ CH.length ≤ 16 ∧ (k + 1 < (chp ps).length → CH.length = 16) ∧
      CH.length = min 16 (ps.length - 16 * k) ∧ ∀ (l1 : Nat) (hp : l1 < CH.length), l1 + 1 = CH.length → la = CH[l1].doc := by
  obtain ⟨la, sz, b1, b2, b3, b4, b5, b6, b7, b8⟩ := blk_fact ps k h h2
  have hg := (chp_get k ps h).trans hCH
  generalize (chp ps)[k] = X at hg b1 b4 b5 b6 b7 b8
  subst hg
  refine ⟨la, sz, b1, b2, b3, b4, b5, b6, b7, fun l1 hp he => ?_⟩
  have h9 := b8 (by omega)
  have e : X.length - 1 = l1 := by omega
  simpa only [e] using h9
theorem atV_end (ps : List PostV) : atV ps (chp ps).length = (imageV ps).length := by
  unfold atV headL imageV
  rw [List.take_length]
  simp only [List.length_append]
  omega
theorem atV_zero (ps : List PostV) : 2 ≤ atV ps 0 := by
  unfold atV headL
  have h1 := List.length_pos_iff.2 (uvar_ne ps.length)
  have h2 := List.length_pos_iff.2 (uvar_ne (totalV ps))
  simp only [List.length_append]
  omega
theorem atV_le (ps : List PostV) (k : Nat) : atV ps k ≤ (imageV ps).length := by
  rw [← atV_end]
  unfold atV
  rw [List.take_length]
  have := bodyV_mono (-1) (chp ps) k
  omega
theorem tot_step (ps : List PostV) (k : Nat) (h : k < (chp ps).length) : totalV (ps.take (min (16 * (k + 1)) ps.length)) = totalV (ps.take (16 * k)) + totalV ((ps.drop (16 * k)).take 16) := by
  rw [← totalV_append]
  congr 1
  have hm : min (16 * (k + 1)) ps.length = 16 * k + min 16 (ps.length - 16 * k) := by
    obtain ⟨q1, q2, q3, q4⟩ := chp_flat _ ps (Nat.le_refl _)
    omega
  rw [hm, List.take_add]
  congr 1
  rw [← List.length_drop, List.take_eq_take_iff]
  omega
end Go.Proofs.YthnpbfadblcicaaDoor
