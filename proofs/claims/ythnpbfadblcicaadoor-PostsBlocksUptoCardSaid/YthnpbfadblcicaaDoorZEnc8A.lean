/- posts: two Writers apart; Concat of two. -/
import Derived.Test.YthnpbfadblcicaaDoorZPack8
import Derived.Test.YthnpbfadblcicaaDoorZWRaw
import Derived.Test.YthnpbfadblcicaaDoorZGood
namespace Go.Proofs.YthnpbfadblcicaaDoor
set_option linter.unusedVariables false
open Go.ChangeShapes Go.WideShapes Go.ChangeAt Go.RowKit

/-- Two Writers that share no block. -/
def Apart2 (p1 : Nat) (v1 : Value) (p2 : Nat) (v2 : Value) : Prop := ∀ k, WrB p1 v1 k → ¬ WrB p2 v2 k
theorem Apart2.left {w w' : World} {base p1 p2 : Nat} {v1 v1' v2 : Value} {b2 : List UInt8} (h : Apart2 p1 v1 p2 v2) (hw : Wrote w w' p1 v1 v1') (h2 : Wr w base p2 v2 b2) : Apart2 p1 v1' p2 v2 := by
  rintro k (rfl | hk) h3
  · exact h k (.inl rfl) h3
  · rcases hw.fresh k hk with h4 | h4
    · exact h k (.inr h4) h3
    · have := (h2.ge k h3).2; omega
theorem Apart2.right {w w' : World} {base p1 p2 : Nat} {v1 v2 v2' : Value} {b1 : List UInt8} (h : Apart2 p1 v1 p2 v2) (hw : Wrote w w' p2 v2 v2') (h1 : Wr w base p1 v1 b1) : Apart2 p1 v1 p2 v2' := by
  rintro k hk (rfl | h3)
  · exact h k hk (.inl rfl)
  · rcases hw.fresh k h3 with h4 | h4
    · exact h k hk (.inr h4)
    · have := (h1.ge k hk).2; omega
theorem cat_two (w : World) (v1 v2 : Value) (b1 b2 : List UInt8) (h1 : Rd w v1 (bytesV b1)) (h2 : Rd w v2 (bytesV b2)) (hn : b1.length + b2.length ≤ 1000000000) :
    Calls Tryd.prog 35 #[.slice (some ⟨w.heap.size, 0, none⟩) 2 2] (w.alloc (.cells #[v1, v2] 24)) fun e w' => ∃ v', e = .returned v' ∧ Own w' w.heap.size 5 v' (bytesV (b1 ++ b2)) ∧ Below w.heap.size w w' := by
  have hB0 : Below w.heap.size w (w.alloc (.cells #[v1, v2] 24)) := (Below.refl _ _).alloc (Nat.le_refl _) _
  have hr1 := h1.below hB0 (Nat.le_refl _)
  have hr2 := h2.below hB0 (Nat.le_refl _)
  have hls : Rd (w.alloc (.cells #[v1, v2] 24)) (.slice (some ⟨w.heap.size, 0, none⟩) 2 2) [v1, v2] := (own_lit w w.heap.size 24 [v1, v2] (Nat.le_refl _) (by simp [maxLen])).rd
  have hBs : Rds (w.alloc (.cells #[v1, v2] 24)) [v1, v2] (fun k => if k = 0 then b1 else b2) := fun k x hx => by
    match k, hx with
    | 0, hx => simp at hx; subst hx; exact hr1
    | 1, hx => simp at hx; subst hx; exact hr2
    | k + 2, hx => simp at hx
  have hcl : catL (fun k => if k = 0 then b1 else b2) 2 = b1 ++ b2 := by simp [catL, List.range_succ]
  have C1 := cat_any _ _ 2 2 _ _ hls hBs (by simp) (by rw [show [v1, v2].length = 2 from rfl, hcl, List.length_append]; exact hn)
  rw [show [v1, v2].length = 2 from rfl, hcl] at C1
  refine C1.mono ?_
  rintro e w1 ⟨v, rfl, ho, hb⟩
  exact ⟨v, rfl, own_base ho (by simp), hB0.trans (hb.mono (by simp))⟩
/-- The postings of one block. -/
theorem chunk_eq (ps : List PostV) (at_ hi : Nat) (h : hi = min (at_ + 16) ps.length) : (ps.take hi).drop at_ = (ps.drop at_).take 16 := by
  rw [List.drop_take]
  by_cases h1 : at_ + 16 ≤ ps.length
  · rw [show hi - at_ = 16 by omega]
  · rw [List.take_of_length_le (by rw [List.length_drop]; omega), List.take_of_length_le (by rw [List.length_drop]; omega)]
theorem last_chunk (ps : List PostV) (at_ : Nat) : lastV (lastV (-1) (ps.take at_)) ((ps.drop at_).take 16) = lastV (-1) (ps.take (at_ + 16)) := by
  rw [← lastV_append, ← List.take_add]
end Go.Proofs.YthnpbfadblcicaaDoor
