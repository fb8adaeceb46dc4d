/- Merged: InsL, ImgP. -/
import Derived.Test.YtejmjjgbbojfbaaDoorZG9
import Derived.Test.YtejmjjgbbojfbaaDoorZDictP
/- opened, plain: the list while a text is put in. -/
namespace Go.Proofs.YtejmjjgbbojfbaaDoor
set_option linter.unusedVariables false
theorem ins_start {α : Type} (l : List α) (z : α) : l ++ [z] = l.take l.length ++ z :: l.drop l.length := by simp
theorem ins_set {α : Type} (l : List α) (y x : α) {j : Nat} (hj : j ≤ l.length) : (l.take j ++ y :: l.drop j).set j x = l.take j ++ x :: l.drop j := by
  have h : (l.take j).length = j := by rw [List.length_take]; omega
  rw [List.set_append_right _ _ (by omega), h, Nat.sub_self, List.set_cons_zero]
theorem ins_step {α : Type} (l : List α) {j : Nat} (h0 : 0 < j) (hj : j ≤ l.length) : l.take j ++ l[j - 1] :: l.drop j = l.take (j - 1) ++ l[j - 1] :: l.drop (j - 1) := by
  obtain ⟨k, rfl⟩ : ∃ k, j = k + 1 := ⟨j - 1, by omega⟩
  simp only [Nat.add_sub_cancel]
  have hk : k < l.length := by omega
  rw [List.take_succ_eq_append_getElem hk, List.append_assoc]
  congr 1
  rw [List.singleton_append]
  congr 1
  exact (List.drop_eq_getElem_cons hk).symm
theorem ins_get {α : Type} (l : List α) (y : α) {j : Nat} (h0 : 0 < j) (hj : j ≤ l.length) : (l.take j ++ y :: l.drop j)[j - 1]? = some l[j - 1] := by
  rw [List.getElem?_append_left (by rw [List.length_take]; omega), List.getElem?_take, if_pos (by omega), List.getElem?_eq_getElem (by omega)]
theorem ins_len {α : Type} (l : List α) (y : α) {j : Nat} (hj : j ≤ l.length) : (l.take j ++ y :: l.drop j).length = l.length + 1 := by simp; omega
theorem ins_mem {α : Type} {l : List α} {y : α} {j : Nat} {P : α → Prop} (h : ∀ x ∈ l, P x) (hy : P y) : ∀ x ∈ l.take j ++ y :: l.drop j, P x := fun x hx => by
  rcases List.mem_append.1 hx with hx | hx
  · exact h x (List.mem_of_mem_take hx)
  · rcases List.mem_cons.1 hx with rfl | hx
    · exact hy
    · exact h x (List.mem_of_mem_drop hx)
end Go.Proofs.YtejmjjgbbojfbaaDoor

/- dict, plain: how long an image is at most. -/
namespace Go.Proofs.YtejmjjgbbojfbaaDoor
set_option linter.unusedVariables false

/-- How long an image is at most. -/
theorem entB_most {last : List UInt8} {e : EntV} (he : entOk e = true) : (entB last e).length ≤ 125 := by
  have le := entOk_len he
  obtain ⟨nd, nt, na, ns⟩ := entOk_num he
  have hsl := shr_le last e.K
  have u := fun (n : Nat) (h : n < 2 ^ 64) => (uvar_le n h).2
  have u0 := u (shr last e.K) (by omega)
  have u1 := u (e.K.length - shr last e.K) (by omega)
  have u2 := u _ (numOk_lt nd)
  have u3 := u _ (numOk_lt nt)
  have u4 := u _ (numOk_lt na)
  have u5 := u _ (numOk_lt ns)
  unfold entB
  simp only [List.length_append, List.length_drop]; omega
theorem blkB_most : ∀ (l : List EntV) (last : List UInt8), (∀ e ∈ l, entOk e = true) → (blkB last l).length ≤ l.length * 125
  | [], _, _ => Nat.zero_le _
  | e :: l, last, ok => by
    have h1 := entB_most (last := last) (ok e (List.mem_cons_self ..))
    have h2 := blkB_most l e.K (fun x hx => ok x (List.mem_cons_of_mem _ hx))
    rw [blkB, List.length_append, List.length_cons]; omega
theorem chk_most : ∀ (n : Nat) (l : List EntV), l.length ≤ n → l.length ≤ 100000000 → (∀ e ∈ l, entOk e = true) → ((chk l).flatMap (blkB [])).length ≤ l.length * 125 ∧ ((chk l).flatMap (fun c => uvar (blkB [] c).length)).length ≤ l.length * 10 := by
  intro n
  induction n with
  | zero =>
    intro l hn _ _
    have e1 : l = [] := List.length_eq_zero_iff.1 (by omega)
    subst e1; rw [chk_nil]; exact ⟨Nat.le_refl _, Nat.le_refl _⟩
  | succ n ih =>
    intro l hn hm ok
    by_cases hz : l = []
    · subst hz; rw [chk_nil]; exact ⟨Nat.le_refl _, Nat.le_refl _⟩
    · have hp : 0 < l.length := List.length_pos_iff.2 hz
      obtain ⟨h1, h2⟩ := ih (l.drop 16) (by rw [List.length_drop]; omega) (by rw [List.length_drop]; omega) (fun e he => ok e (List.mem_of_mem_drop he))
      have h3 := blkB_most (l.take 16) [] (fun e he => ok e (List.mem_of_mem_take he))
      have hl : (l.take 16).length + (l.drop 16).length = l.length := by rw [List.length_take, List.length_drop]; omega
      have hu := (uvar_le (blkB [] (l.take 16)).length (by omega)).2
      have hl1 : 1 ≤ (l.take 16).length := by rw [List.length_take]; omega
      rw [chk_cons hz, List.flatMap_cons, List.flatMap_cons, List.length_append, List.length_append]
      omega
theorem image_most {l : List EntV} (h : l.length ≤ 1048576) (ok : ∀ e ∈ l, entOk e = true) : (imageB l).length ≤ 1000000000 := by
  obtain ⟨h1, h2⟩ := chk_most _ l (Nat.le_refl _) (by omega) ok
  have := (uvar_le l.length (by omega)).2
  unfold imageB
  rw [List.length_append, List.length_append]; omega
end Go.Proofs.YtejmjjgbbojfbaaDoor
