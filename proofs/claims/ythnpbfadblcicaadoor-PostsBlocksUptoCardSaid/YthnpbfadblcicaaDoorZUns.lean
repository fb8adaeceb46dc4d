/- concordhand: byteMark, and the look at a book's lists of bytes: where no two lie in one block it answers true. -/
import Derived.Test.YthnpbfadblcicaaDoorZLib
import Derived.Test.YthnpbfadblcicaaDoorProg
import Derived.Test.YthnpbfadblcicaaDoorZEl
namespace Go.Proofs.YthnpbfadblcicaaDoor
set_option linter.unusedVariables false
open Go.ChangeShapes Go.WideShapes Go.ChangeAt Go.RowKit

/-! ### Lists of lists -/
def Apart (ls : List Value) : Prop := ∀ (a b : Nat) (x y : Value) (k : Nat), ls[a]? = some x → ls[b]? = some y → a ≠ b → x.ownBlock = some k → y.ownBlock ≠ some k

/-- Each of ls is a list of elements e, the k-th holds C k. -/
def Each (w : World) (base : Nat) (e : TypeId) (ls : List Value) (C : Nat → List Value) : Prop := ∀ k x, ls[k]? = some x → Own w base e x (C k)

theorem each_at {w : World} {base : Nat} {e : TypeId} {ls : List Value} {D : Nat → List Value} (h : Each w base e ls D) {k : Nat} {x : Value} (hx : ls[k]? = some x) {xs : List Value} (hd : D k = xs) : Own w base e x xs := by
  rw [← hd]; exact h k x hx
theorem Each.congr {w : World} {base : Nat} {e : TypeId} {ls : List Value} {C D : Nat → List Value} (h : Each w base e ls C) (hc : ∀ k, k < ls.length → C k = D k) : Each w base e ls D :=
  fun k x hx => by rw [← hc k (List.getElem?_eq_some_iff.1 hx).1]; exact h k x hx

def marksOf (m : Nat → Nat → Value) (i n : Nat) : List Value := (List.range n).map (m i)
theorem marksOf_length (m : Nat → Nat → Value) (i n : Nat) : (marksOf m i n).length = n := by simp [marksOf]
theorem marksOf_succ (m : Nat → Nat → Value) (i n : Nat) : marksOf m i (n + 1) = marksOf m i n ++ [m i n] := by simp [marksOf, List.range_succ]
theorem marksOf_get (m : Nat → Nat → Value) (i n j : Nat) (h : j < n) : (marksOf m i n)[j]? = some (m i j) := by simp [marksOf, h]
theorem marksOf_add (m : Nat → Nat → Value) (i n k : Nat) : marksOf m i (n + k) = marksOf m i n ++ (List.range k).map (fun j => m i (n + j)) := by
  unfold marksOf
  rw [List.range_add, List.map_append, List.map_map]; rfl
def tailOf (m : Nat → Nat → Value) (i n k : Nat) : List Value := (List.range k).map fun j => m i (n + j)
theorem tailOf_length (m : Nat → Nat → Value) (i n k : Nat) : (tailOf m i n k).length = k := by simp [tailOf]
theorem tailOf_succ (m : Nat → Nat → Value) (i n k : Nat) : tailOf m i n (k + 1) = tailOf m i n k ++ [m i (n + k)] := by simp [tailOf, List.range_succ]
theorem marks_tail (m : Nat → Nat → Value) (i n k : Nat) : marksOf m i n ++ tailOf m i n k = marksOf m i (n + k) := (marksOf_add m i n k).symm
def partOf (m : Nat → Nat → Value) (i j : Nat) (xs : List Value) : List Value := marksOf m i j ++ xs.drop j
theorem partOf_zero (m : Nat → Nat → Value) (i : Nat) (xs : List Value) : partOf m i 0 xs = xs := by simp [partOf, marksOf]
theorem partOf_all (m : Nat → Nat → Value) (i : Nat) (xs : List Value) : partOf m i xs.length xs = marksOf m i xs.length := by simp [partOf]
theorem partOf_full (m : Nat → Nat → Value) (i : Nat) {xs : List Value} {n : Nat} (h : xs.length = n) : partOf m i n xs = marksOf m i xs.length := by subst h; exact partOf_all m i xs
theorem partOf_length (m : Nat → Nat → Value) (i j : Nat) (xs : List Value) (h : j ≤ xs.length) : (partOf m i j xs).length = xs.length := by simp [partOf, marksOf]; omega
theorem partOf_set (m : Nat → Nat → Value) (i j : Nat) (xs : List Value) (h : j < xs.length) : (partOf m i j xs).set j (m i j) = partOf m i (j + 1) xs := by
  unfold partOf
  rw [List.set_append_right _ _ (by rw [marksOf_length]; exact Nat.le_refl _), marksOf_length, Nat.sub_self, marksOf_succ, List.drop_eq_getElem_cons h, List.set_cons_zero, List.append_assoc]; rfl

/-! ### The marks -/
def bmN (i j : Nat) : Nat := (i * 37 + j * 11 + 1 + i * j % 5) % 256
def bmV (i j : Nat) : Value := .int .u8 ((bmN i j : Nat) : Int)
theorem bmV_one (i j : Nat) : (bmV i j).oneCell' = true := rfl

theorem elLists : Elem Tryd.prog 67 24 (.slice none 0 0) 24 := ⟨Tryd.underlying67, by kernel_rfl, rfl, by decide⟩
theorem each_store {w : World} {base : Nat} {e : TypeId} {ls : List Value} {D : Nat → List Value} (h : Each w base e ls D) (ha : Apart ls) {i g n c : Nat} (hi : ls[i]? = some (.slice (some ⟨g, 0, none⟩) n c)) (j : Nat) (u : Value) :
    Each (w.setCell ⟨g, j, none⟩ u) base e ls (fun k => if k = i then (D i).set j u else D k) := by
  intro k x hx
  by_cases hk : k = i
  · subst hk
    rw [hi] at hx
    injection hx with hx
    subst hx
    dsimp only
    rw [if_pos rfl]
    exact (h k _ hi).set j u
  · dsimp only
    rw [if_neg hk]
    exact (h k x hx).setOther (ha i k _ x g hi hx (fun e => hk e.symm) rfl) u

/-- v lies in no block of a list of ls but the i-th. -/
def Off (v : Value) (ls : List Value) (i : Nat) : Prop := ∀ (b : Nat) (y : Value) (k : Nat), b ≠ i → ls[b]? = some y → v.ownBlock = some k → y.ownBlock ≠ some k
theorem off_new {v v' : Value} {ls : List Value} {i B : Nat} (h : Off v ls i) (hv : v'.ownBlock = v.ownBlock ∨ v'.ownBlock = some B) (hB : ∀ (b : Nat) (y : Value) (k : Nat), ls[b]? = some y → y.ownBlock = some k → k < B) : Off v' ls i := by
  intro b y k hb hy hk hyk
  rcases hv with hv | hv
  · exact h b y k hb hy (hv ▸ hk) hyk
  · rw [hv] at hk
    injection hk with hk
    have := hB b y k hy hyk
    omega
theorem Each.lt {w : World} {base : Nat} {e : TypeId} {ls : List Value} {D : Nat → List Value} (h : Each w base e ls D) : ∀ (b : Nat) (y : Value) (k : Nat), ls[b]? = some y → y.ownBlock = some k → k < w.heap.size :=
  fun b y k hy hk => ((h b y hy).lt k hk).2
theorem Each.keeps {w w' : World} {base : Nat} {e : TypeId} {ls : List Value} {D : Nat → List Value} (h : Each w base e ls D) {v : Value} {n i : Nat} (hk : Keeps w w' v n) (ho : Off v ls i) (hi : ∀ x, ls[i]? = some x → (D i).length ≤ n) : Each w' base e ls D := by
  intro b y hy
  refine hk _ _ _ _ (h b y hy) fun k h1 h2 => ?_
  by_cases hb : b = i
  · subst hb; exact hi y hy
  · exact absurd h2 (ho b y k hb hy h1)
theorem Each.below {w w' : World} {base : Nat} {e : TypeId} {ls : List Value} {D : Nat → List Value} (h : Each w base e ls D) (hb : Below w.heap.size w w') : Each w' base e ls D :=
  fun k x hx => (h k x hx).below hb (Nat.le_refl _)
theorem Each.drewN {w : World} {base : Nat} {e : TypeId} {ls : List Value} {D : Nat → List Value} (h : Each w base e ls D) (n : Nat) : Each (w.drewN n) base e ls D := fun k x hx => (h k x hx).drewN n
theorem each_snoc {w : World} {base : Nat} {e : TypeId} {ls : List Value} {D : Nat → List Value} {v : Value} (h : Each w base e ls D) (hv : Own w base e v (D ls.length)) : Each w base e (ls ++ [v]) D := by
  intro k x hx
  rcases Nat.lt_trichotomy k ls.length with hk | hk | hk
  · rw [List.getElem?_append_left hk] at hx; exact h k x hx
  · subst hk
    rw [List.getElem?_append_right (Nat.le_refl _), Nat.sub_self] at hx
    simp at hx
    rw [← hx]; exact hv
  · rw [List.getElem?_eq_none (by simp; omega)] at hx; cases hx
theorem off_snoc {v x : Value} {ls : List Value} {i : Nat} (h : Off v ls i) (hx : ls.length ≠ i → ∀ k, v.ownBlock = some k → x.ownBlock ≠ some k) : Off v (ls ++ [x]) i := by
  intro b y k hb hy hk
  rcases Nat.lt_trichotomy b ls.length with hl | hl | hl
  · rw [List.getElem?_append_left hl] at hy; exact h b y k hb hy hk
  · subst hl
    rw [List.getElem?_append_right (Nat.le_refl _), Nat.sub_self] at hy
    simp at hy
    rw [← hy]; exact hx hb k hk
  · rw [List.getElem?_eq_none (by simp; omega)] at hy; cases hy
theorem apart_snoc {ls : List Value} {v : Value} (h : Apart ls) (hv : Off v ls ls.length) : Apart (ls ++ [v]) := by
  intro a b x y k hx hy hab hk
  have get : ∀ (c : Nat) (z : Value), (ls ++ [v])[c]? = some z → (c < ls.length ∧ ls[c]? = some z) ∨ (c = ls.length ∧ z = v) := by
    intro c z hz
    rcases Nat.lt_trichotomy c ls.length with hl | hl | hl
    · rw [List.getElem?_append_left hl] at hz; exact .inl ⟨hl, hz⟩
    · subst hl
      rw [List.getElem?_append_right (Nat.le_refl _), Nat.sub_self] at hz
      simp at hz
      exact .inr ⟨rfl, hz.symm⟩
    · rw [List.getElem?_eq_none (by simp; omega)] at hz; cases hz
  rcases get a x hx with ⟨ha, hx1⟩ | ⟨ha, hx1⟩
  · rcases get b y hy with ⟨hb, hy1⟩ | ⟨hb, hy1⟩
    · exact h a b x y k hx1 hy1 hab hk
    · intro hk2; rw [hy1] at hk2; exact hv a x k (by omega) hx1 hk2 hk
  · rw [hx1] at hk
    rcases get b y hy with ⟨hb, hy1⟩ | ⟨hb, hy1⟩
    · exact hv b y k (by omega) hy1 hk
    · omega

/-- The blocks of the lists. -/
def BlocksOf (ls : List Value) (b : Nat) : Prop := ∃ (k : Nat) (x : Value), ls[k]? = some x ∧ x.ownBlock = some b

end Go.Proofs.YthnpbfadblcicaaDoor
