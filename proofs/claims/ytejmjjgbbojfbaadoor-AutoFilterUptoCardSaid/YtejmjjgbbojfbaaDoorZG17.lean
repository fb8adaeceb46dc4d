/- Merged: Lev, FuzzP, FuzzA. -/
import Derived.Test.YtejmjjgbbojfbaaDoorZG16
import Derived.Test.YtejmjjgbbojfbaaDoorZFuzz2
/- The edit distance on lists: its recursions, that it is a metric; its table, and the table within a band. No program occurs here. -/
namespace Go.Proofs.YtejmjjgbbojfbaaDoor
section
variable {α : Type}

/-- Alignments: n edits lead from the first to the second. -/
inductive Al : Nat → List α → List α → Prop
  | nil : Al 0 [] []
  | keep {n : Nat} {a b : List α} (x : α) : Al n a b → Al n (x :: a) (x :: b)
  | sub {n : Nat} {a b : List α} (x y : α) : Al n a b → Al (n + 1) (x :: a) (y :: b)
  | del {n : Nat} {a b : List α} (x : α) : Al n a b → Al (n + 1) (x :: a) b
  | ins {n : Nat} {a b : List α} (y : α) : Al n a b → Al (n + 1) a (y :: b)

theorem al_drop (a : List α) : Al a.length a [] := by
  induction a with
  | nil => exact .nil
  | cons x a ih => exact .del x ih
theorem al_add (b : List α) : Al b.length [] b := by
  induction b with
  | nil => exact .nil
  | cons x a ih => exact .ins x ih
theorem al_refl (a : List α) : Al 0 a a := by
  induction a with
  | nil => exact .nil
  | cons x a ih => exact .keep x ih
theorem al_symm {n : Nat} {a b : List α} (h : Al n a b) : Al n b a := by
  induction h with
  | nil => exact .nil
  | keep x _ ih => exact .keep x ih
  | sub x y _ ih => exact .sub y x ih
  | del x _ ih => exact .ins x ih
  | ins x _ ih => exact .del x ih
theorem al_append {n m : Nat} {a b c d : List α} (h : Al n a b) (k : Al m c d) : Al (n + m) (a ++ c) (b ++ d) := by
  induction h with
  | nil => simpa using k
  | keep x _ ih => exact .keep x ih
  | sub x y _ ih => rw [Nat.add_right_comm]; exact .sub x y ih
  | del x _ ih => rw [Nat.add_right_comm]; exact .del x ih
  | ins x _ ih => rw [Nat.add_right_comm]; exact .ins x ih
theorem al_reverse {n : Nat} {a b : List α} (h : Al n a b) : Al n a.reverse b.reverse := by
  induction h with
  | nil => exact .nil
  | keep x _ ih => simpa using al_append ih (al_refl [x])
  | sub x y _ ih => simpa using al_append ih (Al.sub x y .nil)
  | del x _ ih => simpa using al_append ih (Al.del x .nil)
  | ins x _ ih => simpa using al_append ih (Al.ins x .nil)
theorem al_len {n : Nat} {a b : List α} (h : Al n a b) : a.length ≤ b.length + n ∧ b.length ≤ a.length + n := by
  induction h with
  | nil => exact ⟨Nat.le_refl _, Nat.le_refl _⟩
  | keep x _ ih => simp only [List.length_cons]; omega
  | sub x y _ ih => simp only [List.length_cons]; omega
  | del x _ ih => simp only [List.length_cons]; omega
  | ins x _ ih => simp only [List.length_cons]; omega
theorem al_nil_right {n : Nat} {a : List α} (h : Al n a []) : a.length ≤ n := by have := (al_len h).1; simpa using this
theorem al_nil_left {n : Nat} {b : List α} (h : Al n [] b) : b.length ≤ n := by have := (al_len h).2; simpa using this

theorem al_trans {n m : Nat} {a b c : List α} (h : Al n a b) (k : Al m b c) : ∃ l, l ≤ n + m ∧ Al l a c := by
  suffices H : ∀ s (n m : Nat) (a b c : List α), n + m + a.length + b.length + c.length ≤ s → Al n a b → Al m b c → ∃ l, l ≤ n + m ∧ Al l a c from H _ n m a b c (Nat.le_refl _) h k
  intro s
  induction s with
  | zero =>
    intro n m a b c hs h k
    have ha : a = [] := List.eq_nil_of_length_eq_zero (by omega)
    have hc : c = [] := List.eq_nil_of_length_eq_zero (by omega)
    subst ha hc
    exact ⟨0, Nat.zero_le _, .nil⟩
  | succ s ih =>
    intro n m a b c hs h k
    cases h with
    | nil => exact ⟨m, by omega, k⟩
    | @del n a _ x h =>
      simp only [List.length_cons] at hs
      obtain ⟨l, hl, r⟩ := ih n m a b c (by omega) h k
      exact ⟨l + 1, by omega, .del x r⟩
    | @keep n a b x h =>
      simp only [List.length_cons] at hs
      cases k with
      | @keep m _ c _ k =>
        simp only [List.length_cons] at hs
        obtain ⟨l, hl, r⟩ := ih n m a b c (by omega) h k
        exact ⟨l, hl, .keep x r⟩
      | @sub m _ c _ z k =>
        simp only [List.length_cons] at hs
        obtain ⟨l, hl, r⟩ := ih n m a b c (by omega) h k
        exact ⟨l + 1, by omega, .sub x z r⟩
      | @del m _ _ _ k =>
        obtain ⟨l, hl, r⟩ := ih n m a b c (by omega) h k
        exact ⟨l + 1, by omega, .del x r⟩
      | @ins m _ c z k =>
        simp only [List.length_cons] at hs
        obtain ⟨l, hl, r⟩ := ih n m (x :: a) (x :: b) c (by simp only [List.length_cons]; omega) (.keep x h) k
        exact ⟨l + 1, by omega, .ins z r⟩
    | @sub n a b x y h =>
      simp only [List.length_cons] at hs
      cases k with
      | @keep m _ c _ k =>
        simp only [List.length_cons] at hs
        obtain ⟨l, hl, r⟩ := ih n m a b c (by omega) h k
        exact ⟨l + 1, by omega, .sub x y r⟩
      | @sub m _ c _ z k =>
        simp only [List.length_cons] at hs
        obtain ⟨l, hl, r⟩ := ih n m a b c (by omega) h k
        exact ⟨l + 1, by omega, .sub x z r⟩
      | @del m _ _ _ k =>
        obtain ⟨l, hl, r⟩ := ih n m a b c (by omega) h k
        exact ⟨l + 1, by omega, .del x r⟩
      | @ins m _ c z k =>
        simp only [List.length_cons] at hs
        obtain ⟨l, hl, r⟩ := ih (n + 1) m (x :: a) (y :: b) c (by simp only [List.length_cons]; omega) (.sub x y h) k
        exact ⟨l + 1, by omega, .ins z r⟩
    | @ins n _ b y h =>
      simp only [List.length_cons] at hs
      cases k with
      | @keep m _ c _ k =>
        simp only [List.length_cons] at hs
        obtain ⟨l, hl, r⟩ := ih n m a b c (by omega) h k
        exact ⟨l + 1, by omega, .ins y r⟩
      | @sub m _ c _ z k =>
        simp only [List.length_cons] at hs
        obtain ⟨l, hl, r⟩ := ih n m a b c (by omega) h k
        exact ⟨l + 1, by omega, .ins z r⟩
      | @del m _ _ _ k =>
        obtain ⟨l, hl, r⟩ := ih n m a b c (by omega) h k
        exact ⟨l, by omega, r⟩
      | @ins m _ c z k =>
        simp only [List.length_cons] at hs
        obtain ⟨l, hl, r⟩ := ih (n + 1) m a (y :: b) c (by simp only [List.length_cons]; omega) (.ins y h) k
        exact ⟨l + 1, by omega, .ins z r⟩

theorem al_zero {n : Nat} {a b : List α} (h : Al n a b) : n = 0 → a = b := by
  induction h with
  | nil => exact fun _ => rfl
  | keep x _ ih => exact fun h => by rw [ih h]
  | _ => intro h; omega

variable [DecidableEq α]
def lev : List α → List α → Nat
  | [], b => b.length
  | x :: a, [] => (x :: a).length
  | x :: a, y :: b => min (lev a b + if x = y then 0 else 1) (min (lev a (y :: b) + 1) (lev (x :: a) b + 1))
termination_by a b => a.length + b.length

theorem lev_nil_left (b : List α) : lev [] b = b.length := by rw [lev]
theorem lev_nil_right (a : List α) : lev a [] = a.length := by
  cases a
  · rw [lev]
  · rw [lev]
theorem lev_cons (x y : α) (a b : List α) : lev (x :: a) (y :: b) = min (lev a b + if x = y then 0 else 1) (min (lev a (y :: b) + 1) (lev (x :: a) b + 1)) := by rw [lev]

theorem lev_al : ∀ a b : List α, Al (lev a b) a b := by
  suffices H : ∀ n (a b : List α), a.length + b.length ≤ n → Al (lev a b) a b from fun a b => H _ a b (Nat.le_refl _)
  intro n
  induction n with
  | zero =>
    intro a b h
    have ha : a = [] := List.eq_nil_of_length_eq_zero (by omega)
    have hb : b = [] := List.eq_nil_of_length_eq_zero (by omega)
    subst ha hb
    rw [lev_nil_left]; exact .nil
  | succ n ih =>
    intro a b h
    match a, b with
    | [], b => rw [lev_nil_left]; exact al_add b
    | x :: a, [] => rw [lev_nil_right]; exact al_drop _
    | x :: a, y :: b =>
      simp only [List.length_cons] at h
      have h1 := ih a b (by omega)
      have h2 := ih a (y :: b) (by simp only [List.length_cons]; omega)
      have h3 := ih (x :: a) b (by simp only [List.length_cons]; omega)
      rw [lev_cons]
      have c1 : Al (lev a b + if x = y then 0 else 1) (x :: a) (y :: b) := by
        split
        · rename_i e; subst e; exact .keep x h1
        · exact .sub x y h1
      rcases Nat.le_total (lev a b + if x = y then 0 else 1) (min (lev a (y :: b) + 1) (lev (x :: a) b + 1)) with e | e
      · rw [Nat.min_eq_left e]; exact c1
      · rw [Nat.min_eq_right e]
        rcases Nat.le_total (lev a (y :: b) + 1) (lev (x :: a) b + 1) with e | e
        · rw [Nat.min_eq_left e]; exact .del x h2
        · rw [Nat.min_eq_right e]; exact .ins y h3

theorem al_lev {n : Nat} {a b : List α} (h : Al n a b) : lev a b ≤ n := by
  suffices H : ∀ m (n : Nat) (a b : List α), a.length + b.length ≤ m → Al n a b → lev a b ≤ n from H _ n a b (Nat.le_refl _) h
  intro m
  induction m with
  | zero =>
    intro n a b hl h
    have ha : a = [] := List.eq_nil_of_length_eq_zero (by omega)
    have hb : b = [] := List.eq_nil_of_length_eq_zero (by omega)
    subst ha hb
    rw [lev_nil_left]; exact Nat.zero_le _
  | succ m ih =>
    intro n a b hl h
    cases h with
    | nil => rw [lev_nil_left]; exact Nat.zero_le _
    | @keep n a b x h =>
      simp only [List.length_cons] at hl
      have := ih n a b (by omega) h
      rw [lev_cons, if_pos rfl]; omega
    | @sub n a b x y h =>
      simp only [List.length_cons] at hl
      have := ih n a b (by omega) h
      rw [lev_cons]; split <;> omega
    | @del n a b x h =>
      simp only [List.length_cons] at hl
      have h1 := ih n a b (by omega) h
      match b with
      | [] => rw [lev_nil_right]; have := al_nil_right h; simp only [List.length_cons]; omega
      | y :: b => rw [lev_cons]; omega
    | @ins n a b y h =>
      simp only [List.length_cons] at hl
      have h1 := ih n a b (by omega) h
      match a with
      | [] => rw [lev_nil_left]; have := al_nil_left h; simp only [List.length_cons]; omega
      | x :: a => rw [lev_cons]; omega

theorem lev_symm (a b : List α) : lev a b = lev b a := Nat.le_antisymm (al_lev (al_symm (lev_al b a))) (al_lev (al_symm (lev_al a b)))
theorem lev_reverse (a b : List α) : lev a.reverse b.reverse = lev a b := by
  refine Nat.le_antisymm (al_lev (al_reverse (lev_al a b))) ?_
  have h := al_lev (al_reverse (lev_al a.reverse b.reverse))
  simpa using h
theorem lev_len (a b : List α) : a.length ≤ b.length + lev a b ∧ b.length ≤ a.length + lev a b := al_len (lev_al a b)
theorem lev_self (a : List α) : lev a a = 0 := Nat.le_zero.1 (al_lev (al_refl a))

theorem lev_tri (a b c : List α) : lev a c ≤ lev a b + lev b c := by
  obtain ⟨l, hl, r⟩ := al_trans (lev_al a b) (lev_al b c)
  exact Nat.le_trans (al_lev r) hl
theorem lev_eq_zero {a b : List α} : lev a b = 0 ↔ a = b := by
  constructor
  · exact fun h => al_zero (lev_al a b) h
  · rintro rfl; exact lev_self a

theorem lev_cons_same (x : α) (a b : List α) : lev (x :: a) (x :: b) = lev a b := by
  rw [lev_cons, if_pos rfl]
  have h1 := lev_tri a (x :: b) b
  have h2 := lev_tri a (x :: a) b
  have h3 : lev (x :: b) b ≤ 1 := al_lev (Al.del x (al_refl b))
  have h4 : lev a (x :: a) ≤ 1 := al_lev (Al.ins x (al_refl a))
  omega
theorem lev_append_left (x a b : List α) : lev (x ++ a) (x ++ b) = lev a b := by
  induction x with
  | nil => rfl
  | cons y x ih => rw [List.cons_append, List.cons_append, lev_cons_same, ih]
theorem lev_append_right (x a b : List α) : lev (a ++ x) (b ++ x) = lev a b := by
  rw [← lev_reverse (a ++ x), List.reverse_append, List.reverse_append, lev_append_left, lev_reverse]
theorem lev_le_max : ∀ a b : List α, lev a b ≤ max a.length b.length := by
  intro a
  induction a with
  | nil => intro b; rw [lev_nil_left]; exact Nat.le_max_right _ _
  | cons x a ih =>
    intro b
    cases b with
    | nil => rw [lev_nil_right]; exact Nat.le_max_left _ _
    | cons y b =>
      have := ih b
      rw [lev_cons]
      simp only [List.length_cons]
      split <;> omega
theorem lev_snoc (x y : α) (a b : List α) : lev (a ++ [x]) (b ++ [y]) = min (lev a b + if x = y then 0 else 1) (min (lev a (b ++ [y]) + 1) (lev (a ++ [x]) b + 1)) := by
  have h := lev_cons x y a.reverse b.reverse
  rw [lev_reverse, show y :: b.reverse = (b ++ [y]).reverse by simp, show x :: a.reverse = (a ++ [x]).reverse by simp, lev_reverse, lev_reverse, lev_reverse] at h
  exact h

/-- The same by fuel, to be reckoned. -/
def levF : Nat → List α → List α → Nat
  | 0, _, _ => 0
  | _ + 1, [], b => b.length
  | _ + 1, x :: a, [] => (x :: a).length
  | n + 1, x :: a, y :: b => min (levF n a b + if x = y then 0 else 1) (min (levF n a (y :: b) + 1) (levF n (x :: a) b + 1))
theorem levF_eq : ∀ (n : Nat) (a b : List α), a.length + b.length < n → levF n a b = lev a b := by
  intro n
  induction n with
  | zero => intro a b h; omega
  | succ n ih =>
    intro a b h
    match a, b with
    | [], b => rw [levF, lev_nil_left]
    | x :: a, [] => rw [levF, lev_nil_right]
    | x :: a, y :: b =>
      simp only [List.length_cons] at h
      rw [levF, lev_cons, ih a b (by omega), ih a (y :: b) (by simp only [List.length_cons]; omega), ih (x :: a) b (by simp only [List.length_cons]; omega)]

/-! ### The table -/
def lt (a b : List α) (i j : Nat) : Nat := lev (a.take i) (b.take j)
theorem lt_zero_left (a b : List α) (j : Nat) (h : j ≤ b.length) : lt a b 0 j = j := by simp [lt, lev_nil_left, h]
theorem lt_zero_right (a b : List α) (i : Nat) (h : i ≤ a.length) : lt a b i 0 = i := by simp [lt, lev_nil_right, h]
theorem lt_succ (a b : List α) (i j : Nat) (hi : i < a.length) (hj : j < b.length) :
    lt a b (i + 1) (j + 1) = min (lt a b i j + if a[i] = b[j] then 0 else 1) (min (lt a b i (j + 1) + 1) (lt a b (i + 1) j + 1)) := by
  unfold lt
  rw [List.take_succ_eq_append_getElem hi, List.take_succ_eq_append_getElem hj, lev_snoc]
theorem lt_diff (a b : List α) (i j : Nat) (hi : i ≤ a.length) (hj : j ≤ b.length) : i ≤ j + lt a b i j ∧ j ≤ i + lt a b i j := by
  have h := lev_len (a.take i) (b.take j)
  simpa [lt, Nat.min_eq_left hi, Nat.min_eq_left hj] using h
theorem lt_all (a b : List α) : lt a b a.length b.length = lev a b := by simp [lt]

theorem lt_le (a b : List α) (i j : Nat) : lt a b i j ≤ max i j := by
  have h := lev_le_max (a.take i) (b.take j)
  have h1 := List.length_take_le i a
  have h2 := List.length_take_le j b
  unfold lt; omega

/-- The table, cut at m + 1. -/
def le_ (a b : List α) (m i j : Nat) : Nat := min (lt a b i j) (m + 1)
theorem le_far (a b : List α) (m i j : Nat) (hi : i ≤ a.length) (hj : j ≤ b.length) (h : m < i - j ∨ m < j - i) : le_ a b m i j = m + 1 := by
  have := lt_diff a b i j hi hj
  unfold le_; omega
theorem le_succ_ (a b : List α) (m i j : Nat) (hi : i < a.length) (hj : j < b.length) :
    le_ a b m (i + 1) (j + 1) = min (min (le_ a b m i j + if a[i] = b[j] then 0 else 1) (min (le_ a b m i (j + 1) + 1) (le_ a b m (i + 1) j + 1))) (m + 1) := by
  unfold le_
  rw [lt_succ a b i j hi hj]
  split <;> omega
end
end Go.Proofs.YtejmjjgbbojfbaaDoor

/- A word's machine tells the number of edits. No program occurs here. -/
namespace Go.Proofs.YtejmjjgbbojfbaaDoor
set_option linter.unusedVariables false

theorem snocF {α : Type} {P : List α → Prop} (h0 : P []) (h1 : ∀ l x, P l → P (l ++ [x])) (l : List α) : P l := by
  have h : ∀ l : List α, P l.reverse := fun l => by
    induction l with
    | nil => exact h0
    | cons x l ih => rw [List.reverse_cons]; exact h1 _ _ ih
  rw [← List.reverse_reverse l]; exact h _
def fzOf (w : List UInt8) (m : Nat) (s : List UInt8) : List Nat := s.foldl (stepF w m) (startF w m)
theorem fzOf_snoc (w : List UInt8) (m : Nat) (s : List UInt8) (b : UInt8) : fzOf w m (s ++ [b]) = stepF w m (fzOf w m s) b := by unfold fzOf; rw [List.foldl_append]; rfl
theorem getD_map_range (f : Nat → Nat) (n i : Nat) (h : i < n) : ((List.range n).map f).getD i 0 = f i := by
  rw [List.getD_eq_getElem?_getD, List.getElem?_map, List.getElem?_range h]; rfl
theorem fzOf_length (w : List UInt8) (m : Nat) (s : List UInt8) : (fzOf w m s).length = w.length + 1 := by
  induction s using snocF with
  | h0 => simp [fzOf, startF]
  | h1 l x ih => rw [fzOf_snoc]; simp [stepF]
theorem fzOf_le (w : List UInt8) (m : Nat) (s : List UInt8) : ∀ x ∈ fzOf w m s, x ≤ m + 1 := by
  induction s using snocF with
  | h0 =>
    intro x hx
    obtain ⟨i, _, rfl⟩ := List.mem_map.1 hx
    exact Nat.min_le_right _ _
  | h1 l c ih =>
    rw [fzOf_snoc]
    intro x hx
    obtain ⟨i, _, rfl⟩ := List.mem_map.1 hx
    exact fz_le _ _ _ _ _
theorem fz_lev (w : List UInt8) (m : Nat) (s : List UInt8) : ∀ i, i ≤ w.length → (fzOf w m s).getD i 0 = min (lev (w.take i) s) (m + 1) := by
  induction s using snocF with
  | h0 =>
    intro i hi
    show (startF w m).getD i 0 = _
    unfold startF
    rw [getD_map_range _ _ _ (by omega), lev_nil_right, List.length_take, Nat.min_eq_left hi]
  | h1 s b ih =>
    intro i
    rw [fzOf_snoc]
    unfold stepF
    induction i with
    | zero =>
      intro _
      have h0 := ih 0 (Nat.zero_le _)
      rw [List.take_zero, lev_nil_left] at h0
      rw [getD_map_range _ _ _ (by omega), fz, h0, List.take_zero, lev_nil_left, List.length_append]
      simp only [List.length_singleton]; omega
    | succ i ihi =>
      intro hi
      have h0 := ih i (by omega)
      have h1 := ih (i + 1) hi
      have h2 := ihi (by omega)
      rw [getD_map_range _ _ _ (by omega)] at h2 ⊢
      have ht : w.take (i + 1) = w.take i ++ [w[i]'(by omega)] := by rw [List.take_add_one, List.getElem?_eq_getElem (by omega)]; rfl
      have hg : w.getD i 0 = w[i]'(by omega) := by rw [List.getD_eq_getElem?_getD, List.getElem?_eq_getElem (by omega)]; rfl
      rw [fz, h0, h1, h2, hg, ht, lev_snoc]
      rw [← ht]
      split <;> omega
theorem dead_fz {w : List UInt8} {m : Nat} {D : List Nat} (hl : D.length = w.length + 1) (h : ∀ x ∈ D, m < x) (b : UInt8) : ∀ x ∈ stepF w m D b, m < x := by
  have hD : ∀ i, i ≤ w.length → m < D.getD i 0 := fun i hi => by
    rw [List.getD_eq_getElem?_getD, List.getElem?_eq_getElem (by omega)]
    exact h _ (List.getElem_mem _)
  have key : ∀ i, i ≤ w.length → m < fz w m D b i := fun i => by
    induction i with
    | zero => intro hi; have := hD 0 hi; rw [fz]; omega
    | succ i ih =>
      intro hi
      have h1 := hD i (by omega)
      have h2 := hD (i + 1) hi
      have h3 := ih (by omega)
      rw [fz]; split <;> omega
  intro x hx
  obtain ⟨i, hi, rfl⟩ := List.mem_map.1 hx
  exact key i (by have := List.mem_range.1 hi; omega)
theorem strN_ne {l : List Nat} (h : 0 < l.length) : strN l ≠ ⟨#[]⟩ := fun e => by
  have := congrArg ByteArray.size e
  rw [strN, strOf_size, natB_length] at this
  have h2 : (⟨#[]⟩ : ByteArray).size = 0 := rfl
  omega
theorem run_fz (w : List UInt8) (m : Nat) (hm : m ≤ 2) (s : List UInt8) : (runM (fuzzM w m) s = ⟨#[]⟩ ∧ ∀ x ∈ fzOf w m s, m < x) ∨ (runM (fuzzM w m) s = strN (fzOf w m s)) := by
  induction s using snocF with
  | h0 => exact .inr rfl
  | h1 s b ih =>
    rw [runM_snoc, fzOf_snoc]
    rcases ih with ⟨h1, h2⟩ | h1
    · exact .inl ⟨by rw [h1]; rfl, dead_fz (fzOf_length _ _ _) h2 b⟩
    · rw [h1]
      unfold stepM
      rw [if_neg (strN_ne (by rw [fzOf_length]; omega))]
      show ((if (stepF w m (natsOf (strN (fzOf w m s))) b).any (fun x => decide (x ≤ m)) then strN (stepF w m (natsOf (strN (fzOf w m s))) b) else ⟨#[]⟩) = _ ∧ _) ∨ ((if (stepF w m (natsOf (strN (fzOf w m s))) b).any (fun x => decide (x ≤ m)) then strN (stepF w m (natsOf (strN (fzOf w m s))) b) else ⟨#[]⟩) = _)
      rw [natsOf_strN (fun x hx => by have := fzOf_le w m s x hx; omega)]
      cases hA : (stepF w m (fzOf w m s) b).any (fun x => decide (x ≤ m))
      · refine .inl ⟨by rw [if_neg (by simp)], fun x hx => ?_⟩
        have := List.any_eq_false.1 hA x hx
        simpa using this
      · exact .inr (by rw [if_pos rfl])
theorem acc_fz (w : List UInt8) (m : Nat) (hm : m ≤ 2) (s : List UInt8) : accM (fuzzM w m) s = decide (lev w s ≤ m) := by
  have hl := fz_lev w m s w.length (Nat.le_refl _)
  rw [List.take_length] at hl
  unfold accM
  rcases run_fz w m hm s with ⟨h1, h2⟩ | h1
  · rw [h1]
    have h3 : m < (fzOf w m s).getD w.length 0 := by
      rw [List.getD_eq_getElem?_getD, List.getElem?_eq_getElem (by rw [fzOf_length]; omega)]
      exact h2 _ (List.getElem_mem _)
    rw [decide_eq_false (show ¬ lev w s ≤ m by omega)]
    simp
  · rw [h1, decide_eq_true (strN_ne (by rw [fzOf_length]; omega)), Bool.true_and]
    show decide ((natsOf (strN (fzOf w m s))).getD w.length 0 ≤ m) = _
    rw [natsOf_strN (fun x hx => by have := fzOf_le w m s x hx; omega), hl]
    exact decide_eq_decide.2 (by omega)
theorem alive_acc {M : Mach} {s t : List UInt8} (h : accM M (s ++ t) = true) : aliveM M s = true := by
  unfold accM at h
  unfold aliveM
  have h1 : runM M (s ++ t) ≠ ⟨#[]⟩ := fun e => by rw [e] at h; simp at h
  exact decide_eq_true fun e => h1 (runM_dead M s t e)
end Go.Proofs.YtejmjjgbbojfbaaDoor

/- auto.Fuzzy: the automaton of a word and edits. -/
namespace Go.Proofs.YtejmjjgbbojfbaaDoor
set_option linter.unusedVariables false
open Go.ChangeShapes Go.WideShapes Go.ChangeAt Go.RowKit

theorem startF_len (w : List UInt8) (m : Nat) : (startF w m).length = w.length + 1 := by simp [startF]
theorem stepF_len (w : List UInt8) (m : Nat) (D : List Nat) (b : UInt8) : (stepF w m D b).length = w.length + 1 := by simp [stepF]
theorem startF_le (w : List UInt8) (m : Nat) : ∀ x ∈ startF w m, x ≤ m + 1 := fun x hx => by
  obtain ⟨i, _, rfl⟩ := List.mem_map.1 hx
  exact Nat.min_le_right _ _
theorem stepF_le (w : List UInt8) (m : Nat) (D : List Nat) (b : UInt8) : ∀ x ∈ stepF w m D b, x ≤ m + 1 := fun x hx => by
  obtain ⟨i, _, rfl⟩ := List.mem_map.1 hx
  exact fz_le _ _ _ _ _
theorem fuzzM_auto {w : World} {p : Nat} {s : ByteArray} {m : Nat} (hs : s.size ≤ 1000000000) (hm : m ≤ 2) (hc : w.cell? ⟨p, 0, none⟩ = some (.iface 79 (.agg #[.string s, .int .u8 (m : Nat)]))) : IsAuto w p (fuzzM s.data.toList m) := by
  have hsl : s.data.toList.length = s.size := Array.length_toList (xs := s.data)
  have key : ∀ D : List Nat, (∀ x ∈ D, x ≤ m + 1) → natsOf (strN D) = D := fun D h => natsOf_strN fun x hx => by have := h x hx; omega
  refine ⟨World.block_lt_of_cell? w _ hc, 79, .agg #[.string s, .int .u8 (m : Nat)], 112, 113, 111, fun d => ∃ D : List Nat, D.length = s.size + 1 ∧ (∀ x ∈ D, x ≤ m + 1) ∧ d = strN D, ⟨hc, fun d ⟨D, hD, _, e⟩ => by rw [e]; unfold strN; rw [strOf_size]; simp [natB]; omega⟩, ⟨fun w => by kernel_rfl, fun args w => by kernel_rfl⟩, ⟨fun w => by kernel_rfl, fun args w => by kernel_rfl⟩, ⟨fun w => by kernel_rfl, fun args w => by kernel_rfl⟩,
    fun _ => ⟨startF s.data.toList m, by rw [startF_len, hsl], startF_le _ _, rfl⟩, ?_, ?_⟩
  · rintro d b ⟨D, hD, hb, rfl⟩ _ hne
    refine ⟨stepF s.data.toList m D b, by rw [stepF_len, hsl], stepF_le _ _ _ _, ?_⟩
    show (if (stepF s.data.toList m (natsOf (strN D)) b).any (fun x => decide (x ≤ m)) then strN (stepF s.data.toList m (natsOf (strN D)) b) else ⟨#[]⟩) = _
    have hne' : (if (stepF s.data.toList m (natsOf (strN D)) b).any (fun x => decide (x ≤ m)) then strN (stepF s.data.toList m (natsOf (strN D)) b) else ⟨#[]⟩) ≠ (⟨#[]⟩ : ByteArray) := hne
    rw [key D hb] at hne' ⊢
    split
    · rfl
    · next h => rw [if_neg h] at hne'; exact absurd rfl hne'
  · intro w' _
    refine ⟨fstart_any w' s m hs hm, ?_, ?_⟩
    · rintro d b ⟨D, hD, hb, rfl⟩ _
      refine (fstep_any w' s m hs hm _ D rfl hD hb b).mono fun e w'' ⟨h1, h2⟩ => ⟨?_, h2⟩
      rw [h1]
      show _ = Ending.returned (.string (if (stepF s.data.toList m (natsOf (strN D)) b).any (fun x => decide (x ≤ m)) then strN (stepF s.data.toList m (natsOf (strN D)) b) else ⟨#[]⟩))
      rw [key D hb]; rfl
    · rintro d ⟨D, hD, hb, rfl⟩ _
      refine (facc_any w' s m hs hm _ D rfl hD hb).mono fun e w'' ⟨h1, h2⟩ => ⟨?_, h2⟩
      rw [h1]
      show _ = Ending.returned (.bool (decide ((natsOf (strN D)).getD s.data.toList.length 0 ≤ m)))
      rw [key D hb, hsl]
set_option maxRecDepth 100000 in
theorem fuzzy_ok (w : World) (s : ByteArray) (m : Nat) (hs : s.size ≤ 1000000000) (hm : m ≤ 2) :
    Calls Tryd.prog 14 #[.string s, .int .i64 (m : Nat)] w fun e w' => ∃ p, e = .returned (.tuple #[.pointer (some ⟨p, 0, none⟩), .nilIface]) ∧ w.heap.size ≤ p ∧ IsAuto w' p (fuzzM s.data.toList m) ∧ Below w.heap.size w w' := by
  have hn := heap_alloc_new w (.cells #[.iface 79 (.agg #[.string s, .int .u8 (m : Nat)])] 83)
  have HA := Lib.hid (fuzzM_auto (p := w.heap.size) hs hm (blk_cell hn 0))
  have HB := Lib.hid ((Below.refl w.heap.size w).alloc (Nat.le_refl _) (.cells #[.iface 79 (.agg #[.string s, .int .u8 (m : Nat)])] 83))
  have t1 : decide ((m : Int) < 0) = false := decide_eq_false (by omega)
  have t2 : decide (2 < (m : Int)) = false := decide_eq_false (by omega)
  have t3 : (m : Int) % 256 = (m : Int) := by omega
  clear hn
  go_enter Tryd.func14, Tryd.ntmps14
  go_wp2
  go_ret2
  exact ⟨_, rfl, Nat.le_refl _, HA.out, HB.out⟩
set_option maxRecDepth 100000 in
theorem fuzzy_err (w : World) (s : ByteArray) (n : Int) (hn : n < 0 ∨ 2 < n) (eR : Value) (hR : w.cell? ⟨1, 0, none⟩ = some eR) :
    Calls Tryd.prog 14 #[.string s, .int .i64 n] w fun e w' => e = .returned (.tuple #[.pointer none, eR]) ∧ Below w.heap.size w w' := by
  by_cases h : n < 0
  · clear hn
    go_enter Tryd.func14, Tryd.ntmps14
    go_wp2
    go_quiet (fail)
    go_wp2
    go_ret2
    exact ⟨rfl, below_drewN (Below.refl _ _) _⟩
  · have h2 : 2 < n := by omega
    clear hn
    go_enter Tryd.func14, Tryd.ntmps14
    go_wp2
    go_quiet (fail)
    go_wp2
    go_ret2
    exact ⟨rfl, below_drewN (Below.refl _ _) _⟩
end Go.Proofs.YtejmjjgbbojfbaaDoor
