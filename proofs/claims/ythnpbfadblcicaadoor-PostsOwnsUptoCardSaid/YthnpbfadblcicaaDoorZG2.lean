/- Merged: PackN, PostP, PostV. -/
import Derived.Test.YthnpbfadblcicaaDoorZLib
import Derived.Test.YthnpbfadblcicaaDoorZG1
/- Numbers as lists of bytes, the lowest first; lists of numbers of one width as one number. No program occurs here. -/
namespace Go.Proofs.YthnpbfadblcicaaDoor

/-- The number of a list of bytes, the lowest first. -/
def leN : List UInt8 → Nat
  | [] => 0
  | b :: r => b.toNat + 256 * leN r
/-- The k lowest bytes of a number. -/
def leB : Nat → Nat → List UInt8
  | 0, _ => []
  | k + 1, n => UInt8.ofNat (n % 256) :: leB k (n / 256)
theorem leB_length : ∀ k n : Nat, (leB k n).length = k
  | 0, _ => rfl
  | k + 1, n => by rw [leB, List.length_cons, leB_length k]
theorem leN_lt : ∀ l : List UInt8, leN l < 256 ^ l.length
  | [] => by simp [leN]
  | b :: r => by
    have h1 := leN_lt r
    have h2 : b.toNat < 256 := b.toNat_lt
    rw [leN, List.length_cons, Nat.pow_succ]; omega
theorem leN_leB : ∀ k n : Nat, leN (leB k n) = n % 256 ^ k
  | 0, n => by simp [leN, leB, Nat.mod_one]
  | k + 1, n => by
    rw [leB, leN, leN_leB k, Nat.pow_succ, Nat.mul_comm (256 ^ k) 256, Nat.mod_mul]
    simp
theorem leB_leN : ∀ l : List UInt8, leB l.length (leN l) = l
  | [] => rfl
  | b :: r => by
    have h2 : b.toNat < 256 := b.toNat_lt
    rw [List.length_cons, leB, leN, show (b.toNat + 256 * leN r) % 256 = b.toNat by omega, show (b.toNat + 256 * leN r) / 256 = leN r by omega, leB_leN r]
    simp
theorem leB_get : ∀ (k n j : Nat), j < k → (leB k n)[j]? = some (UInt8.ofNat (n / 256 ^ j % 256))
  | 0, _, _, h => by omega
  | k + 1, n, 0, _ => by simp [leB]
  | k + 1, n, j + 1, h => by
    rw [leB, List.getElem?_cons_succ, leB_get k (n / 256) j (by omega), Nat.div_div_eq_div_mul, Nat.pow_succ, Nat.mul_comm (256 ^ j) 256]
theorem leN_get : ∀ (l : List UInt8) (j : Nat) (h : j < l.length), leN l / 256 ^ j % 256 = l[j].toNat
  | b :: r, 0, _ => by
    have h2 : b.toNat < 256 := b.toNat_lt
    simp [leN]
  | b :: r, j + 1, h => by
    have h2 : b.toNat < 256 := b.toNat_lt
    have h3 := leN_get r j (by simpa using h)
    rw [leN, Nat.pow_succ, Nat.mul_comm (256 ^ j) 256, ← Nat.div_div_eq_div_mul, show (b.toNat + 256 * leN r) / 256 = leN r by omega, h3]
    rfl
theorem leN_append : ∀ a b : List UInt8, leN (a ++ b) = leN a + 256 ^ a.length * leN b
  | [], b => by simp [leN]
  | x :: a, b => by
    rw [List.cons_append, leN, leN, leN_append a b, List.length_cons, Nat.pow_succ]
    rw [Nat.mul_add, ← Nat.mul_assoc, Nat.mul_comm 256 (256 ^ a.length)]; omega
theorem leN_inj {a b : List UInt8} (h : a.length = b.length) (e : leN a = leN b) : a = b := by
  rw [← leB_leN a, ← leB_leN b, h, e]
theorem leB_succ (k n : Nat) : leB (k + 1) n = leB k n ++ [UInt8.ofNat (n / 256 ^ k % 256)] := by
  induction k generalizing n with
  | zero => simp [leB]
  | succ k ih => rw [leB, ih, leB, List.cons_append, Nat.div_div_eq_div_mul, Nat.pow_succ, Nat.mul_comm (256 ^ k) 256]
theorem leB_mod (k n : Nat) : leB k (n % 256 ^ k) = leB k n := by
  apply leN_inj (by rw [leB_length, leB_length])
  rw [leN_leB, leN_leB, Nat.mod_mod]
theorem leB_zero (k : Nat) : leB k 0 = List.replicate k 0 := by
  induction k with
  | zero => rfl
  | succ k ih => rw [leB, List.replicate_succ, ← ih]; simp

/-- Bits side by side. -/
theorem or_add (a b k : Nat) (h : a < 2 ^ k) : a ||| b * 2 ^ k = a + b * 2 ^ k := by
  rw [Nat.or_comm, Nat.mul_comm b, ← Nat.two_pow_add_eq_or_of_lt h, Nat.add_comm]
/-- Byte j of an or. -/
theorem or_byte (a b j : Nat) : (a ||| b) / 256 ^ j % 256 = (a / 256 ^ j % 256) ||| (b / 256 ^ j % 256) := by
  rw [show (256 : Nat) = 2 ^ 8 by rfl, ← Nat.pow_mul, ← Nat.shiftRight_eq_div_pow, ← Nat.shiftRight_eq_div_pow, ← Nat.shiftRight_eq_div_pow, Nat.shiftRight_or_distrib, Nat.or_mod_two_pow]

theorem leB_or (n A b j : Nat) (hb : b < 256) (hj : j < n) : leB n (A ||| b * 256 ^ j) = (leB n A).set j (UInt8.ofNat (A / 256 ^ j % 256 ||| b)) := by
  apply List.ext_getElem?
  intro i
  rcases Nat.lt_or_ge i n with hi | hi
  · rw [leB_get _ _ _ hi, List.getElem?_set]
    split
    · subst j
      rw [if_pos (by rw [leB_length]; exact hi), or_byte, Nat.mul_div_cancel _ (Nat.pow_pos (by decide)), Nat.mod_eq_of_lt hb]
    · next hne =>
      rw [leB_get _ _ _ hi, or_byte]
      have : b * 256 ^ j / 256 ^ i % 256 = 0 := by
        rcases Nat.lt_or_ge i j with h | h
        · obtain ⟨m, rfl⟩ : ∃ m, j = i + 1 + m := ⟨j - i - 1, by omega⟩
          have e1 : b * 256 ^ (i + 1 + m) = b * 256 ^ m * 256 * 256 ^ i := by
            rw [Nat.pow_add, Nat.pow_succ, Nat.mul_assoc (b * 256 ^ m), Nat.mul_comm 256 (256 ^ i), Nat.mul_assoc b, Nat.mul_comm (256 ^ m)]
          rw [e1]
          rw [Nat.mul_div_cancel _ (Nat.pow_pos (by decide)), Nat.mul_mod_left]
        · have h1 : 256 ^ (j + 1) ≤ 256 ^ i := Nat.pow_le_pow_right (by decide) (by omega)
          have h2 : b * 256 ^ j < 256 ^ (j + 1) := by rw [Nat.pow_succ, Nat.mul_comm]; exact Nat.mul_lt_mul_of_pos_left hb (Nat.pow_pos (by decide))
          rw [Nat.div_eq_of_lt (by omega)]
      rw [this, Nat.or_zero]
  · rw [List.getElem?_eq_none (by rw [leB_length]; exact hi), List.getElem?_eq_none (by rw [List.length_set, leB_length]; exact hi)]
/-- One byte of the number x laid at bit a: d bits are there. -/
theorem put_step (M x a d k j : Nat) (hM : M < 2 ^ a) (h : a + d = 8 * j + k) (hk : k < 8) :
    M + x % 2 ^ (d + (8 - k)) * 2 ^ a = (M + x % 2 ^ d * 2 ^ a) ||| (x / 2 ^ d * 2 ^ k % 256) * 256 ^ j := by
  have e1 : x / 2 ^ d * 2 ^ k % 256 = (x / 2 ^ d % 2 ^ (8 - k)) * 2 ^ k := by
    rw [show (256 : Nat) = 2 ^ (8 - k) * 2 ^ k by rw [← Nat.pow_add, Nat.sub_add_cancel (by omega)], Nat.mul_mod_mul_right]
  have h2 : M + x % 2 ^ d * 2 ^ a < 2 ^ (a + d) := by
    have h3 : x % 2 ^ d < 2 ^ d := Nat.mod_lt _ (Nat.two_pow_pos d)
    have h4 : (x % 2 ^ d + 1) * 2 ^ a ≤ 2 ^ d * 2 ^ a := Nat.mul_le_mul_right _ h3
    rw [Nat.add_mul, Nat.one_mul, ← Nat.pow_add, Nat.add_comm d a] at h4
    omega
  rw [e1, Nat.mul_assoc, show 2 ^ k * 256 ^ j = 2 ^ (a + d) by rw [show (256 : Nat) = 2 ^ 8 by rfl, ← Nat.pow_mul, ← Nat.pow_add, h, Nat.add_comm], or_add _ _ _ h2, Nat.pow_add 2 d, Nat.mod_mul, Nat.add_mul, Nat.pow_add 2 a d]
  rw [Nat.mul_comm (2 ^ d) (x / 2 ^ d % 2 ^ (8 - k)), Nat.mul_assoc, Nat.mul_comm (2 ^ d) (2 ^ a)]
  omega

/-- A list of numbers of w bits each, as one number. -/
def packN (w : Nat) : List Nat → Nat
  | [] => 0
  | x :: r => x + 2 ^ w * packN w r
theorem packN_lt (w : Nat) : ∀ l : List Nat, (∀ x ∈ l, x < 2 ^ w) → packN w l < 2 ^ (w * l.length)
  | [], _ => by simp [packN]
  | x :: r, h => by
    have h1 := packN_lt w r (fun y hy => h y (List.mem_cons_of_mem _ hy))
    have h2 := h x List.mem_cons_self
    rw [packN, List.length_cons, Nat.mul_add, Nat.mul_one, Nat.pow_add, Nat.mul_comm (2 ^ (w * r.length))]
    have h3 : 2 ^ w * (packN w r + 1) ≤ 2 ^ w * 2 ^ (w * r.length) := Nat.mul_le_mul_left _ h1
    rw [Nat.mul_add] at h3; omega
theorem packN_snoc (w : Nat) : ∀ (l : List Nat) (x : Nat), packN w (l ++ [x]) = packN w l + x * 2 ^ (w * l.length)
  | [], x => by simp [packN]
  | y :: r, x => by
    rw [List.cons_append, packN, packN_snoc w r x, packN, List.length_cons, Nat.mul_add w, Nat.mul_one, Nat.pow_add, Nat.mul_add]
    rw [Nat.mul_comm x (2 ^ (w * r.length) * 2 ^ w), Nat.mul_comm x (2 ^ (w * r.length)), Nat.mul_comm (2 ^ (w * r.length)) (2 ^ w), Nat.mul_assoc]; omega
theorem packN_get (w : Nat) : ∀ (l : List Nat) (i : Nat) (h : i < l.length), (∀ x ∈ l, x < 2 ^ w) → packN w l / 2 ^ (w * i) % 2 ^ w = l[i]
  | x :: r, 0, _, hl => by
    have h2 := hl x List.mem_cons_self
    simp only [packN, Nat.mul_zero, Nat.pow_zero, Nat.div_one, Nat.add_mul_mod_self_left, List.getElem_cons_zero]
    exact Nat.mod_eq_of_lt h2
  | x :: r, i + 1, h, hl => by
    have h2 := hl x List.mem_cons_self
    rw [packN, Nat.mul_add, Nat.mul_one, Nat.pow_add, Nat.mul_comm (2 ^ (w * i)), ← Nat.div_div_eq_div_mul, Nat.add_mul_div_left _ _ (Nat.two_pow_pos w), Nat.div_eq_of_lt h2, Nat.zero_add]
    rw [packN_get w r i (by simpa using h) (fun y hy => hl y (List.mem_cons_of_mem _ hy))]
    rfl
/-- Each number is the one that its digits make. -/
theorem packN_of (w : Nat) : ∀ (n M : Nat), M < 2 ^ (w * n) → packN w ((List.range n).map fun i => M / 2 ^ (w * i) % 2 ^ w) = M
  | 0, M, h => by simp at h; simp [packN, h]
  | n + 1, M, h => by
    have hn : M % 2 ^ (w * n) < 2 ^ (w * n) := Nat.mod_lt _ (Nat.two_pow_pos _)
    rw [List.range_succ, List.map_append, List.map_cons, List.map_nil, packN_snoc, List.length_map, List.length_range]
    have e : (List.range n).map (fun i => M / 2 ^ (w * i) % 2 ^ w) = (List.range n).map (fun i => M % 2 ^ (w * n) / 2 ^ (w * i) % 2 ^ w) := by
      refine List.map_congr_left fun i hi => ?_
      have hi := List.mem_range.1 hi
      have e1 : w * n = w * i + w * (n - i) := by rw [← Nat.mul_add]; congr 1; omega
      rw [e1, Nat.pow_add, Nat.mod_mul_right_div_self, Nat.mod_mod_of_dvd]
      exact Nat.pow_dvd_pow 2 (Nat.le_mul_of_pos_right w (by omega))
    rw [e, packN_of w n _ hn]
    have h3 : M / 2 ^ (w * n) < 2 ^ w := Nat.div_lt_of_lt_mul (by rw [← Nat.pow_add]; rw [show w * n + w = w * (n + 1) by rw [Nat.mul_add, Nat.mul_one]]; exact h)
    rw [Nat.mod_eq_of_lt h3, Nat.mul_comm (M / 2 ^ (w * n))]
    exact Nat.mod_add_div M (2 ^ (w * n))

theorem lt_bitLen : ∀ x : Nat, x < 2 ^ 64 → x < 2 ^ Lib.bitLen x := by
  intro x
  induction x using Nat.strongRecOn with
  | _ x ih =>
    intro h
    by_cases h0 : x = 0
    · subst h0; decide
    · rw [Lib.bitLen_half x h0 h, Nat.add_comm, Nat.pow_succ]
      have := ih (x / 2) (by omega) (by omega)
      omega
theorem bitLen_zero : Lib.bitLen 0 = 0 := by decide
theorem bitLen_eq_zero {x : Nat} (h : x < 2 ^ 64) : Lib.bitLen x = 0 ↔ x = 0 := by
  constructor
  · intro e; have := lt_bitLen x h; rw [e] at this; omega
  · rintro rfl; decide
theorem bitLen_or : ∀ a b : Nat, a < 2 ^ 64 → b < 2 ^ 64 → Lib.bitLen (a ||| b) = max (Lib.bitLen a) (Lib.bitLen b) := by
  intro a
  induction a using Nat.strongRecOn with
  | _ a ih =>
    intro b ha hb
    by_cases h0 : a = 0
    · subst h0; rw [Nat.zero_or, bitLen_zero]; omega
    · have h1 : (a ||| b) / 2 = a / 2 ||| b / 2 := Nat.or_div_two
      have h2 : a ||| b ≠ 0 := fun e => h0 (by rw [Nat.or_eq_zero_iff] at e; exact e.1)
      have h3 : a ||| b < 2 ^ 64 := Nat.or_lt_two_pow ha hb
      rw [Lib.bitLen_half _ h2 h3, h1, ih (a / 2) (by omega) (b / 2) (by omega) (by omega), Lib.bitLen_half a h0 ha]
      by_cases hb0 : b = 0
      · subst hb0; rw [show (0 : Nat) / 2 = 0 from rfl, bitLen_zero]; omega
      · rw [Lib.bitLen_half b hb0 hb]; omega

/-- The least width in which all fit. -/
def widL : List Nat → Nat
  | [] => 0
  | x :: r => max (Lib.bitLen x) (widL r)
theorem widL_append (a b : List Nat) : widL (a ++ b) = max (widL a) (widL b) := by
  induction a with
  | nil => simp [widL]
  | cons x a ih => rw [List.cons_append, widL, ih, widL]; omega
theorem widL_mem {l : List Nat} {x : Nat} (h : x ∈ l) : Lib.bitLen x ≤ widL l := by
  induction l with
  | nil => cases h
  | cons y l ih =>
    rw [widL]
    rcases List.mem_cons.1 h with rfl | h
    · omega
    · have := ih h; omega
theorem widL_le {l : List Nat} {k : Nat} (h : ∀ x ∈ l, Lib.bitLen x ≤ k) : widL l ≤ k := by
  induction l with
  | nil => simp [widL]
  | cons y l ih =>
    rw [widL]
    have h1 := h y List.mem_cons_self
    have h2 := ih (fun z hz => h z (List.mem_cons_of_mem _ hz)); omega
theorem snocInd {α : Type} {P : List α → Prop} (h0 : P []) (h1 : ∀ l x, P l → P (l ++ [x])) (l : List α) : P l := by
  have h : ∀ l : List α, P l.reverse := fun l => by
    induction l with
    | nil => exact h0
    | cons x l ih => rw [List.reverse_cons]; exact h1 _ _ ih
  rw [← List.reverse_reverse l]; exact h _
/-- The or of all. -/
def orL (l : List Nat) : Nat := l.foldl (· ||| ·) 0
theorem orL_snoc (l : List Nat) (x : Nat) : orL (l ++ [x]) = orL l ||| x := by simp [orL]
theorem orL_lt {k : Nat} (l : List Nat) (h : ∀ x ∈ l, x < 2 ^ k) : orL l < 2 ^ k := by
  induction l using snocInd with
  | h0 => exact Nat.two_pow_pos k
  | h1 l x ih =>
    rw [orL_snoc]
    exact Nat.or_lt_two_pow (ih (fun y hy => h y (by simp [hy]))) (h x (by simp))
theorem bitLen_orL (l : List Nat) (h : ∀ x ∈ l, x < 2 ^ 64) : Lib.bitLen (orL l) = widL l := by
  induction l using snocInd with
  | h0 => decide
  | h1 l x ih =>
    have h1 : ∀ y ∈ l, y < 2 ^ 64 := fun y hy => h y (by simp [hy])
    rw [orL_snoc, bitLen_or _ _ (orL_lt l h1) (h x (by simp)), ih h1, widL_append]
    simp [widL]
theorem widL_fits {l : List Nat} (h : ∀ x ∈ l, x < 2 ^ 64) : ∀ x ∈ l, x < 2 ^ widL l := fun x hx =>
  Nat.lt_of_lt_of_le (lt_bitLen x (h x hx)) (Nat.pow_le_pow_right (by decide) (widL_mem hx))
theorem widL_63 {l : List Nat} (h : ∀ x ∈ l, x < 2 ^ 63) : widL l ≤ 63 := widL_le fun x hx => Lib.bitLen_le x 63 (by decide) (h x hx)
theorem widL_zero {l : List Nat} (h : ∀ x ∈ l, x < 2 ^ 64) : widL l = 0 ↔ ∀ x ∈ l, x = 0 := by
  constructor
  · intro e x hx; have := widL_fits h x hx; rw [e] at this; omega
  · intro e; have := widL_le (l := l) (k := 0) (fun x hx => by rw [e x hx]; decide); omega
/-- The bytes behind the count of a packed list that is not empty. -/
def packB (l : List Nat) : List UInt8 := UInt8.ofNat (widL l) :: leB ((l.length * widL l + 7) / 8) (packN (widL l) l)
def pckB (l : List Nat) : List UInt8 := uvar l.length ++ if l = [] then [] else packB l
end Go.Proofs.YthnpbfadblcicaaDoor

/- posts, plain: postings as bytes. No program occurs here. -/
namespace Go.Proofs.YthnpbfadblcicaaDoor
set_option linter.unusedVariables false

structure PostV where
  doc : Int
  pos : List Int
/-- Does each rise over the one ahead of it? -/
def risesB : List Int → Bool
  | x :: y :: r => decide (x < y) && risesB (y :: r)
  | _ => true
theorem risesB_iff : ∀ l : List Int, risesB l = true ↔ rises l
  | [] => by simp [risesB, rises]
  | [x] => by simp [risesB, rises]
  | x :: y :: r => by
    rw [risesB, Bool.and_eq_true, decide_eq_true_iff, risesB_iff (y :: r)]
    constructor
    · rintro ⟨h1, h2⟩ i hi
      match i, hi with
      | 0, hi => exact h1
      | i + 1, hi => exact h2 i (by simpa using hi)
    · intro h
      exact ⟨h 0 (by simp), fun i hi => h (i + 1) (by simpa using hi)⟩
/-- The error's number of one posting behind a document. -/
def goodV (last : Int) (p : PostV) : Nat :=
  if p.doc < 0 ∨ 2147483647 ≤ p.doc then 8 else if p.doc ≤ last then 4 else if p.pos = [] then 8 else if anyNeg p.pos then 8 else if risesB p.pos then 0 else 4
def checkV : Int → List PostV → Nat
  | _, [] => 0
  | last, p :: r => if goodV last p = 0 then checkV p.doc r else goodV last p
theorem goodV_ok {last : Int} {p : PostV} (h : goodV last p = 0) : 0 ≤ p.doc ∧ p.doc < 2147483647 ∧ last < p.doc ∧ p.pos ≠ [] ∧ anyNeg p.pos = false ∧ rises p.pos := by
  unfold goodV at h
  split at h
  · cases h
  split at h
  · cases h
  split at h
  · cases h
  split at h
  · cases h
  split at h
  · rename_i h1 h2 h3 h4 h5
    exact ⟨by omega, by omega, by omega, h3, by simpa using h4, (risesB_iff _).1 h5⟩
  · cases h
theorem goodV_cases (last : Int) (p : PostV) : goodV last p = 0 ∨ goodV last p = 4 ∨ goodV last p = 8 := by
  unfold goodV
  repeat' (first | (split; try simp) | simp)
theorem checkV_cases : ∀ (last : Int) (l : List PostV), checkV last l = 0 ∨ checkV last l = 4 ∨ checkV last l = 8
  | _, [] => .inl rfl
  | last, p :: r => by
    unfold checkV
    split
    · exact checkV_cases p.doc r
    · exact goodV_cases last p
theorem checkV_drop {last : Int} {l : List PostV} {i : Nat} (h : i < l.length) : checkV last (l.drop i) = if goodV last l[i] = 0 then checkV l[i].doc (l.drop (i + 1)) else goodV last l[i] := by
  rw [List.drop_eq_getElem_cons h]; rfl
def totalV (l : List PostV) : Nat := (l.map (·.pos.length)).sum
theorem totalV_take (l : List PostV) (i : Nat) (h : i < l.length) : totalV (l.take (i + 1)) = totalV (l.take i) + l[i].pos.length := by
  unfold totalV
  rw [List.take_succ_eq_append_getElem h, List.map_append, List.sum_append]; simp
/-- The last document behind base. -/
def lastV : Int → List PostV → Int
  | base, [] => base
  | _, p :: r => lastV p.doc r
theorem lastV_snoc : ∀ (base : Int) (l : List PostV) (p : PostV), lastV base (l ++ [p]) = p.doc
  | base, [], p => rfl
  | base, q :: r, p => lastV_snoc q.doc r p
theorem lastV_append : ∀ (base : Int) (l m : List PostV), lastV base (l ++ m) = lastV (lastV base l) m
  | base, [], m => rfl
  | base, q :: r, m => lastV_append q.doc r m
/-- The gaps of the documents, the counts of the positions, the positions' steps. -/
def gapsD : Int → List PostV → List Nat
  | _, [] => []
  | base, p :: r => (p.doc - base - 1).toNat :: gapsD p.doc r
theorem gapsD_snoc : ∀ (base : Int) (l : List PostV) (p : PostV), gapsD base (l ++ [p]) = gapsD base l ++ [(p.doc - lastV base l - 1).toNat]
  | base, [], p => rfl
  | base, q :: r, p => by rw [List.cons_append, gapsD, gapsD_snoc q.doc r p]; rfl
theorem gapsD_length : ∀ (base : Int) (l : List PostV), (gapsD base l).length = l.length
  | _, [] => rfl
  | _, p :: r => by rw [gapsD, List.length_cons, gapsD_length p.doc r, List.length_cons]
def freqV (l : List PostV) : List Nat := l.map fun p => p.pos.length - 1
theorem freqV_length (l : List PostV) : (freqV l).length = l.length := by simp [freqV]
theorem freqV_snoc (l : List PostV) (p : PostV) : freqV (l ++ [p]) = freqV l ++ [p.pos.length - 1] := by simp [freqV]
def tailV (l : List PostV) : List UInt8 := l.flatMap fun p => gapsB (-1) p.pos
theorem tailV_snoc (l : List PostV) (p : PostV) : tailV (l ++ [p]) = tailV l ++ gapsB (-1) p.pos := by simp [tailV]
/-- The bytes of a block. -/
def blockB (base : Int) (l : List PostV) : List UInt8 := pckB (gapsD base l) ++ (pckB (freqV l) ++ tailV l)
/-- Sixteen by sixteen. -/
def chp (l : List PostV) : List (List PostV) := if h : l = [] then [] else l.take 16 :: chp (l.drop 16)
termination_by l.length
decreasing_by
  rw [List.length_drop]
  have : 0 < l.length := List.length_pos_iff.2 h
  omega
theorem chp_nil : chp [] = [] := by rw [chp]; simp
theorem chp_cons {l : List PostV} (h : l ≠ []) : chp l = l.take 16 :: chp (l.drop 16) := by rw [chp, dif_neg h]
/-- The blocks: the last document's gap, the bytes. -/
def blksV : Int → List (List PostV) → List (Nat × List UInt8)
  | _, [] => []
  | base, c :: r => ((lastV base c - base - 1).toNat, blockB base c) :: blksV (lastV base c) r
def headV (b : List (Nat × List UInt8)) : List UInt8 := b.flatMap fun x => uvar x.1 ++ uvar x.2.length
def bodyV (b : List (Nat × List UInt8)) : List UInt8 := b.flatMap (·.2)
def imageV (l : List PostV) : List UInt8 := (uvar l.length ++ uvar (totalV l)) ++ (headV (blksV (-1) (chp l)) ++ bodyV (blksV (-1) (chp l)))
/-- A list that is good behind a document. -/
def okV (last : Int) (l : List PostV) : Prop := checkV last l = 0
theorem okV_cons {last : Int} {p : PostV} {r : List PostV} (h : okV last (p :: r)) : goodV last p = 0 ∧ okV p.doc r := by
  unfold okV checkV at h
  by_cases hg : goodV last p = 0
  · rw [if_pos hg] at h; exact ⟨hg, h⟩
  · rw [if_neg hg] at h; exact absurd h hg
theorem okV_append : ∀ {last : Int} {a b : List PostV}, okV last (a ++ b) → okV last a ∧ okV (lastV last a) b
  | last, [], b, h => ⟨rfl, h⟩
  | last, p :: r, b, h => by
    obtain ⟨h1, h2⟩ := okV_cons (show okV last (p :: (r ++ b)) from h)
    obtain ⟨h3, h4⟩ := okV_append h2
    refine ⟨?_, h4⟩
    unfold okV checkV
    rw [if_pos h1]; exact h3
theorem okV_get : ∀ {last : Int} {l : List PostV}, okV last l → ∀ (i : Nat) (h : i < l.length), goodV (lastV last (l.take i)) l[i] = 0
  | last, p :: r, hk, 0, h => (okV_cons hk).1
  | last, p :: r, hk, i + 1, h => okV_get (okV_cons hk).2 i (by simpa using h)
theorem okV_last : ∀ {last : Int} {l : List PostV}, okV last l → last ≤ lastV last l ∧ (l ≠ [] → last < lastV last l ∧ lastV last l < 2147483647 ∧ 0 ≤ lastV last l)
  | last, [], _ => ⟨Int.le_refl _, fun h => absurd rfl h⟩
  | last, p :: r, h => by
    obtain ⟨h1, h2⟩ := okV_cons h
    obtain ⟨g1, g2, g3, _⟩ := goodV_ok h1
    obtain ⟨h3, h4⟩ := okV_last h2
    refine ⟨?_, fun _ => ?_⟩
    · show last ≤ lastV p.doc r; omega
    · show last < lastV p.doc r ∧ lastV p.doc r < 2147483647 ∧ 0 ≤ lastV p.doc r
      cases r with
      | nil => exact ⟨g3, g2, g1⟩
      | cons q s => have := h4 (by simp); omega
theorem okV_gaps : ∀ {last : Int} {l : List PostV}, okV last l → -1 ≤ last → ∀ x ∈ gapsD last l, x < 2147483648
  | last, [], _, _, x, hx => by cases hx
  | last, p :: r, h, hl, x, hx => by
    obtain ⟨h1, h2⟩ := okV_cons h
    obtain ⟨g1, g2, g3, _⟩ := goodV_ok h1
    rcases List.mem_cons.1 hx with rfl | hx
    · omega
    · exact okV_gaps h2 (by omega) x hx
end Go.Proofs.YthnpbfadblcicaaDoor

/- posts: postings as cells. -/
namespace Go.Proofs.YthnpbfadblcicaaDoor
set_option linter.unusedVariables false
open Go.ChangeShapes Go.WideShapes Go.ChangeAt Go.RowKit

/-- A list of postings that reads: each has its document and a slice of its positions. -/
def RdPost (w : World) (a : Option Addr) (n : Nat) (ps : List PostV) : Prop :=
  n = ps.length ∧ (0 < ps.length → ∃ b o, a = some ⟨b, o, none⟩ ∧ ∀ (i : Nat) (h : i < ps.length), w.cell? ⟨b, o + i * 2, none⟩ = some (.int .i64 ps[i].doc) ∧
    ∃ A C, w.cell? ⟨b, o + i * 2 + 1, none⟩ = some (.slice A ps[i].pos.length C) ∧ Rd w (.slice A ps[i].pos.length C) (intL ps[i].pos))
theorem RdPost.drewN {w : World} {a : Option Addr} {n : Nat} {ps : List PostV} (h : RdPost w a n ps) (d : Nat) : RdPost (w.drewN d) a n ps := h
theorem RdPost.below {w w' : World} {a : Option Addr} {n B : Nat} {ps : List PostV} (h : RdPost w a n ps) (hb : Below B w w') (hB : w.heap.size ≤ B) : RdPost w' a n ps := by
  refine ⟨h.1, fun h0 => ?_⟩
  obtain ⟨b, o, e, hg⟩ := h.2 h0
  refine ⟨b, o, e, fun i hi => ?_⟩
  obtain ⟨h1, A, C, h2, h3⟩ := hg i hi
  exact ⟨by rw [hb.cell (by have := World.block_lt_of_cell? w _ h1; exact Nat.lt_of_lt_of_le this hB)]; exact h1, A, C, by rw [hb.cell (by have := World.block_lt_of_cell? w _ h2; exact Nat.lt_of_lt_of_le this hB)]; exact h2, h3.below hb hB⟩
/-- A part of a list of postings that reads. -/
theorem rdPost_part {w : World} {b o n : Nat} {ps : List PostV} (h : RdPost w (some ⟨b, o, none⟩) n ps) (lo hi : Nat) (h1 : lo < hi) (h2 : hi ≤ ps.length) : RdPost w (some ⟨b, o + lo * 2, none⟩) (hi - lo) ((ps.take hi).drop lo) := by
  have hl : ((ps.take hi).drop lo).length = hi - lo := by rw [List.length_drop, List.length_take, Nat.min_eq_left h2]
  refine ⟨hl.symm, fun h0 => ⟨b, o + lo * 2, rfl, fun i hi' => ?_⟩⟩
  obtain ⟨b', o', e, hg⟩ := h.2 (by omega)
  injection e with e
  injection e with e1 e2 _
  subst e1 e2
  obtain ⟨g1, A, C, g2, g3⟩ := hg (lo + i) (by omega)
  have he : ((ps.take hi).drop lo)[i] = ps[lo + i]'(by omega) := by rw [List.getElem_drop, List.getElem_take]
  rw [he, show o + lo * 2 + i * 2 = o + (lo + i) * 2 by omega]
  exact ⟨g1, A, C, g2, g3⟩
/-- What the numbers of postings may be. -/
def FitP (ps : List PostV) : Prop := ∀ p ∈ ps, (-9223372036854775808 ≤ p.doc ∧ p.doc ≤ 9223372036854775807) ∧ FitL p.pos ∧ p.pos.length ≤ 31000000
end Go.Proofs.YthnpbfadblcicaaDoor
