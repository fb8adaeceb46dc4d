/- Merged: PackN, RdN, RdP. -/
import Derived.Test.YthnpbfadblcicaaDoorZLib
/- Numbers as lists of bytes, the lowest first; lists of numbers of one width as one number. No program occurs here. -/
namespace Go.Proofs.YthnpbfadblcicaaDoor

/-- The number of a list of bytes, the lowest first. -/
def leN : List UInt8 → Nat
  | [] => 0
  | b :: r => b.toNat + 256 * leN r
/-- The k lowest bytes of a number. -/
def leB : Nat → Nat → List UInt8
  | 0, _ => []
  | k + 1, n => UInt8.ofNat (n % 256) :: leB k (n / 256)
theorem leB_length : ∀ k n : Nat, (leB k n).length = k
  | 0, _ => rfl
  | k + 1, n => by rw [leB, List.length_cons, leB_length k]
theorem leN_lt : ∀ l : List UInt8, leN l < 256 ^ l.length
  | [] => by simp [leN]
  | b :: r => by
    have h1 := leN_lt r
    have h2 : b.toNat < 256 := b.toNat_lt
    rw [leN, List.length_cons, Nat.pow_succ]; omega
theorem leN_leB : ∀ k n : Nat, leN (leB k n) = n % 256 ^ k
  | 0, n => by simp [leN, leB, Nat.mod_one]
  | k + 1, n => by
    rw [leB, leN, leN_leB k, Nat.pow_succ, Nat.mul_comm (256 ^ k) 256, Nat.mod_mul]
    simp
theorem leB_leN : ∀ l : List UInt8, leB l.length (leN l) = l
  | [] => rfl
  | b :: r => by
    have h2 : b.toNat < 256 := b.toNat_lt
    rw [List.length_cons, leB, leN, show (b.toNat + 256 * leN r) % 256 = b.toNat by omega, show (b.toNat + 256 * leN r) / 256 = leN r by omega, leB_leN r]
    simp
theorem leB_get : ∀ (k n j : Nat), j < k → (leB k n)[j]? = some (UInt8.ofNat (n / 256 ^ j % 256))
  | 0, _, _, h => by omega
  | k + 1, n, 0, _ => by simp [leB]
  | k + 1, n, j + 1, h => by
    rw [leB, List.getElem?_cons_succ, leB_get k (n / 256) j (by omega), Nat.div_div_eq_div_mul, Nat.pow_succ, Nat.mul_comm (256 ^ j) 256]
theorem leN_get : ∀ (l : List UInt8) (j : Nat) (h : j < l.length), leN l / 256 ^ j % 256 = l[j].toNat
  | b :: r, 0, _ => by
    have h2 : b.toNat < 256 := b.toNat_lt
    simp [leN]
  | b :: r, j + 1, h => by
    have h2 : b.toNat < 256 := b.toNat_lt
    have h3 := leN_get r j (by simpa using h)
    rw [leN, Nat.pow_succ, Nat.mul_comm (256 ^ j) 256, ← Nat.div_div_eq_div_mul, show (b.toNat + 256 * leN r) / 256 = leN r by omega, h3]
    rfl
theorem leN_append : ∀ a b : List UInt8, leN (a ++ b) = leN a + 256 ^ a.length * leN b
  | [], b => by simp [leN]
  | x :: a, b => by
    rw [List.cons_append, leN, leN, leN_append a b, List.length_cons, Nat.pow_succ]
    rw [Nat.mul_add, ← Nat.mul_assoc, Nat.mul_comm 256 (256 ^ a.length)]; omega
theorem leN_inj {a b : List UInt8} (h : a.length = b.length) (e : leN a = leN b) : a = b := by
  rw [← leB_leN a, ← leB_leN b, h, e]
theorem leB_succ (k n : Nat) : leB (k + 1) n = leB k n ++ [UInt8.ofNat (n / 256 ^ k % 256)] := by
  induction k generalizing n with
  | zero => simp [leB]
  | succ k ih => rw [leB, ih, leB, List.cons_append, Nat.div_div_eq_div_mul, Nat.pow_succ, Nat.mul_comm (256 ^ k) 256]
theorem leB_mod (k n : Nat) : leB k (n % 256 ^ k) = leB k n := by
  apply leN_inj (by rw [leB_length, leB_length])
  rw [leN_leB, leN_leB, Nat.mod_mod]
theorem leB_zero (k : Nat) : leB k 0 = List.replicate k 0 := by
  induction k with
  | zero => rfl
  | succ k ih => rw [leB, List.replicate_succ, ← ih]; simp

/-- Bits side by side. -/
theorem or_add (a b k : Nat) (h : a < 2 ^ k) : a ||| b * 2 ^ k = a + b * 2 ^ k := by
  rw [Nat.or_comm, Nat.mul_comm b, ← Nat.two_pow_add_eq_or_of_lt h, Nat.add_comm]
/-- Byte j of an or. -/
theorem or_byte (a b j : Nat) : (a ||| b) / 256 ^ j % 256 = (a / 256 ^ j % 256) ||| (b / 256 ^ j % 256) := by
  rw [show (256 : Nat) = 2 ^ 8 by rfl, ← Nat.pow_mul, ← Nat.shiftRight_eq_div_pow, ← Nat.shiftRight_eq_div_pow, ← Nat.shiftRight_eq_div_pow, Nat.shiftRight_or_distrib, Nat.or_mod_two_pow]

theorem leB_or (n A b j : Nat) (hb : b < 256) (hj : j < n) : leB n (A ||| b * 256 ^ j) = (leB n A).set j (UInt8.ofNat (A / 256 ^ j % 256 ||| b)) := by
  apply List.ext_getElem?
  intro i
  rcases Nat.lt_or_ge i n with hi | hi
  · rw [leB_get _ _ _ hi, List.getElem?_set]
    split
    · subst j
      rw [if_pos (by rw [leB_length]; exact hi), or_byte, Nat.mul_div_cancel _ (Nat.pow_pos (by decide)), Nat.mod_eq_of_lt hb]
    · next hne =>
      rw [leB_get _ _ _ hi, or_byte]
      have : b * 256 ^ j / 256 ^ i % 256 = 0 := by
        rcases Nat.lt_or_ge i j with h | h
        · obtain ⟨m, rfl⟩ : ∃ m, j = i + 1 + m := ⟨j - i - 1, by omega⟩
          have e1 : b * 256 ^ (i + 1 + m) = b * 256 ^ m * 256 * 256 ^ i := by
            rw [Nat.pow_add, Nat.pow_succ, Nat.mul_assoc (b * 256 ^ m), Nat.mul_comm 256 (256 ^ i), Nat.mul_assoc b, Nat.mul_comm (256 ^ m)]
          rw [e1]
          rw [Nat.mul_div_cancel _ (Nat.pow_pos (by decide)), Nat.mul_mod_left]
        · have h1 : 256 ^ (j + 1) ≤ 256 ^ i := Nat.pow_le_pow_right (by decide) (by omega)
          have h2 : b * 256 ^ j < 256 ^ (j + 1) := by rw [Nat.pow_succ, Nat.mul_comm]; exact Nat.mul_lt_mul_of_pos_left hb (Nat.pow_pos (by decide))
          rw [Nat.div_eq_of_lt (by omega)]
      rw [this, Nat.or_zero]
  · rw [List.getElem?_eq_none (by rw [leB_length]; exact hi), List.getElem?_eq_none (by rw [List.length_set, leB_length]; exact hi)]
/-- One byte of the number x laid at bit a: d bits are there. -/
theorem put_step (M x a d k j : Nat) (hM : M < 2 ^ a) (h : a + d = 8 * j + k) (hk : k < 8) :
    M + x % 2 ^ (d + (8 - k)) * 2 ^ a = (M + x % 2 ^ d * 2 ^ a) ||| (x / 2 ^ d * 2 ^ k % 256) * 256 ^ j := by
  have e1 : x / 2 ^ d * 2 ^ k % 256 = (x / 2 ^ d % 2 ^ (8 - k)) * 2 ^ k := by
    rw [show (256 : Nat) = 2 ^ (8 - k) * 2 ^ k by rw [← Nat.pow_add, Nat.sub_add_cancel (by omega)], Nat.mul_mod_mul_right]
  have h2 : M + x % 2 ^ d * 2 ^ a < 2 ^ (a + d) := by
    have h3 : x % 2 ^ d < 2 ^ d := Nat.mod_lt _ (Nat.two_pow_pos d)
    have h4 : (x % 2 ^ d + 1) * 2 ^ a ≤ 2 ^ d * 2 ^ a := Nat.mul_le_mul_right _ h3
    rw [Nat.add_mul, Nat.one_mul, ← Nat.pow_add, Nat.add_comm d a] at h4
    omega
  rw [e1, Nat.mul_assoc, show 2 ^ k * 256 ^ j = 2 ^ (a + d) by rw [show (256 : Nat) = 2 ^ 8 by rfl, ← Nat.pow_mul, ← Nat.pow_add, h, Nat.add_comm], or_add _ _ _ h2, Nat.pow_add 2 d, Nat.mod_mul, Nat.add_mul, Nat.pow_add 2 a d]
  rw [Nat.mul_comm (2 ^ d) (x / 2 ^ d % 2 ^ (8 - k)), Nat.mul_assoc, Nat.mul_comm (2 ^ d) (2 ^ a)]
  omega

/-- A list of numbers of w bits each, as one number. -/
def packN (w : Nat) : List Nat → Nat
  | [] => 0
  | x :: r => x + 2 ^ w * packN w r
theorem packN_lt (w : Nat) : ∀ l : List Nat, (∀ x ∈ l, x < 2 ^ w) → packN w l < 2 ^ (w * l.length)
  | [], _ => by simp [packN]
  | x :: r, h => by
    have h1 := packN_lt w r (fun y hy => h y (List.mem_cons_of_mem _ hy))
    have h2 := h x List.mem_cons_self
    rw [packN, List.length_cons, Nat.mul_add, Nat.mul_one, Nat.pow_add, Nat.mul_comm (2 ^ (w * r.length))]
    have h3 : 2 ^ w * (packN w r + 1) ≤ 2 ^ w * 2 ^ (w * r.length) := Nat.mul_le_mul_left _ h1
    rw [Nat.mul_add] at h3; omega
theorem packN_snoc (w : Nat) : ∀ (l : List Nat) (x : Nat), packN w (l ++ [x]) = packN w l + x * 2 ^ (w * l.length)
  | [], x => by simp [packN]
  | y :: r, x => by
    rw [List.cons_append, packN, packN_snoc w r x, packN, List.length_cons, Nat.mul_add w, Nat.mul_one, Nat.pow_add, Nat.mul_add]
    rw [Nat.mul_comm x (2 ^ (w * r.length) * 2 ^ w), Nat.mul_comm x (2 ^ (w * r.length)), Nat.mul_comm (2 ^ (w * r.length)) (2 ^ w), Nat.mul_assoc]; omega
theorem packN_get (w : Nat) : ∀ (l : List Nat) (i : Nat) (h : i < l.length), (∀ x ∈ l, x < 2 ^ w) → packN w l / 2 ^ (w * i) % 2 ^ w = l[i]
  | x :: r, 0, _, hl => by
    have h2 := hl x List.mem_cons_self
    simp only [packN, Nat.mul_zero, Nat.pow_zero, Nat.div_one, Nat.add_mul_mod_self_left, List.getElem_cons_zero]
    exact Nat.mod_eq_of_lt h2
  | x :: r, i + 1, h, hl => by
    have h2 := hl x List.mem_cons_self
    rw [packN, Nat.mul_add, Nat.mul_one, Nat.pow_add, Nat.mul_comm (2 ^ (w * i)), ← Nat.div_div_eq_div_mul, Nat.add_mul_div_left _ _ (Nat.two_pow_pos w), Nat.div_eq_of_lt h2, Nat.zero_add]
    rw [packN_get w r i (by simpa using h) (fun y hy => hl y (List.mem_cons_of_mem _ hy))]
    rfl
/-- Each number is the one that its digits make. -/
theorem packN_of (w : Nat) : ∀ (n M : Nat), M < 2 ^ (w * n) → packN w ((List.range n).map fun i => M / 2 ^ (w * i) % 2 ^ w) = M
  | 0, M, h => by simp at h; simp [packN, h]
  | n + 1, M, h => by
    have hn : M % 2 ^ (w * n) < 2 ^ (w * n) := Nat.mod_lt _ (Nat.two_pow_pos _)
    rw [List.range_succ, List.map_append, List.map_cons, List.map_nil, packN_snoc, List.length_map, List.length_range]
    have e : (List.range n).map (fun i => M / 2 ^ (w * i) % 2 ^ w) = (List.range n).map (fun i => M % 2 ^ (w * n) / 2 ^ (w * i) % 2 ^ w) := by
      refine List.map_congr_left fun i hi => ?_
      have hi := List.mem_range.1 hi
      have e1 : w * n = w * i + w * (n - i) := by rw [← Nat.mul_add]; congr 1; omega
      rw [e1, Nat.pow_add, Nat.mod_mul_right_div_self, Nat.mod_mod_of_dvd]
      exact Nat.pow_dvd_pow 2 (Nat.le_mul_of_pos_right w (by omega))
    rw [e, packN_of w n _ hn]
    have h3 : M / 2 ^ (w * n) < 2 ^ w := Nat.div_lt_of_lt_mul (by rw [← Nat.pow_add]; rw [show w * n + w = w * (n + 1) by rw [Nat.mul_add, Nat.mul_one]]; exact h)
    rw [Nat.mod_eq_of_lt h3, Nat.mul_comm (M / 2 ^ (w * n))]
    exact Nat.mod_add_div M (2 ^ (w * n))

theorem lt_bitLen : ∀ x : Nat, x < 2 ^ 64 → x < 2 ^ Lib.bitLen x := by
  intro x
  induction x using Nat.strongRecOn with
  | _ x ih =>
    intro h
    by_cases h0 : x = 0
    · subst h0; decide
    · rw [Lib.bitLen_half x h0 h, Nat.add_comm, Nat.pow_succ]
      have := ih (x / 2) (by omega) (by omega)
      omega
theorem bitLen_zero : Lib.bitLen 0 = 0 := by decide
theorem bitLen_eq_zero {x : Nat} (h : x < 2 ^ 64) : Lib.bitLen x = 0 ↔ x = 0 := by
  constructor
  · intro e; have := lt_bitLen x h; rw [e] at this; omega
  · rintro rfl; decide
theorem bitLen_or : ∀ a b : Nat, a < 2 ^ 64 → b < 2 ^ 64 → Lib.bitLen (a ||| b) = max (Lib.bitLen a) (Lib.bitLen b) := by
  intro a
  induction a using Nat.strongRecOn with
  | _ a ih =>
    intro b ha hb
    by_cases h0 : a = 0
    · subst h0; rw [Nat.zero_or, bitLen_zero]; omega
    · have h1 : (a ||| b) / 2 = a / 2 ||| b / 2 := Nat.or_div_two
      have h2 : a ||| b ≠ 0 := fun e => h0 (by rw [Nat.or_eq_zero_iff] at e; exact e.1)
      have h3 : a ||| b < 2 ^ 64 := Nat.or_lt_two_pow ha hb
      rw [Lib.bitLen_half _ h2 h3, h1, ih (a / 2) (by omega) (b / 2) (by omega) (by omega), Lib.bitLen_half a h0 ha]
      by_cases hb0 : b = 0
      · subst hb0; rw [show (0 : Nat) / 2 = 0 from rfl, bitLen_zero]; omega
      · rw [Lib.bitLen_half b hb0 hb]; omega

/-- The least width in which all fit. -/
def widL : List Nat → Nat
  | [] => 0
  | x :: r => max (Lib.bitLen x) (widL r)
theorem widL_append (a b : List Nat) : widL (a ++ b) = max (widL a) (widL b) := by
  induction a with
  | nil => simp [widL]
  | cons x a ih => rw [List.cons_append, widL, ih, widL]; omega
theorem widL_mem {l : List Nat} {x : Nat} (h : x ∈ l) : Lib.bitLen x ≤ widL l := by
  induction l with
  | nil => cases h
  | cons y l ih =>
    rw [widL]
    rcases List.mem_cons.1 h with rfl | h
    · omega
    · have := ih h; omega
theorem widL_le {l : List Nat} {k : Nat} (h : ∀ x ∈ l, Lib.bitLen x ≤ k) : widL l ≤ k := by
  induction l with
  | nil => simp [widL]
  | cons y l ih =>
    rw [widL]
    have h1 := h y List.mem_cons_self
    have h2 := ih (fun z hz => h z (List.mem_cons_of_mem _ hz)); omega
theorem snocInd {α : Type} {P : List α → Prop} (h0 : P []) (h1 : ∀ l x, P l → P (l ++ [x])) (l : List α) : P l := by
  have h : ∀ l : List α, P l.reverse := fun l => by
    induction l with
    | nil => exact h0
    | cons x l ih => rw [List.reverse_cons]; exact h1 _ _ ih
  rw [← List.reverse_reverse l]; exact h _
/-- The or of all. -/
def orL (l : List Nat) : Nat := l.foldl (· ||| ·) 0
theorem orL_snoc (l : List Nat) (x : Nat) : orL (l ++ [x]) = orL l ||| x := by simp [orL]
theorem orL_lt {k : Nat} (l : List Nat) (h : ∀ x ∈ l, x < 2 ^ k) : orL l < 2 ^ k := by
  induction l using snocInd with
  | h0 => exact Nat.two_pow_pos k
  | h1 l x ih =>
    rw [orL_snoc]
    exact Nat.or_lt_two_pow (ih (fun y hy => h y (by simp [hy]))) (h x (by simp))
theorem bitLen_orL (l : List Nat) (h : ∀ x ∈ l, x < 2 ^ 64) : Lib.bitLen (orL l) = widL l := by
  induction l using snocInd with
  | h0 => decide
  | h1 l x ih =>
    have h1 : ∀ y ∈ l, y < 2 ^ 64 := fun y hy => h y (by simp [hy])
    rw [orL_snoc, bitLen_or _ _ (orL_lt l h1) (h x (by simp)), ih h1, widL_append]
    simp [widL]
theorem widL_fits {l : List Nat} (h : ∀ x ∈ l, x < 2 ^ 64) : ∀ x ∈ l, x < 2 ^ widL l := fun x hx =>
  Nat.lt_of_lt_of_le (lt_bitLen x (h x hx)) (Nat.pow_le_pow_right (by decide) (widL_mem hx))
theorem widL_63 {l : List Nat} (h : ∀ x ∈ l, x < 2 ^ 63) : widL l ≤ 63 := widL_le fun x hx => Lib.bitLen_le x 63 (by decide) (h x hx)
theorem widL_zero {l : List Nat} (h : ∀ x ∈ l, x < 2 ^ 64) : widL l = 0 ↔ ∀ x ∈ l, x = 0 := by
  constructor
  · intro e x hx; have := widL_fits h x hx; rw [e] at this; omega
  · intro e; have := widL_le (l := l) (k := 0) (fun x hx => by rw [e x hx]; decide); omega
/-- The bytes behind the count of a packed list that is not empty. -/
def packB (l : List Nat) : List UInt8 := UInt8.ofNat (widL l) :: leB ((l.length * widL l + 7) / 8) (packN (widL l) l)
def pckB (l : List Nat) : List UInt8 := uvar l.length ++ if l = [] then [] else packB l
end Go.Proofs.YthnpbfadblcicaaDoor

/- Uvarints read from the front of a list of bytes. No program occurs here. -/
namespace Go.Proofs.YthnpbfadblcicaaDoor

/-- The uvarint at the front: its value and how many bytes it has, or the error's number (1: too short, 2: no uvarint); i bytes are read, of value v. -/
def rdU : Nat → Nat → List UInt8 → Except Nat (Nat × Nat)
  | _, _, [] => .error 1
  | i, v, x :: r =>
    if i = 9 ∧ 1 < x.toNat then .error 2
    else if 128 ≤ x.toNat then rdU (i + 1) (v + x.toNat % 128 * 2 ^ (7 * i)) r
    else if x.toNat = 0 ∧ 0 < i then .error 2
    else .ok (v + x.toNat % 128 * 2 ^ (7 * i), i + 1)
def getU (l : List UInt8) : Except Nat (Nat × Nat) := rdU 0 0 l

theorem ofNat_toNat (n : Nat) (h : n < 256) : (UInt8.ofNat n).toNat = n := by simp; omega
theorem rdU_uvar (t : List UInt8) : ∀ (n i v : Nat), i ≤ 9 → (i = 0 ∨ 0 < n) → n * 2 ^ (7 * i) < 2 ^ 64 → rdU i v (uvar n ++ t) = .ok (v + n * 2 ^ (7 * i), i + (uvar n).length) := by
  intro n
  induction n using Nat.strongRecOn with
  | _ n ih =>
    intro i v hi h0 hn
    have h9 : i = 9 → n < 2 := fun e => by subst e; omega
    by_cases h : n < 128
    · rw [uvar_small h, List.cons_append, List.nil_append, rdU, ofNat_toNat n (by omega), if_neg (by omega), if_neg (by omega), if_neg (by omega), Nat.mod_eq_of_lt h]; rfl
    · have hi8 : i ≤ 8 := by
        rcases Nat.lt_or_ge i 9 with h2 | h2
        · omega
        · have := h9 (by omega); omega
      have e2 : 2 ^ (7 * (i + 1)) = 2 ^ (7 * i) * 128 := by rw [show 7 * (i + 1) = 7 * i + 7 by omega, Nat.pow_add]
      have e3 : n / 128 * 2 ^ (7 * (i + 1)) + n % 128 * 2 ^ (7 * i) = n * 2 ^ (7 * i) := by
        rw [e2, Nat.mul_comm (2 ^ (7 * i)) 128, ← Nat.mul_assoc, ← Nat.add_mul]
        congr 1; omega
      rw [uvar_big h, List.cons_append, rdU, ofNat_toNat _ (by omega), if_neg (by omega), if_pos (by omega), ih (n / 128) (by omega) (i + 1) _ (by omega) (by omega) (by omega), show (128 + n % 128) % 128 = n % 128 by omega, List.length_cons]
      congr 2
      · omega
      · omega
theorem getU_uvar (n : Nat) (h : n < 2 ^ 64) (t : List UInt8) : getU (uvar n ++ t) = .ok (n, (uvar n).length) := by
  have := rdU_uvar t n 0 0 (by omega) (.inl rfl) (by simpa using h)
  unfold getU; rw [this]; simp
theorem uvar_ne (n : Nat) : uvar n ≠ [] := by rw [uvar]; split <;> simp
theorem rdU_cut : ∀ (n i v k : Nat), n * 2 ^ (7 * i) < 2 ^ 64 → k < (uvar n).length → rdU i v ((uvar n).take k) = .error 1 := by
  intro n
  induction n using Nat.strongRecOn with
  | _ n ih =>
    intro i v k hn hk
    cases k with
    | zero => rfl
    | succ k =>
      have h : ¬ n < 128 := fun h => by rw [uvar_small h] at hk; simp at hk
      have hi8 : i ≤ 8 := by
        rcases Nat.lt_or_ge i 9 with h2 | h2
        · omega
        · have h3 : 2 ^ 63 ≤ 2 ^ (7 * i) := Nat.pow_le_pow_right (by decide) (by omega)
          have h4 : 2 * 2 ^ 63 ≤ n * 2 ^ (7 * i) := Nat.mul_le_mul (by omega) h3
          omega
      have e2 : 2 ^ (7 * (i + 1)) = 2 ^ (7 * i) * 128 := by rw [show 7 * (i + 1) = 7 * i + 7 by omega, Nat.pow_add]
      have e3 : n / 128 * 2 ^ (7 * (i + 1)) ≤ n * 2 ^ (7 * i) := by
        rw [e2, Nat.mul_comm (2 ^ (7 * i)) 128, ← Nat.mul_assoc]
        exact Nat.mul_le_mul_right _ (by omega)
      rw [uvar_big h] at hk ⊢
      rw [List.take_succ_cons, rdU, ofNat_toNat _ (by omega), if_neg (by omega), if_pos (by omega)]
      exact ih (n / 128) (by omega) (i + 1) _ k (by omega) (by simpa using hk)
theorem getU_cut (n k : Nat) (h : n < 2 ^ 64) (hk : k < (uvar n).length) : getU ((uvar n).take k) = .error 1 := rdU_cut n 0 0 k (by simpa using h) hk
/-- What is read was written so. -/
theorem rdU_ok : ∀ (l : List UInt8) (i v u k : Nat), i ≤ 9 → rdU i v l = .ok (u, k) → ∃ n, u = v + n * 2 ^ (7 * i) ∧ n * 2 ^ (7 * i) < 2 ^ 64 ∧ (i = 0 ∨ 0 < n) ∧ k = i + (uvar n).length ∧ ∃ t, l = uvar n ++ t
  | [], _, _, _, _, _, h => by simp [rdU] at h
  | x :: r, i, v, u, k, hi, h => by
    have hx := x.toNat_lt
    rw [rdU] at h
    split at h
    · cases h
    · next h9 =>
      split at h
      · next h128 =>
        have hi8 : i ≤ 8 := by
          rcases Nat.lt_or_ge i 9 with h2 | h2
          · omega
          · exfalso; apply h9; omega
        obtain ⟨m, e1, e2, e3, e4, t, e5⟩ := rdU_ok r (i + 1) _ u k (by omega) h
        have p2 : 2 ^ (7 * (i + 1)) = 2 ^ (7 * i) * 128 := by rw [show 7 * (i + 1) = 7 * i + 7 by omega, Nat.pow_add]
        have hm : 0 < m := by omega
        have hb : ¬ (x.toNat % 128 + 128 * m < 128) := by omega
        have hdiv : (x.toNat % 128 + 128 * m) / 128 = m := by omega
        have hmod : (x.toNat % 128 + 128 * m) % 128 = x.toNat % 128 := by omega
        have e6 : (x.toNat % 128 + 128 * m) * 2 ^ (7 * i) = x.toNat % 128 * 2 ^ (7 * i) + m * 2 ^ (7 * (i + 1)) := by
          rw [p2, Nat.add_mul, Nat.mul_comm (2 ^ (7 * i)) 128, ← Nat.mul_assoc, Nat.mul_comm 128 m]
        have e7 : 2 ^ (7 * (i + 1)) ≤ 2 ^ 63 := Nat.pow_le_pow_right (by decide) (by omega)
        have e8 : (x.toNat % 128 + 128 * m) * 2 ^ (7 * i) < 2 ^ 64 := by
          -- m * P < 2^64 with P a power of two, a multiple of 128 * 2^(7i): so m * P + (P - 1) < 2^64
          have hd : 2 ^ (7 * (i + 1)) * 2 ^ (64 - 7 * (i + 1)) = 2 ^ 64 := by rw [← Nat.pow_add]; congr 1; omega
          have hm2 : m < 2 ^ (64 - 7 * (i + 1)) := by
            apply Nat.lt_of_mul_lt_mul_right (a := 2 ^ (7 * (i + 1)))
            rw [Nat.mul_comm (2 ^ (64 - 7 * (i + 1)))]; omega
          have hm3 : (m + 1) * 2 ^ (7 * (i + 1)) ≤ 2 ^ (64 - 7 * (i + 1)) * 2 ^ (7 * (i + 1)) := Nat.mul_le_mul_right _ hm2
          rw [Nat.mul_comm (2 ^ (64 - 7 * (i + 1))), hd, Nat.add_mul, Nat.one_mul] at hm3
          have hx2 : x.toNat % 128 * 2 ^ (7 * i) < 2 ^ (7 * (i + 1)) := by
            rw [p2, Nat.mul_comm]; exact Nat.mul_lt_mul_of_pos_left (Nat.mod_lt _ (by decide)) (Nat.two_pow_pos _)
          omega
        refine ⟨x.toNat % 128 + 128 * m, ?_, e8, .inr (by omega), ?_, t, ?_⟩
        · rw [e1, e6]; omega
        · rw [uvar_big hb, hdiv, List.length_cons, e4]; omega
        · rw [uvar_big hb, hdiv, hmod, e5, List.cons_append, show 128 + x.toNat % 128 = x.toNat by omega]
          simp
      · next h128 =>
        split at h
        · cases h
        · next h0 =>
          have hlt : x.toNat < 128 := by omega
          injection h with h
          injection h with h1 h2
          have hp : x.toNat * 2 ^ (7 * i) < 2 ^ 64 := by
            rcases Nat.lt_or_ge i 9 with h3 | h3
            · have : 2 ^ (7 * i) ≤ 2 ^ 56 := Nat.pow_le_pow_right (by decide) (by omega)
              have := Nat.mul_le_mul (show x.toNat ≤ 127 by omega) this
              omega
            · have e9 : i = 9 := by omega
              have hx1 : x.toNat ≤ 1 := by
                rcases Nat.lt_or_ge 1 x.toNat with h4 | h4
                · exfalso; exact h9 ⟨e9, h4⟩
                · exact h4
              subst e9
              have := Nat.mul_le_mul_right (2 ^ (7 * 9)) hx1
              omega
          refine ⟨x.toNat, by rw [← h1, Nat.mod_eq_of_lt hlt], hp, by omega, by rw [uvar_small hlt, ← h2]; rfl, r, by rw [uvar_small hlt]; simp⟩
theorem getU_ok {l : List UInt8} {u k : Nat} (h : getU l = .ok (u, k)) : u < 2 ^ 64 ∧ k = (uvar u).length ∧ ∃ t, l = uvar u ++ t := by
  obtain ⟨n, h1, h2, _, h3, t, h4⟩ := rdU_ok l 0 0 u k (by omega) h
  have e : u = n := by rw [h1]; simp
  subst e
  exact ⟨by simpa using h2, by omega, t, h4⟩
theorem rdU_err : ∀ (l : List UInt8) (i v n : Nat), rdU i v l = .error n → n = 1 ∨ n = 2
  | [], _, _, _, h => by simp [rdU] at h; omega
  | x :: r, i, v, n, h => by
    rw [rdU] at h
    split at h
    · injection h with h; omega
    · split at h
      · exact rdU_err r _ _ _ h
      · split at h
        · injection h with h; omega
        · cases h
theorem getU_err {l : List UInt8} {n : Nat} (h : getU l = .error n) : n = 1 ∨ n = 2 := rdU_err l 0 0 n h
theorem getU_len {l : List UInt8} {u k : Nat} (h : getU l = .ok (u, k)) : k ≤ l.length ∧ 1 ≤ k ∧ k ≤ 10 := by
  obtain ⟨h1, h2, t, h3⟩ := getU_ok h
  have := uvar_le u h1
  rw [h3, List.length_append]; omega
theorem getU_drop {l : List UInt8} {u k : Nat} (h : getU l = .ok (u, k)) : l = uvar u ++ l.drop k := by
  obtain ⟨h1, h2, t, h3⟩ := getU_ok h
  rw [h2]
  conv => rhs; rw [h3, List.drop_left]
  exact h3
end Go.Proofs.YthnpbfadblcicaaDoor

/- What a Reader answers, as functions of the bytes that are left. Errors by their numbers: 1 too short, 2 varint, 3 limit, 4 order, 8 range. No program occurs here. -/
namespace Go.Proofs.YthnpbfadblcicaaDoor

def getB (l : List UInt8) : Except Nat (Nat × Nat) := match l with
  | [] => .error 1
  | x :: _ => .ok (x.toNat, 1)
def getUpto (most : Int) (l : List UInt8) : Except Nat (Nat × Nat) := match getU l with
  | .error n => .error n
  | .ok (u, k) => if most < u then .error 3 else .ok (u, k)
def getW (c : Nat) (l : List UInt8) : Except Nat (Nat × Nat) := if l.length < c then .error 1 else .ok (leN (l.take c), c)
def getRaw (n : Int) (l : List UInt8) : Except Nat (List UInt8 × Nat) :=
  if n < 0 then .error 8 else if (l.length : Int) < n then .error 1 else .ok (l.take n.toNat, n.toNat)
def getText (most : Int) (l : List UInt8) : Except Nat (List UInt8 × Nat) := match getUpto most l with
  | .error n => .error n
  | .ok (u, k) => if (l.drop k).length < u then .error 1 else .ok ((l.drop k).take u, k + u)
def getR : Nat → Int → List UInt8 → Except Nat (List Int × Nat)
  | 0, _, _ => .ok ([], 0)
  | n + 1, last, l => match getU l with
    | .error e => .error e
    | .ok (u, k) => if 9223372036854775806 - last < u then .error 3 else match getR n (last + u + 1) (l.drop k) with
      | .error e => .error e
      | .ok (r, j) => .ok ((last + u + 1) :: r, k + j)
def getRis (most : Int) (l : List UInt8) : Except Nat (List Int × Nat) := match getUpto most l with
  | .error n => .error n
  | .ok (n, k) => match getR n (-1) (l.drop k) with
    | .error e => .error e
    | .ok (r, j) => .ok (r, k + j)
/-- The numbers of n times w bits. -/
def unpack (w n N : Nat) : List Nat := (List.range n).map fun i => N / 2 ^ (w * i) % 2 ^ w
theorem unpack_length (w n N : Nat) : (unpack w n N).length = n := by simp [unpack]
theorem unpack_succ (w n N : Nat) : unpack w (n + 1) N = unpack w n N ++ [N / 2 ^ (w * n) % 2 ^ w] := by simp [unpack, List.range_succ]
theorem unpack_lt (w n N : Nat) : ∀ x ∈ unpack w n N, x < 2 ^ w := fun x hx => by
  obtain ⟨i, _, rfl⟩ := List.mem_map.1 hx
  exact Nat.mod_lt _ (Nat.two_pow_pos w)
/-- Behind the count n: the width, and the bits. -/
def getPB (n : Nat) (l : List UInt8) : Except Nat (List Nat × Nat) := match l with
  | [] => .error 1
  | x :: r =>
    if 63 < x.toNat ∨ (x.toNat = 0 ∧ 65536 < n) then .error 3
    else if 0 < x.toNat ∧ r.length * 8 / x.toNat < n then .error 1
    else if widL (unpack x.toNat n (leN (r.take ((n * x.toNat + 7) / 8)))) = x.toNat ∧ leN (r.take ((n * x.toNat + 7) / 8)) / 2 ^ (n * x.toNat) = 0
      then .ok (unpack x.toNat n (leN (r.take ((n * x.toNat + 7) / 8))), 1 + (n * x.toNat + 7) / 8)
    else .error 4
def getPk (most : Int) (l : List UInt8) : Except Nat (List Nat × Nat) := match getUpto most l with
  | .error n => .error n
  | .ok (n, k) => if n = 0 then .ok ([], k) else match getPB n (l.drop k) with
    | .error e => .error e
    | .ok (r, j) => .ok (r, k + j)

theorem getUpto_len {most : Int} {l : List UInt8} {u k : Nat} (h : getUpto most l = .ok (u, k)) : getU l = .ok (u, k) ∧ (u : Int) ≤ most := by
  unfold getUpto at h
  split at h
  · cases h
  · next u' k' e =>
    split at h
    · cases h
    · injection h with h
      injection h with h1 h2
      subst h1 h2
      exact ⟨e, by omega⟩
theorem packed_size {n w L : Nat} (hw : 0 < w) (h : ¬ L * 8 / w < n) : (n * w + 7) / 8 ≤ L := by
  have h1 : n ≤ L * 8 / w := by omega
  have h2 : n * w ≤ L * 8 := (Nat.le_div_iff_mul_le hw).1 h1
  omega
end Go.Proofs.YthnpbfadblcicaaDoor
