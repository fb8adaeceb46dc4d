/- Merged: PackN, RdP, GetT. -/
import Derived.Test.YtejmjjgbbojfbaaDoorZLib
import Derived.Test.YtejmjjgbbojfbaaDoorZG1
/- Numbers as lists of bytes, the lowest first; lists of numbers of one width as one number. No program occurs here. -/
namespace Go.Proofs.YtejmjjgbbojfbaaDoor

/-- The number of a list of bytes, the lowest first. -/
def leN : List UInt8 → Nat
  | [] => 0
  | b :: r => b.toNat + 256 * leN r
/-- The k lowest bytes of a number. -/
def leB : Nat → Nat → List UInt8
  | 0, _ => []
  | k + 1, n => UInt8.ofNat (n % 256) :: leB k (n / 256)
theorem leB_length : ∀ k n : Nat, (leB k n).length = k
  | 0, _ => rfl
  | k + 1, n => by rw [leB, List.length_cons, leB_length k]
theorem leN_lt : ∀ l : List UInt8, leN l < 256 ^ l.length
  | [] => by simp [leN]
  | b :: r => by
    have h1 := leN_lt r
    have h2 : b.toNat < 256 := b.toNat_lt
    rw [leN, List.length_cons, Nat.pow_succ]; omega
theorem leN_leB : ∀ k n : Nat, leN (leB k n) = n % 256 ^ k
  | 0, n => by simp [leN, leB, Nat.mod_one]
  | k + 1, n => by
    rw [leB, leN, leN_leB k, Nat.pow_succ, Nat.mul_comm (256 ^ k) 256, Nat.mod_mul]
    simp
theorem leB_leN : ∀ l : List UInt8, leB l.length (leN l) = l
  | [] => rfl
  | b :: r => by
    have h2 : b.toNat < 256 := b.toNat_lt
    rw [List.length_cons, leB, leN, show (b.toNat + 256 * leN r) % 256 = b.toNat by omega, show (b.toNat + 256 * leN r) / 256 = leN r by omega, leB_leN r]
    simp
theorem leB_get : ∀ (k n j : Nat), j < k → (leB k n)[j]? = some (UInt8.ofNat (n / 256 ^ j % 256))
  | 0, _, _, h => by omega
  | k + 1, n, 0, _ => by simp [leB]
  | k + 1, n, j + 1, h => by
    rw [leB, List.getElem?_cons_succ, leB_get k (n / 256) j (by omega), Nat.div_div_eq_div_mul, Nat.pow_succ, Nat.mul_comm (256 ^ j) 256]
theorem leN_get : ∀ (l : List UInt8) (j : Nat) (h : j < l.length), leN l / 256 ^ j % 256 = l[j].toNat
  | b :: r, 0, _ => by
    have h2 : b.toNat < 256 := b.toNat_lt
    simp [leN]
  | b :: r, j + 1, h => by
    have h2 : b.toNat < 256 := b.toNat_lt
    have h3 := leN_get r j (by simpa using h)
    rw [leN, Nat.pow_succ, Nat.mul_comm (256 ^ j) 256, ← Nat.div_div_eq_div_mul, show (b.toNat + 256 * leN r) / 256 = leN r by omega, h3]
    rfl
theorem leN_append : ∀ a b : List UInt8, leN (a ++ b) = leN a + 256 ^ a.length * leN b
  | [], b => by simp [leN]
  | x :: a, b => by
    rw [List.cons_append, leN, leN, leN_append a b, List.length_cons, Nat.pow_succ]
    rw [Nat.mul_add, ← Nat.mul_assoc, Nat.mul_comm 256 (256 ^ a.length)]; omega
theorem leN_inj {a b : List UInt8} (h : a.length = b.length) (e : leN a = leN b) : a = b := by
  rw [← leB_leN a, ← leB_leN b, h, e]
theorem leB_succ (k n : Nat) : leB (k + 1) n = leB k n ++ [UInt8.ofNat (n / 256 ^ k % 256)] := by
  induction k generalizing n with
  | zero => simp [leB]
  | succ k ih => rw [leB, ih, leB, List.cons_append, Nat.div_div_eq_div_mul, Nat.pow_succ, Nat.mul_comm (256 ^ k) 256]
theorem leB_mod (k n : Nat) : leB k (n % 256 ^ k) = leB k n := by
  apply leN_inj (by rw [leB_length, leB_length])
  rw [leN_leB, leN_leB, Nat.mod_mod]
theorem leB_zero (k : Nat) : leB k 0 = List.replicate k 0 := by
  induction k with
  | zero => rfl
  | succ k ih => rw [leB, List.replicate_succ, ← ih]; simp

/-- Bits side by side. -/
theorem or_add (a b k : Nat) (h : a < 2 ^ k) : a ||| b * 2 ^ k = a + b * 2 ^ k := by
  rw [Nat.or_comm, Nat.mul_comm b, ← Nat.two_pow_add_eq_or_of_lt h, Nat.add_comm]
/-- Byte j of an or. -/
theorem or_byte (a b j : Nat) : (a ||| b) / 256 ^ j % 256 = (a / 256 ^ j % 256) ||| (b / 256 ^ j % 256) := by
  rw [show (256 : Nat) = 2 ^ 8 by rfl, ← Nat.pow_mul, ← Nat.shiftRight_eq_div_pow, ← Nat.shiftRight_eq_div_pow, ← Nat.shiftRight_eq_div_pow, Nat.shiftRight_or_distrib, Nat.or_mod_two_pow]

theorem leB_or (n A b j : Nat) (hb : b < 256) (hj : j < n) : leB n (A ||| b * 256 ^ j) = (leB n A).set j (UInt8.ofNat (A / 256 ^ j % 256 ||| b)) := by
  apply List.ext_getElem?
  intro i
  rcases Nat.lt_or_ge i n with hi | hi
  · rw [leB_get _ _ _ hi, List.getElem?_set]
    split
    · subst j
      rw [if_pos (by rw [leB_length]; exact hi), or_byte, Nat.mul_div_cancel _ (Nat.pow_pos (by decide)), Nat.mod_eq_of_lt hb]
    · next hne =>
      rw [leB_get _ _ _ hi, or_byte]
      have : b * 256 ^ j / 256 ^ i % 256 = 0 := by
        rcases Nat.lt_or_ge i j with h | h
        · obtain ⟨m, rfl⟩ : ∃ m, j = i + 1 + m := ⟨j - i - 1, by omega⟩
          have e1 : b * 256 ^ (i + 1 + m) = b * 256 ^ m * 256 * 256 ^ i := by
            rw [Nat.pow_add, Nat.pow_succ, Nat.mul_assoc (b * 256 ^ m), Nat.mul_comm 256 (256 ^ i), Nat.mul_assoc b, Nat.mul_comm (256 ^ m)]
          rw [e1]
          rw [Nat.mul_div_cancel _ (Nat.pow_pos (by decide)), Nat.mul_mod_left]
        · have h1 : 256 ^ (j + 1) ≤ 256 ^ i := Nat.pow_le_pow_right (by decide) (by omega)
          have h2 : b * 256 ^ j < 256 ^ (j + 1) := by rw [Nat.pow_succ, Nat.mul_comm]; exact Nat.mul_lt_mul_of_pos_left hb (Nat.pow_pos (by decide))
          rw [Nat.div_eq_of_lt (by omega)]
      rw [this, Nat.or_zero]
  · rw [List.getElem?_eq_none (by rw [leB_length]; exact hi), List.getElem?_eq_none (by rw [List.length_set, leB_length]; exact hi)]
/-- One byte of the number x laid at bit a: d bits are there. -/
theorem put_step (M x a d k j : Nat) (hM : M < 2 ^ a) (h : a + d = 8 * j + k) (hk : k < 8) :
    M + x % 2 ^ (d + (8 - k)) * 2 ^ a = (M + x % 2 ^ d * 2 ^ a) ||| (x / 2 ^ d * 2 ^ k % 256) * 256 ^ j := by
  have e1 : x / 2 ^ d * 2 ^ k % 256 = (x / 2 ^ d % 2 ^ (8 - k)) * 2 ^ k := by
    rw [show (256 : Nat) = 2 ^ (8 - k) * 2 ^ k by rw [← Nat.pow_add, Nat.sub_add_cancel (by omega)], Nat.mul_mod_mul_right]
  have h2 : M + x % 2 ^ d * 2 ^ a < 2 ^ (a + d) := by
    have h3 : x % 2 ^ d < 2 ^ d := Nat.mod_lt _ (Nat.two_pow_pos d)
    have h4 : (x % 2 ^ d + 1) * 2 ^ a ≤ 2 ^ d * 2 ^ a := Nat.mul_le_mul_right _ h3
    rw [Nat.add_mul, Nat.one_mul, ← Nat.pow_add, Nat.add_comm d a] at h4
    omega
  rw [e1, Nat.mul_assoc, show 2 ^ k * 256 ^ j = 2 ^ (a + d) by rw [show (256 : Nat) = 2 ^ 8 by rfl, ← Nat.pow_mul, ← Nat.pow_add, h, Nat.add_comm], or_add _ _ _ h2, Nat.pow_add 2 d, Nat.mod_mul, Nat.add_mul, Nat.pow_add 2 a d]
  rw [Nat.mul_comm (2 ^ d) (x / 2 ^ d % 2 ^ (8 - k)), Nat.mul_assoc, Nat.mul_comm (2 ^ d) (2 ^ a)]
  omega

/-- A list of numbers of w bits each, as one number. -/
def packN (w : Nat) : List Nat → Nat
  | [] => 0
  | x :: r => x + 2 ^ w * packN w r
theorem packN_lt (w : Nat) : ∀ l : List Nat, (∀ x ∈ l, x < 2 ^ w) → packN w l < 2 ^ (w * l.length)
  | [], _ => by simp [packN]
  | x :: r, h => by
    have h1 := packN_lt w r (fun y hy => h y (List.mem_cons_of_mem _ hy))
    have h2 := h x List.mem_cons_self
    rw [packN, List.length_cons, Nat.mul_add, Nat.mul_one, Nat.pow_add, Nat.mul_comm (2 ^ (w * r.length))]
    have h3 : 2 ^ w * (packN w r + 1) ≤ 2 ^ w * 2 ^ (w * r.length) := Nat.mul_le_mul_left _ h1
    rw [Nat.mul_add] at h3; omega
theorem packN_snoc (w : Nat) : ∀ (l : List Nat) (x : Nat), packN w (l ++ [x]) = packN w l + x * 2 ^ (w * l.length)
  | [], x => by simp [packN]
  | y :: r, x => by
    rw [List.cons_append, packN, packN_snoc w r x, packN, List.length_cons, Nat.mul_add w, Nat.mul_one, Nat.pow_add, Nat.mul_add]
    rw [Nat.mul_comm x (2 ^ (w * r.length) * 2 ^ w), Nat.mul_comm x (2 ^ (w * r.length)), Nat.mul_comm (2 ^ (w * r.length)) (2 ^ w), Nat.mul_assoc]; omega
theorem packN_get (w : Nat) : ∀ (l : List Nat) (i : Nat) (h : i < l.length), (∀ x ∈ l, x < 2 ^ w) → packN w l / 2 ^ (w * i) % 2 ^ w = l[i]
  | x :: r, 0, _, hl => by
    have h2 := hl x List.mem_cons_self
    simp only [packN, Nat.mul_zero, Nat.pow_zero, Nat.div_one, Nat.add_mul_mod_self_left, List.getElem_cons_zero]
    exact Nat.mod_eq_of_lt h2
  | x :: r, i + 1, h, hl => by
    have h2 := hl x List.mem_cons_self
    rw [packN, Nat.mul_add, Nat.mul_one, Nat.pow_add, Nat.mul_comm (2 ^ (w * i)), ← Nat.div_div_eq_div_mul, Nat.add_mul_div_left _ _ (Nat.two_pow_pos w), Nat.div_eq_of_lt h2, Nat.zero_add]
    rw [packN_get w r i (by simpa using h) (fun y hy => hl y (List.mem_cons_of_mem _ hy))]
    rfl
/-- Each number is the one that its digits make. -/
theorem packN_of (w : Nat) : ∀ (n M : Nat), M < 2 ^ (w * n) → packN w ((List.range n).map fun i => M / 2 ^ (w * i) % 2 ^ w) = M
  | 0, M, h => by simp at h; simp [packN, h]
  | n + 1, M, h => by
    have hn : M % 2 ^ (w * n) < 2 ^ (w * n) := Nat.mod_lt _ (Nat.two_pow_pos _)
    rw [List.range_succ, List.map_append, List.map_cons, List.map_nil, packN_snoc, List.length_map, List.length_range]
    have e : (List.range n).map (fun i => M / 2 ^ (w * i) % 2 ^ w) = (List.range n).map (fun i => M % 2 ^ (w * n) / 2 ^ (w * i) % 2 ^ w) := by
      refine List.map_congr_left fun i hi => ?_
      have hi := List.mem_range.1 hi
      have e1 : w * n = w * i + w * (n - i) := by rw [← Nat.mul_add]; congr 1; omega
      rw [e1, Nat.pow_add, Nat.mod_mul_right_div_self, Nat.mod_mod_of_dvd]
      exact Nat.pow_dvd_pow 2 (Nat.le_mul_of_pos_right w (by omega))
    rw [e, packN_of w n _ hn]
    have h3 : M / 2 ^ (w * n) < 2 ^ w := Nat.div_lt_of_lt_mul (by rw [← Nat.pow_add]; rw [show w * n + w = w * (n + 1) by rw [Nat.mul_add, Nat.mul_one]]; exact h)
    rw [Nat.mod_eq_of_lt h3, Nat.mul_comm (M / 2 ^ (w * n))]
    exact Nat.mod_add_div M (2 ^ (w * n))

theorem lt_bitLen : ∀ x : Nat, x < 2 ^ 64 → x < 2 ^ Lib.bitLen x := by
  intro x
  induction x using Nat.strongRecOn with
  | _ x ih =>
    intro h
    by_cases h0 : x = 0
    · subst h0; decide
    · rw [Lib.bitLen_half x h0 h, Nat.add_comm, Nat.pow_succ]
      have := ih (x / 2) (by omega) (by omega)
      omega
theorem bitLen_zero : Lib.bitLen 0 = 0 := by decide
theorem bitLen_eq_zero {x : Nat} (h : x < 2 ^ 64) : Lib.bitLen x = 0 ↔ x = 0 := by
  constructor
  · intro e; have := lt_bitLen x h; rw [e] at this; omega
  · rintro rfl; decide
theorem bitLen_or : ∀ a b : Nat, a < 2 ^ 64 → b < 2 ^ 64 → Lib.bitLen (a ||| b) = max (Lib.bitLen a) (Lib.bitLen b) := by
  intro a
  induction a using Nat.strongRecOn with
  | _ a ih =>
    intro b ha hb
    by_cases h0 : a = 0
    · subst h0; rw [Nat.zero_or, bitLen_zero]; omega
    · have h1 : (a ||| b) / 2 = a / 2 ||| b / 2 := Nat.or_div_two
      have h2 : a ||| b ≠ 0 := fun e => h0 (by rw [Nat.or_eq_zero_iff] at e; exact e.1)
      have h3 : a ||| b < 2 ^ 64 := Nat.or_lt_two_pow ha hb
      rw [Lib.bitLen_half _ h2 h3, h1, ih (a / 2) (by omega) (b / 2) (by omega) (by omega), Lib.bitLen_half a h0 ha]
      by_cases hb0 : b = 0
      · subst hb0; rw [show (0 : Nat) / 2 = 0 from rfl, bitLen_zero]; omega
      · rw [Lib.bitLen_half b hb0 hb]; omega

/-- The least width in which all fit. -/
def widL : List Nat → Nat
  | [] => 0
  | x :: r => max (Lib.bitLen x) (widL r)
theorem widL_append (a b : List Nat) : widL (a ++ b) = max (widL a) (widL b) := by
  induction a with
  | nil => simp [widL]
  | cons x a ih => rw [List.cons_append, widL, ih, widL]; omega
theorem widL_mem {l : List Nat} {x : Nat} (h : x ∈ l) : Lib.bitLen x ≤ widL l := by
  induction l with
  | nil => cases h
  | cons y l ih =>
    rw [widL]
    rcases List.mem_cons.1 h with rfl | h
    · omega
    · have := ih h; omega
theorem widL_le {l : List Nat} {k : Nat} (h : ∀ x ∈ l, Lib.bitLen x ≤ k) : widL l ≤ k := by
  induction l with
  | nil => simp [widL]
  | cons y l ih =>
    rw [widL]
    have h1 := h y List.mem_cons_self
    have h2 := ih (fun z hz => h z (List.mem_cons_of_mem _ hz)); omega
theorem snocInd {α : Type} {P : List α → Prop} (h0 : P []) (h1 : ∀ l x, P l → P (l ++ [x])) (l : List α) : P l := by
  have h : ∀ l : List α, P l.reverse := fun l => by
    induction l with
    | nil => exact h0
    | cons x l ih => rw [List.reverse_cons]; exact h1 _ _ ih
  rw [← List.reverse_reverse l]; exact h _
/-- The or of all. -/
def orL (l : List Nat) : Nat := l.foldl (· ||| ·) 0
theorem orL_snoc (l : List Nat) (x : Nat) : orL (l ++ [x]) = orL l ||| x := by simp [orL]
theorem orL_lt {k : Nat} (l : List Nat) (h : ∀ x ∈ l, x < 2 ^ k) : orL l < 2 ^ k := by
  induction l using snocInd with
  | h0 => exact Nat.two_pow_pos k
  | h1 l x ih =>
    rw [orL_snoc]
    exact Nat.or_lt_two_pow (ih (fun y hy => h y (by simp [hy]))) (h x (by simp))
theorem bitLen_orL (l : List Nat) (h : ∀ x ∈ l, x < 2 ^ 64) : Lib.bitLen (orL l) = widL l := by
  induction l using snocInd with
  | h0 => decide
  | h1 l x ih =>
    have h1 : ∀ y ∈ l, y < 2 ^ 64 := fun y hy => h y (by simp [hy])
    rw [orL_snoc, bitLen_or _ _ (orL_lt l h1) (h x (by simp)), ih h1, widL_append]
    simp [widL]
theorem widL_fits {l : List Nat} (h : ∀ x ∈ l, x < 2 ^ 64) : ∀ x ∈ l, x < 2 ^ widL l := fun x hx =>
  Nat.lt_of_lt_of_le (lt_bitLen x (h x hx)) (Nat.pow_le_pow_right (by decide) (widL_mem hx))
theorem widL_63 {l : List Nat} (h : ∀ x ∈ l, x < 2 ^ 63) : widL l ≤ 63 := widL_le fun x hx => Lib.bitLen_le x 63 (by decide) (h x hx)
theorem widL_zero {l : List Nat} (h : ∀ x ∈ l, x < 2 ^ 64) : widL l = 0 ↔ ∀ x ∈ l, x = 0 := by
  constructor
  · intro e x hx; have := widL_fits h x hx; rw [e] at this; omega
  · intro e; have := widL_le (l := l) (k := 0) (fun x hx => by rw [e x hx]; decide); omega
/-- The bytes behind the count of a packed list that is not empty. -/
def packB (l : List Nat) : List UInt8 := UInt8.ofNat (widL l) :: leB ((l.length * widL l + 7) / 8) (packN (widL l) l)
def pckB (l : List Nat) : List UInt8 := uvar l.length ++ if l = [] then [] else packB l
end Go.Proofs.YtejmjjgbbojfbaaDoor

/- What a Reader answers, as functions of the bytes that are left. Errors by their numbers: 1 too short, 2 varint, 3 limit, 4 order, 8 range. No program occurs here. -/
namespace Go.Proofs.YtejmjjgbbojfbaaDoor

def getB (l : List UInt8) : Except Nat (Nat × Nat) := match l with
  | [] => .error 1
  | x :: _ => .ok (x.toNat, 1)
def getUpto (most : Int) (l : List UInt8) : Except Nat (Nat × Nat) := match getU l with
  | .error n => .error n
  | .ok (u, k) => if most < u then .error 3 else .ok (u, k)
def getW (c : Nat) (l : List UInt8) : Except Nat (Nat × Nat) := if l.length < c then .error 1 else .ok (leN (l.take c), c)
def getRaw (n : Int) (l : List UInt8) : Except Nat (List UInt8 × Nat) :=
  if n < 0 then .error 8 else if (l.length : Int) < n then .error 1 else .ok (l.take n.toNat, n.toNat)
def getText (most : Int) (l : List UInt8) : Except Nat (List UInt8 × Nat) := match getUpto most l with
  | .error n => .error n
  | .ok (u, k) => if (l.drop k).length < u then .error 1 else .ok ((l.drop k).take u, k + u)
def getR : Nat → Int → List UInt8 → Except Nat (List Int × Nat)
  | 0, _, _ => .ok ([], 0)
  | n + 1, last, l => match getU l with
    | .error e => .error e
    | .ok (u, k) => if 9223372036854775806 - last < u then .error 3 else match getR n (last + u + 1) (l.drop k) with
      | .error e => .error e
      | .ok (r, j) => .ok ((last + u + 1) :: r, k + j)
def getRis (most : Int) (l : List UInt8) : Except Nat (List Int × Nat) := match getUpto most l with
  | .error n => .error n
  | .ok (n, k) => match getR n (-1) (l.drop k) with
    | .error e => .error e
    | .ok (r, j) => .ok (r, k + j)
/-- The numbers of n times w bits. -/
def unpack (w n N : Nat) : List Nat := (List.range n).map fun i => N / 2 ^ (w * i) % 2 ^ w
theorem unpack_length (w n N : Nat) : (unpack w n N).length = n := by simp [unpack]
theorem unpack_succ (w n N : Nat) : unpack w (n + 1) N = unpack w n N ++ [N / 2 ^ (w * n) % 2 ^ w] := by simp [unpack, List.range_succ]
theorem unpack_lt (w n N : Nat) : ∀ x ∈ unpack w n N, x < 2 ^ w := fun x hx => by
  obtain ⟨i, _, rfl⟩ := List.mem_map.1 hx
  exact Nat.mod_lt _ (Nat.two_pow_pos w)
/-- Behind the count n: the width, and the bits. -/
def getPB (n : Nat) (l : List UInt8) : Except Nat (List Nat × Nat) := match l with
  | [] => .error 1
  | x :: r =>
    if 63 < x.toNat ∨ (x.toNat = 0 ∧ 65536 < n) then .error 3
    else if 0 < x.toNat ∧ r.length * 8 / x.toNat < n then .error 1
    else if widL (unpack x.toNat n (leN (r.take ((n * x.toNat + 7) / 8)))) = x.toNat ∧ leN (r.take ((n * x.toNat + 7) / 8)) / 2 ^ (n * x.toNat) = 0
      then .ok (unpack x.toNat n (leN (r.take ((n * x.toNat + 7) / 8))), 1 + (n * x.toNat + 7) / 8)
    else .error 4
def getPk (most : Int) (l : List UInt8) : Except Nat (List Nat × Nat) := match getUpto most l with
  | .error n => .error n
  | .ok (n, k) => if n = 0 then .ok ([], k) else match getPB n (l.drop k) with
    | .error e => .error e
    | .ok (r, j) => .ok (r, k + j)

theorem getUpto_len {most : Int} {l : List UInt8} {u k : Nat} (h : getUpto most l = .ok (u, k)) : getU l = .ok (u, k) ∧ (u : Int) ≤ most := by
  unfold getUpto at h
  split at h
  · cases h
  · next u' k' e =>
    split at h
    · cases h
    · injection h with h
      injection h with h1 h2
      subst h1 h2
      exact ⟨e, by omega⟩
theorem packed_size {n w L : Nat} (hw : 0 < w) (h : ¬ L * 8 / w < n) : (n * w + 7) / 8 ≤ L := by
  have h1 : n ≤ L * 8 / w := by omega
  have h2 : n * w ≤ L * 8 := (Nat.le_div_iff_mul_le hw).1 h1
  omega
end Go.Proofs.YtejmjjgbbojfbaaDoor

/- A text and a number, read from the front. No program occurs here. -/
namespace Go.Proofs.YtejmjjgbbojfbaaDoor
set_option linter.unusedVariables false

theorem takeq_of {l a t : List UInt8} (h : l = a ++ t) {j : Nat} (hj : a.length = j) : l.take j = a := by rw [h, ← hj]; exact List.take_left
theorem rawq_form {n : Int} {l x : List UInt8} {j : Nat} (h : getRaw n l = .ok (x, j)) : l.take j = x := by
  unfold getRaw at h
  split at h
  · cases h
  · split at h
    · cases h
    · injection h with h; injection h with e1 e2; subst e1 e2; rfl
theorem formUq {l : List UInt8} {u k : Nat} (h : getU l = .ok (u, k)) : l.take k = uvar u ∧ u < 2 ^ 64 ∧ k = (uvar u).length := by
  obtain ⟨h1, h2, t, h3⟩ := getU_ok h
  exact ⟨takeq_of h3 h2.symm, h1, h2⟩
theorem textq_form {most : Int} {l x : List UInt8} {j : Nat} (h : getText most l = .ok (x, j)) : l.take j = uvar x.length ++ x := by
  unfold getText at h
  cases hg : getUpto most l with
  | error e => rw [hg] at h; cases h
  | ok y =>
    obtain ⟨n, k⟩ := y
    rw [hg] at h
    simp only at h
    obtain ⟨hu, _⟩ := getUpto_len hg
    obtain ⟨f1, f2, f3⟩ := formUq hu
    split at h
    · cases h
    · next h1 =>
      injection h with h; injection h with e1 e2; subst e1 e2
      rw [List.take_add, f1, List.length_take, Nat.min_eq_left (by omega)]
theorem gq_upto (most : Int) (n : Nat) (h : n < 2 ^ 64) (hm : (n : Int) ≤ most) (t : List UInt8) : getUpto most (uvar n ++ t) = .ok (n, (uvar n).length) := by
  unfold getUpto; rw [getU_uvar n h t]; simp only; rw [if_neg (by omega)]
end Go.Proofs.YtejmjjgbbojfbaaDoor
