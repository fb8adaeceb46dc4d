/- Plain: how the document reads numbers from the top down. -/
import Derived.Test.YtmmflhippbegaaaDoorZG1
namespace Go.Proofs.YtmmflhippbegaaaDoor
set_option linter.unusedVariables false

/-- Seven bits a byte, the lowest first. -/
def hor : List UInt8 → Nat
  | [] => 0
  | x :: r => x.toNat % 128 + 128 * hor r
theorem hor_snoc : ∀ (a : List UInt8) (x : UInt8), hor (a ++ [x]) = hor a + x.toNat % 128 * 2 ^ (7 * a.length)
  | [], x => by simp [hor]
  | y :: a, x => by
    have := hor_snoc a x
    rw [List.cons_append, hor, hor, this, List.length_cons, show 7 * (a.length + 1) = 7 * a.length + 7 by omega, Nat.pow_add]
    rw [Nat.mul_add, ← Nat.add_assoc]
    congr 1
    rw [show (2 : Nat) ^ 7 = 128 by rfl, Nat.mul_left_comm, Nat.mul_comm 128]
theorem hor_drop_le : ∀ (l : List UInt8) (i : Nat), hor (l.drop i) ≤ hor l
  | [], i => by simp
  | x :: r, 0 => by simp
  | x :: r, i + 1 => by
    have := hor_drop_le r i
    rw [List.drop_succ_cons, hor]; omega
theorem hor_step {l : List UInt8} {i : Nat} (h : i < l.length) : hor (l.drop i) = 128 * hor (l.drop (i + 1)) + l[i].toNat % 128 := by
  rw [List.drop_eq_getElem_cons h, hor]; omega
theorem leN_step {l : List UInt8} {i : Nat} (h : i < l.length) : leN (l.drop i) = 256 * leN (l.drop (i + 1)) + l[i].toNat := by
  rw [List.drop_eq_getElem_cons h, leN]; omega
theorem leN_drop_le : ∀ (l : List UInt8) (i : Nat), leN (l.drop i) ≤ leN l
  | [], i => by simp
  | x :: r, 0 => by simp
  | x :: r, i + 1 => by
    have := leN_drop_le r i
    rw [List.drop_succ_cons, leN]; omega

/-- The first n bytes of L go on: what is to be read is what is read behind them. -/
structure Scan (L : List UInt8) (n : Nat) : Prop where
  le : n ≤ L.length
  n9 : n ≤ 9
  eq : getU L = rdU n (hor (L.take n)) (L.drop n)
theorem scan_zero (L : List UInt8) : Scan L 0 := ⟨Nat.zero_le _, by omega, rfl⟩
theorem Scan.short {L : List UInt8} {n : Nat} (h : Scan L n) (hn : L.length ≤ n) : getU L = .error 1 := by
  rw [h.eq, List.drop_eq_nil_of_le hn, rdU]
theorem Scan.here {L : List UInt8} {n : Nat} (h : Scan L n) (hn : n < L.length) : getU L =
    if n = 9 ∧ 1 < L[n].toNat then .error 2
    else if 128 ≤ L[n].toNat then rdU (n + 1) (hor (L.take (n + 1))) (L.drop (n + 1))
    else if L[n].toNat = 0 ∧ 0 < n then .error 2
    else .ok (hor (L.take (n + 1)), n + 1) := by
  have e : hor (L.take (n + 1)) = hor (L.take n) + L[n].toNat % 128 * 2 ^ (7 * n) := by
    rw [List.take_add_one, List.getElem?_eq_getElem hn, Option.toList_some, hor_snoc, List.length_take, Nat.min_eq_left (by omega)]
  rw [h.eq, List.drop_eq_getElem_cons hn, rdU, e]
theorem Scan.ten {L : List UInt8} {n : Nat} (h : Scan L n) (hn : n < L.length) (h9 : n = 9) (h1 : 1 < L[n].toNat) : getU L = .error 2 := by
  rw [h.here hn, if_pos ⟨h9, h1⟩]
theorem Scan.next {L : List UInt8} {n : Nat} (h : Scan L n) (hn : n < L.length) (h1 : 128 ≤ L[n].toNat) (h9 : ¬ (n = 9 ∧ 1 < L[n].toNat)) : Scan L (n + 1) :=
  ⟨hn, by have := h.n9; by_cases e : n = 9; exact absurd ⟨e, by omega⟩ h9; omega, by rw [h.here hn, if_neg h9, if_pos h1]⟩
theorem Scan.zero {L : List UInt8} {n : Nat} (h : Scan L n) (hn : n < L.length) (h0 : L[n].toNat = 0) (hp : 0 < n) : getU L = .error 2 := by
  rw [h.here hn, if_neg (by omega), if_neg (by omega), if_pos ⟨h0, hp⟩]
theorem Scan.ok {L : List UInt8} {n : Nat} (h : Scan L n) (hn : n < L.length) (h9 : ¬ (n = 9 ∧ 1 < L[n].toNat)) (h1 : L[n].toNat < 128) (h0 : ¬ (L[n].toNat = 0 ∧ 0 < n)) : getU L = .ok (hor (L.take (n + 1)), n + 1) := by
  rw [h.here hn, if_neg h9, if_neg (by omega), if_neg h0]
/-- Where a number stands: its value from place i on. -/
theorem hor_take_step {L : List UInt8} {n i : Nat} (hn : n ≤ L.length) (hi : i < n) : hor ((L.take n).drop i) = 128 * hor ((L.take n).drop (i + 1)) + (L[i]'(by omega)).toNat % 128 := by
  rw [hor_step (l := L.take n) (i := i) (by rw [List.length_take]; omega), List.getElem_take]
theorem leN_take_step {L : List UInt8} {n i : Nat} (hn : n ≤ L.length) (hi : i < n) : leN ((L.take n).drop i) = 256 * leN ((L.take n).drop (i + 1)) + (L[i]'(by omega)).toNat := by
  rw [leN_step (l := L.take n) (i := i) (by rw [List.length_take]; omega), List.getElem_take]
theorem take_drop_self {α : Type} (L : List α) (n : Nat) : (L.take n).drop n = [] := List.drop_eq_nil_of_le (by rw [List.length_take]; omega)

/-- A rising list, number by number: behind r, least above its last, K bytes taken. -/
structure RisAt (m : Nat) (L : List UInt8) (r : List Int) (least K : Nat) : Prop where
  hK : K ≤ L.length
  le : r.length ≤ m
  l63 : least ≤ 2 ^ 63
  rk : r.length ≤ K
  eq : getR m (-1) L = match getR (m - r.length) ((least : Int) - 1) (L.drop K) with
    | .error e => .error e
    | .ok (s, j) => .ok (r ++ s, K + j)
theorem ris_zero (m : Nat) (L : List UInt8) : RisAt m L [] 0 0 := ⟨Nat.zero_le _, Nat.zero_le _, Nat.zero_le _, Nat.zero_le _, by
  simp only [List.length_nil, Nat.sub_zero, List.drop_zero, List.nil_append, Nat.zero_add]
  show getR m (-1) L = match getR m (-1) L with | .error e => .error e | .ok (s, j) => .ok (s, j)
  cases getR m (-1) L <;> rfl⟩
theorem RisAt.step {m : Nat} {L : List UInt8} {r : List Int} {least K : Nat} (h : RisAt m L r least K) (hr : r.length < m) :
    (∀ e, getU (L.drop K) = .error e → getR m (-1) L = .error e) ∧
    (∀ u k, getU (L.drop K) = .ok (u, k) → (9223372036854775807 < (least : Int) + u → getR m (-1) L = .error 3) ∧ ((least : Int) + u ≤ 9223372036854775807 → RisAt m L (r ++ [(least : Int) + u]) (least + u + 1) (K + k))) := by
  obtain ⟨q, hq⟩ : ∃ q, m - r.length = q + 1 := ⟨m - r.length - 1, by omega⟩
  have he := h.eq
  rw [hq, getR] at he
  refine ⟨fun e hu => ?_, fun u k hu => ⟨fun hlt => ?_, fun hle => ⟨?_, ?_, by omega, ?_, ?_⟩⟩⟩
  · rw [hu] at he; exact he
  · rw [hu] at he; simp only at he; rw [if_pos (by omega)] at he; exact he
  · have := (getU_len hu).1; rw [List.length_drop] at this; have := h.hK; omega
  · simp; omega
  · have := (getU_len hu).2.1; have := h.rk; simp; omega
  · rw [hu] at he
    simp only at he
    rw [if_neg (by omega), List.drop_drop] at he
    rw [he, List.length_append, List.length_singleton, show m - (r.length + 1) = q by omega, show (((least + u + 1 : Nat) : Int) - 1) = (least : Int) - 1 + u + 1 by omega]
    cases getR q ((least : Int) - 1 + u + 1) (L.drop (K + k)) with
    | error e => rfl
    | ok y => obtain ⟨s, j⟩ := y; simp [Nat.add_assoc]; omega
theorem RisAt.done {m : Nat} {L : List UInt8} {r : List Int} {least K : Nat} (h : RisAt m L r least K) (hr : r.length = m) : getR m (-1) L = .ok (r, K) := by
  have he := h.eq
  rw [hr, Nat.sub_self, getR] at he
  simpa using he

/-- A number of w bits, from the top down. -/
theorem bits_step (X w k : Nat) (hk : k < w) : X % 2 ^ w / 2 ^ k = 2 * (X % 2 ^ w / 2 ^ (k + 1)) + X / 2 ^ k % 2 := by
  have e1 : X % 2 ^ w / 2 ^ (k + 1) = X % 2 ^ w / 2 ^ k / 2 := by rw [Nat.pow_succ, Nat.div_div_eq_div_mul]
  have e2 : X % 2 ^ w / 2 ^ k % 2 = X / 2 ^ k % 2 := by
    have e3 : 2 ^ w = 2 ^ k * 2 ^ (w - k) := by rw [← Nat.pow_add, Nat.add_sub_cancel' (by omega)]
    rw [e3, Nat.mod_mul_right_div_self, Nat.mod_mod_of_dvd]
    have := Nat.pow_dvd_pow 2 (show 1 ≤ w - k by omega)
    simpa using this
  rw [e1, ← e2]; omega
theorem bits_top (X w : Nat) : X % 2 ^ w / 2 ^ w = 0 := Nat.div_eq_of_lt (Nat.mod_lt _ (Nat.two_pow_pos w))
/-- One bit of the bytes. -/
theorem bit_at (l : List UInt8) (p : Nat) (h : p / 8 < l.length) : leN l / 2 ^ p % 2 = l[p / 8].toNat / 2 ^ (p % 8) % 2 := by
  have e : 2 ^ p = 256 ^ (p / 8) * 2 ^ (p % 8) := by
    rw [show (256 : Nat) = 2 ^ 8 by rfl, ← Nat.pow_mul, ← Nat.pow_add]; congr 1; omega
  rw [e, ← Nat.div_div_eq_div_mul, ← leN_get l (p / 8) h]
  generalize leN l / 256 ^ (p / 8) = Y
  have e3 : (256 : Nat) = 2 ^ (p % 8) * 2 ^ (8 - p % 8) := by rw [← Nat.pow_add, Nat.add_sub_cancel' (by omega)]
  rw [e3, Nat.mod_mul_right_div_self, Nat.mod_mod_of_dvd]
  have := Nat.pow_dvd_pow 2 (show 1 ≤ 8 - p % 8 by omega)
  simpa using this
theorem bit_zero_step (N p : Nat) (h : N / 2 ^ p % 2 = 0) : N / 2 ^ p = 0 ↔ N / 2 ^ (p + 1) = 0 := by
  rw [Nat.pow_succ, ← Nat.div_div_eq_div_mul]; omega
/-- One bit of the S bytes behind K1. -/
theorem bit_of {bs : List UInt8} {K1 S p : Nat} (hp : p < 8 * S) (hS : K1 + S ≤ bs.length) : leN ((bs.drop K1).take S) / 2 ^ p % 2 = (bs[K1 + p / 8]'(by omega)).toNat / 2 ^ (p % 8) % 2 := by
  rw [bit_at _ p (by rw [List.length_take, List.length_drop]; omega), List.getElem_take, List.getElem_drop]
/-- Place by place: no bit from T to p is set. -/
structure Clr (N T p : Nat) : Prop where
  le : T ≤ p
  eq : N / 2 ^ T = 0 ↔ N / 2 ^ p = 0
theorem clr_zero (N T : Nat) : Clr N T T := ⟨Nat.le_refl _, Iff.rfl⟩
theorem Clr.step {N T p : Nat} (h : Clr N T p) (hb : N / 2 ^ p % 2 = 0) : Clr N T (p + 1) := ⟨Nat.le_succ_of_le h.le, h.eq.trans (bit_zero_step N p hb)⟩
theorem Clr.set {N T p : Nat} (h : Clr N T p) (hb : N / 2 ^ p % 2 ≠ 0) : N / 2 ^ T ≠ 0 := fun h0 => by
  have := h.eq.1 h0; rw [this] at hb; exact hb rfl
theorem Clr.done {N T p S : Nat} (h : Clr N T p) (hp : p = 8 * S) (hN : N < 256 ^ S) : N / 2 ^ T = 0 := h.eq.2 (by
  rw [hp, Nat.pow_mul]; exact Nat.div_eq_of_lt hN)
/-- What Packed reads behind the count, case by case. -/
theorem pk_back {most : Int} {L : List UInt8} {n c : Nat} (hres : getUpto most L = .ok (n, c)) (hn0 : n ≠ 0) : getPk most L = match getPB n (L.drop c) with
    | .error e => .error e
    | .ok (r, j) => .ok (r, c + j) := by
  unfold getPk; rw [hres]; simp only [if_neg hn0]
  cases getPB n (L.drop c) with
  | error e => rfl
  | ok y => rfl
end Go.Proofs.YtmmflhippbegaaaDoor
