/- What a Reader answers, as functions of the bytes that are left. Errors by their numbers: 1 too short, 2 varint, 3 limit, 4 order, 8 range. No program occurs here. -/
import Derived.Test.YtfeldllcpeibcaaDoorRdN
import Derived.Test.YtfeldllcpeibcaaDoorPackN
namespace Go.Proofs.YtfeldllcpeibcaaDoor

def getB (l : List UInt8) : Except Nat (Nat × Nat) := match l with
  | [] => .error 1
  | x :: _ => .ok (x.toNat, 1)
def getUpto (most : Int) (l : List UInt8) : Except Nat (Nat × Nat) := match getU l with
  | .error n => .error n
  | .ok (u, k) => if most < u then .error 3 else .ok (u, k)
def getW (c : Nat) (l : List UInt8) : Except Nat (Nat × Nat) := if l.length < c then .error 1 else .ok (leN (l.take c), c)
def getRaw (n : Int) (l : List UInt8) : Except Nat (List UInt8 × Nat) :=
  if n < 0 then .error 8 else if (l.length : Int) < n then .error 1 else .ok (l.take n.toNat, n.toNat)
def getText (most : Int) (l : List UInt8) : Except Nat (List UInt8 × Nat) := match getUpto most l with
  | .error n => .error n
  | .ok (u, k) => if (l.drop k).length < u then .error 1 else .ok ((l.drop k).take u, k + u)
def getR : Nat → Int → List UInt8 → Except Nat (List Int × Nat)
  | 0, _, _ => .ok ([], 0)
  | n + 1, last, l => match getU l with
    | .error e => .error e
    | .ok (u, k) => if 9223372036854775806 - last < u then .error 3 else match getR n (last + u + 1) (l.drop k) with
      | .error e => .error e
      | .ok (r, j) => .ok ((last + u + 1) :: r, k + j)
def getRis (most : Int) (l : List UInt8) : Except Nat (List Int × Nat) := match getUpto most l with
  | .error n => .error n
  | .ok (n, k) => match getR n (-1) (l.drop k) with
    | .error e => .error e
    | .ok (r, j) => .ok (r, k + j)
/-- The numbers of n times w bits. -/
def unpack (w n N : Nat) : List Nat := (List.range n).map fun i => N / 2 ^ (w * i) % 2 ^ w
theorem unpack_length (w n N : Nat) : (unpack w n N).length = n := by simp [unpack]
theorem unpack_succ (w n N : Nat) : unpack w (n + 1) N = unpack w n N ++ [N / 2 ^ (w * n) % 2 ^ w] := by simp [unpack, List.range_succ]
theorem unpack_lt (w n N : Nat) : ∀ x ∈ unpack w n N, x < 2 ^ w := fun x hx => by
  obtain ⟨i, _, rfl⟩ := List.mem_map.1 hx
  exact Nat.mod_lt _ (Nat.two_pow_pos w)
/-- Behind the count n: the width, and the bits. -/
def getPB (n : Nat) (l : List UInt8) : Except Nat (List Nat × Nat) := match l with
  | [] => .error 1
  | x :: r =>
    if 63 < x.toNat ∨ (x.toNat = 0 ∧ 65536 < n) then .error 3
    else if 0 < x.toNat ∧ r.length * 8 / x.toNat < n then .error 1
    else if widL (unpack x.toNat n (leN (r.take ((n * x.toNat + 7) / 8)))) = x.toNat ∧ leN (r.take ((n * x.toNat + 7) / 8)) / 2 ^ (n * x.toNat) = 0
      then .ok (unpack x.toNat n (leN (r.take ((n * x.toNat + 7) / 8))), 1 + (n * x.toNat + 7) / 8)
    else .error 4
def getPk (most : Int) (l : List UInt8) : Except Nat (List Nat × Nat) := match getUpto most l with
  | .error n => .error n
  | .ok (n, k) => if n = 0 then .ok ([], k) else match getPB n (l.drop k) with
    | .error e => .error e
    | .ok (r, j) => .ok (r, k + j)

theorem getUpto_len {most : Int} {l : List UInt8} {u k : Nat} (h : getUpto most l = .ok (u, k)) : getU l = .ok (u, k) ∧ (u : Int) ≤ most := by
  unfold getUpto at h
  split at h
  · cases h
  · next u' k' e =>
    split at h
    · cases h
    · injection h with h
      injection h with h1 h2
      subst h1 h2
      exact ⟨e, by omega⟩
theorem packed_size {n w L : Nat} (hw : 0 < w) (h : ¬ L * 8 / w < n) : (n * w + 7) / 8 ≤ L := by
  have h1 : n ≤ L * 8 / w := by omega
  have h2 : n * w ≤ L * 8 := (Nat.le_div_iff_mul_le hw).1 h1
  omega
end Go.Proofs.YtfeldllcpeibcaaDoor
