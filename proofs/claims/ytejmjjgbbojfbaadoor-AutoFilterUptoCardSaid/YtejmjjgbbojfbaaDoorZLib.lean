/- Laws of memory and lists that no program occurs in: owned slices, what a call leaves alone, small facts on integers. -/
import Derived.WalkKit
import Derived.ProofKit
import Derived.OpenShut
import Derived.Lib.Hide
import Derived.Lib.BitFns
import Derived.Lib.MinMax
import Derived.Deep.OwnRows
import Derived.Deep.Draws
import Derived.Deep.DeepCutAuto
import Derived.Deep.QuietTactic
import Derived.BigQuiet
import Derived.StillTailTactics
import Derived.Deep.RegionLaw
namespace Go.Proofs.YtejmjjgbbojfbaaDoor
open Go.RowKit

theorem ret_int {k : IntKind} {a b : Int} (h : a = b) : Ending.returned (.int k a) = .returned (.int k b) := by rw [h]
theorem ret_bool {a b : Bool} (h : a = b) : Ending.returned (.bool a) = .returned (.bool b) := by rw [h]
theorem ret_val {a b : Value} (h : a = b) : Ending.returned a = .returned b := by rw [h]

/-! ### Numbers -/
theorem wrap64_nat (n : Nat) (h : n ≤ 9223372036854775807) : wrap64 (n : Int) = n := IntWalk.wrap64_in _ ⟨by omega, by omega⟩
theorem xor_i64 (a b : Int) : bits .xor .i64 a b = IntKind.i64.wrap (((BitVec.ofInt 64 a ^^^ BitVec.ofInt 64 b).toNat : Nat) : Int) := rfl
theorem wrap_i64_nat (n : Nat) (h : n < 18446744073709551616) : IntKind.i64.wrap (n : Int) = if n < 9223372036854775808 then (n : Int) else (n : Int) - 18446744073709551616 := by
  rw [IntKind.wrap_i64]; split <;> omega
theorem xor_ones (x : Int) (h0 : 0 ≤ x) (h1 : x ≤ 18446744073709551615) : bits .xor .u64 x 18446744073709551615 = 18446744073709551615 - x := by
  rw [u64_xor _ _ h0 (by omega) (by omega) (by omega)]
  have e : x.toNat ^^^ (18446744073709551615 : Int).toNat = 18446744073709551615 - x.toNat := by
    have hb : x.toNat < 2 ^ 64 := by omega
    apply Nat.eq_of_testBit_eq
    intro i
    rw [Nat.testBit_xor, show (18446744073709551615 : Int).toNat = 2 ^ 64 - 1 from rfl, Nat.testBit_two_pow_sub_one, show 18446744073709551615 - x.toNat = 2 ^ 64 - (x.toNat + 1) by omega, Nat.testBit_two_pow_sub_succ hb]
    by_cases hi : i < 64
    · simp [hi]
    · have : x.toNat.testBit i = false := Nat.testBit_lt_two_pow (Nat.lt_of_lt_of_le hb (Nat.pow_le_pow_right (by decide) (by omega)))
      simp [hi, this]
  rw [e]; omega
theorem xor_zero (x : Int) (h0 : 0 ≤ x) (h1 : x ≤ 18446744073709551615) : bits .xor .u64 x 0 = x := by
  rw [u64_xor _ _ h0 (by omega) (by omega) (by omega)]
  simp; omega

theorem bitLen_or1 (n : Nat) (h : n < 2 ^ 64) : Lib.bitLen (n ||| 1) = max 1 (Lib.bitLen n) := by
  have h2 : (n ||| 1) / 2 = n / 2 := by rw [Nat.or_div_two]; simp
  have h3 : n ||| 1 < 2 ^ 64 := Nat.or_lt_two_pow h (by decide)
  have h4 : n ||| 1 ≠ 0 := by simp
  by_cases h0 : n = 0
  · subst h0; decide
  · rw [Lib.bitLen_half _ h4 h3, Lib.bitLen_half _ h0 h, h2]; omega
theorem bitLen_small (n : Nat) (h : n < 128) : Lib.bitLen n ≤ 7 := Lib.bitLen_le n 7 (by decide) h
theorem bitLen_pos (n : Nat) (h0 : n ≠ 0) (h : n < 2 ^ 64) : 1 ≤ Lib.bitLen n := by rw [Lib.bitLen_half _ h0 h]; omega

/-- The bytes of a uvarint. -/
def uvar (n : Nat) : List UInt8 := if n < 128 then [UInt8.ofNat n] else UInt8.ofNat (128 + n % 128) :: uvar (n / 128)
termination_by n
decreasing_by omega
theorem uvar_small {n : Nat} (h : n < 128) : uvar n = [UInt8.ofNat n] := by rw [uvar, if_pos h]
theorem uvar_big {n : Nat} (h : ¬ n < 128) : uvar n = UInt8.ofNat (128 + n % 128) :: uvar (n / 128) := by rw [uvar, if_neg h]
theorem uvar_length : ∀ n : Nat, n < 2 ^ 64 → (uvar n).length = (Lib.bitLen (n ||| 1) + 6) / 7 := by
  intro n
  induction n using Nat.strongRecOn with
  | _ n ih =>
    intro hn
    rw [bitLen_or1 n hn]
    by_cases h : n < 128
    · have := bitLen_small n h
      rw [uvar_small h]
      simp only [List.length_cons, List.length_nil]
      by_cases h0 : n = 0
      · subst h0; decide
      · have := bitLen_pos n h0 hn; omega
    · rw [uvar_big h, List.length_cons, ih (n / 128) (by omega) (by omega), bitLen_or1 _ (by omega)]
      have e := Lib.bitLen_shift 7 n (by omega) hn
      have := bitLen_pos (n / 128) (by omega) (by omega)
      rw [e, show n / 2 ^ 7 = n / 128 by rfl]
      omega
theorem uvar_le (n : Nat) (h : n < 2 ^ 64) : 1 ≤ (uvar n).length ∧ (uvar n).length ≤ 10 := by
  have := Lib.bitLen_le n 64 (by decide) h
  rw [uvar_length n h, bitLen_or1 n h]; omega

/-- Bytes as cells. -/
def bytesV (l : List UInt8) : List Value := l.map fun (b : UInt8) => Value.int .u8 ((b.toNat : Nat) : Int)
theorem bytesV_append (a b : List UInt8) : bytesV (a ++ b) = bytesV a ++ bytesV b := by simp [bytesV]
theorem bytesV_length (a : List UInt8) : (bytesV a).length = a.length := by simp [bytesV]
theorem bytesV_one (l : List UInt8) : ∀ u ∈ bytesV l, u.oneCell' = true := by
  intro u hu
  obtain ⟨k, _, rfl⟩ := List.mem_map.1 hu
  rfl
theorem bytesV_snoc (l : List UInt8) (x : UInt8) : bytesV (l ++ [x]) = bytesV l ++ [.int .u8 ((x.toNat : Nat) : Int)] := by simp [bytesV]
theorem bytesV_get (l : List UInt8) (j : Nat) (h : j < l.length) : (bytesV l)[j]? = some (.int .u8 ((l[j].toNat : Nat) : Int)) := by simp [bytesV, h]
theorem bytesV_take (l : List UInt8) (n : Nat) : bytesV (l.take n) = (bytesV l).take n := by simp [bytesV, List.map_take]
theorem bytesV_drop (l : List UInt8) (n : Nat) : bytesV (l.drop n) = (bytesV l).drop n := by simp [bytesV, List.map_drop]
theorem u8_ofNat (n : Nat) : ((UInt8.ofNat n).toNat : Int) = (n : Int) % 256 := by simp
/-- A text of bytes. -/
def strOf (l : List UInt8) : ByteArray := ⟨l.toArray⟩
theorem strOf_toList (l : List UInt8) : (strOf l).toList = l := ByteArray.toList_mk l
theorem strOf_size (l : List UInt8) : (strOf l).size = l.length := by simp [strOf, ByteArray.size]
theorem strOf_append (a b : List UInt8) : strOf a ++ strOf b = strOf (a ++ b) := by
  have h : (strOf a ++ strOf b).data = (strOf (a ++ b)).data := by rw [ByteArray.data_append]; simp [strOf]
  cases hx : (strOf a ++ strOf b) with | mk d => rw [hx] at h; cases hy : strOf (a ++ b) with | mk d2 => rw [hy] at h; simp at h; rw [h]

/-- The facts on a slice type t with elements e of one cell. -/
structure Elem (P : Program) (t e : TypeId) (z : Value) (bytes : Nat) : Prop where
  und : P.underlying t = some (.slice e)
  info : (P.info? e).map (fun i => (i.zero, i.size, i.bytes)) = some (some z, 1, bytes)
  zc : z.cells.size = 1
  sm : bytes ≤ 100

/-- v is a slice over a block of elements e (a block from base on, not frozen; the slice begins at its head), and it holds just xs. -/
def Own (w : World) (base : Nat) (e : TypeId) (v : Value) (xs : List Value) : Prop :=
  (v = .slice none 0 0 ∧ xs = []) ∨
  ∃ g cap cur, v = .slice (some ⟨g, 0, none⟩) xs.length cap ∧ base ≤ g ∧ w.heap[g]? = some (.cells cur e (0, 0)) ∧ xs.length ≤ cap ∧ cap ≤ cur.size ∧ cap ≤ maxLen ∧ cur.toList.take xs.length = xs

/-- v is a slice that reads xs (elements of one cell), wherever it lies. -/
def Rd (w : World) (v : Value) (xs : List Value) : Prop :=
  ∃ A c, v = .slice A xs.length c ∧ xs.length ≤ c ∧ (0 < xs.length → ∃ b o, A = some ⟨b, o, none⟩ ∧ ∀ j x, xs[j]? = some x → w.cell? ⟨b, o + j, none⟩ = some x)

theorem addr_add (b o j : Nat) : (⟨b, o, none⟩ : Addr).add j = ⟨b, o + j, none⟩ := by unfold Addr.add; split <;> simp_all
theorem lt_of_heap {w : World} {g : Nat} {o : Obj} (h : w.heap[g]? = some o) : g < w.heap.size := (Array.getElem?_eq_some_iff.1 h).1

section
variable {w w' : World} {base : Nat} {e : TypeId} {v : Value} {xs : List Value}
theorem own_nil (w : World) (base : Nat) (e : TypeId) : Own w base e (.slice none 0 0) [] := .inl ⟨rfl, rfl⟩
theorem own_of_row {n : Nat} (h : w.ownsRow base e 1 v n xs) : Own w base e v xs := by
  obtain ⟨hl, h⟩ := h
  rw [Nat.mul_one] at hl
  subst hl
  rcases h with ⟨hv, h0⟩ | ⟨g, cap, cur, hv, hg, hh, h1, h2, h3, h4⟩
  · exact .inl ⟨hv, List.eq_nil_of_length_eq_zero h0⟩
  · exact .inr ⟨g, cap, cur, hv, hg, hh, h1, by omega, h2, by simpa using h4⟩
/-- []T{}: an empty list of the call's own. -/
theorem own_empty (w : World) (base : Nat) (e : TypeId) (h : base ≤ w.heap.size) : Own (w.alloc (.cells #[] e)) base e (.slice (some ⟨w.heap.size, 0, none⟩) 0 0) [] :=
  .inr ⟨w.heap.size, 0, #[], rfl, h, heap_alloc_new w _, Nat.le_refl _, Nat.le_refl _, by decide, rfl⟩
theorem own_lit (w : World) (base : Nat) (e : TypeId) (l : List Value) (h : base ≤ w.heap.size) (hl : l.length ≤ maxLen) : Own (w.alloc (.cells l.toArray e)) base e (.slice (some ⟨w.heap.size, 0, none⟩) l.length l.length) l :=
  .inr ⟨w.heap.size, l.length, l.toArray, rfl, h, heap_alloc_new w _, Nat.le_refl _, by simp, hl, by simp⟩
theorem own_one (w : World) (base : Nat) (e : TypeId) (x : Value) (h : base ≤ w.heap.size) : Own (w.alloc (.cells #[x] e)) base e (.slice (some ⟨w.heap.size, 0, none⟩) 1 1) [x] :=
  own_lit w base e [x] h (by simp [maxLen])

theorem Own.kept {row : Option Nat} (h : Own w base e v xs) (hg : w.grownBy w' row) (hne : v.ownBlock = none ∨ v.ownBlock ≠ row) : Own w' base e v xs := by
  rcases h with h | ⟨g, cap, cur, rfl, hb, hh, r⟩
  · exact .inl h
  · exact .inr ⟨g, cap, cur, rfl, hb, (hg.block g (lt_of_heap hh) (by simpa [Value.ownBlock] using hne)).trans hh, r⟩
theorem Own.alloc (h : Own w base e v xs) (o : Obj) : Own (w.alloc o) base e v xs :=
  h.kept (World.grownBy_alloc w o none) (by cases hv : v.ownBlock <;> simp)
theorem Own.drew (h : Own w base e v xs) : Own w.drew base e v xs := h
theorem Own.drewN (h : Own w base e v xs) (n : Nat) : Own (w.drewN n) base e v xs := h
theorem Own.lt (h : Own w base e v xs) : ∀ k, v.ownBlock = some k → base ≤ k ∧ k < w.heap.size := by
  intro k hk
  rcases h with ⟨rfl, _⟩ | ⟨g, cap, cur, rfl, hb, hg, _⟩
  · simp [Value.ownBlock] at hk
  · simp [Value.ownBlock] at hk
    subst hk
    exact ⟨hb, lt_of_heap hg⟩
theorem own_slice (h : Own w base e v xs) : ∃ a c, v = .slice a xs.length c := by
  rcases h with ⟨rfl, rfl⟩ | ⟨g, cap, cur, hv, _⟩
  · exact ⟨none, 0, rfl⟩
  · exact ⟨_, _, hv⟩
theorem own_sl (h : Own w base e v xs) : ∃ a n c, v = .slice a n c := by obtain ⟨a, c, h⟩ := own_slice h; exact ⟨a, _, c, h⟩
theorem take_get {cur : Array Value} {xs : List Value} (ht : cur.toList.take xs.length = xs) {j : Nat} {x : Value} (hx : xs[j]? = some x) : cur[j]? = some x := by
  rw [← ht, List.getElem?_take] at hx
  split at hx
  · simpa using hx
  · cases hx
/-- The shape of an owned value. -/
theorem Own.shape (h : Own w base e v xs) :
    (v = .slice none 0 0 ∧ xs = []) ∨ ∃ g cap, v = .slice (some ⟨g, 0, none⟩) xs.length cap ∧ base ≤ g ∧ g < w.heap.size ∧ xs.length ≤ cap ∧ cap ≤ maxLen ∧ ∀ j x, xs[j]? = some x → w.cell? ⟨g, j, none⟩ = some x := by
  rcases h with h | ⟨g, cap, cur, hv, hb, hg, hn, hc, hm, ht⟩
  · exact .inl h
  · exact .inr ⟨g, cap, hv, hb, lt_of_heap hg, hn, hm, fun j x hx => by rw [cell_of_row _ _ _ _ _ _ hg]; exact take_get ht hx⟩
/-- An owned list that is not empty: its place, and its cells. -/
theorem Own.pos (h : Own w base e v xs) (hn : 0 < xs.length) :
    ∃ g cap, v = .slice (some ⟨g, 0, none⟩) xs.length cap ∧ base ≤ g ∧ g < w.heap.size ∧ xs.length ≤ cap ∧ cap ≤ maxLen ∧ ∀ j x, xs[j]? = some x → w.cell? ⟨g, j, none⟩ = some x := by
  rcases h.shape with ⟨_, h0⟩ | h1
  · rw [h0] at hn; simp at hn
  · exact h1
theorem Own.rd (h : Own w base e v xs) : Rd w v xs := by
  rcases h.shape with ⟨rfl, rfl⟩ | ⟨g, cap, hv, _, _, hc, _, hcells⟩
  · exact ⟨none, 0, rfl, Nat.le_refl _, fun h => by simp at h⟩
  · exact ⟨_, _, hv, hc, fun _ => ⟨g, 0, rfl, fun j x hx => by rw [Nat.zero_add]; exact hcells j x hx⟩⟩
theorem Own.below {B : Nat} (h : Own w base e v xs) (hb : Below B w w') (hB : w.heap.size ≤ B) : Own w' base e v xs := by
  rcases h with h | ⟨g, cap, cur, hv, hg, hh, r⟩
  · exact .inl h
  · exact .inr ⟨g, cap, cur, hv, hg, (hb.block g (Nat.lt_of_lt_of_le (lt_of_heap hh) hB)).trans hh, r⟩
theorem own_base {base' : Nat} (h : Own w base e v xs) (hb : base' ≤ base) : Own w base' e v xs := by
  rcases h with h | ⟨g, cap, cur, hv, hg, r⟩
  · exact .inl h
  · exact .inr ⟨g, cap, cur, hv, Nat.le_trans hb hg, r⟩
theorem own_last {k : IntKind} {x y : Int} (h : Own w base e v (xs ++ [.int k x])) (hx : x = y) : Own w base e v (xs ++ [.int k y]) := by
  rw [← hx]; exact h
theorem own_to {ys : List Value} (h : Own w base e v xs) (hx : xs = ys) : Own w base e v ys := by rw [← hx]; exact h
end

theorem Own.set {w : World} {base : Nat} {e : TypeId} {g n c : Nat} {xs : List Value} (h : Own w base e (.slice (some ⟨g, 0, none⟩) n c) xs) (j : Nat) (u : Value) :
    Own (w.setCell ⟨g, j, none⟩ u) base e (.slice (some ⟨g, 0, none⟩) n c) (xs.set j u) := by
  rcases h with ⟨h, _⟩ | ⟨g', cap, cur, hv, hb, hh, h1, h2, h3, h4⟩
  · cases h
  · injection hv with e1 e2 e3
    injection e1 with e1
    injection e1 with e1
    subst e1 e2 e3
    refine .inr ⟨g, c, cur.setIfInBounds j u, by rw [List.length_set], hb, ?_, by rw [List.length_set]; exact h1, by simpa using h2, h3, ?_⟩
    · simp [World.setCell, Array.getElem?_modify, hh]
    · rw [List.length_set, Array.toList_setIfInBounds, List.take_set, h4]
theorem Own.frozen {w : World} {base : Nat} {e : TypeId} {g n c : Nat} {xs : List Value} (h : Own w base e (.slice (some ⟨g, 0, none⟩) n c) xs) (j : Nat) : w.frozen? ⟨g, j, none⟩ = false := by
  rcases h with ⟨h, _⟩ | ⟨g', cap, cur, hv, hb, hh, _⟩
  · cases h
  · injection hv with e1 e2 e3
    injection e1 with e1
    injection e1 with e1
    subst e1
    simp [World.frozen?, hh]
theorem Own.get {w : World} {base : Nat} {e : TypeId} {g n c : Nat} {xs : List Value} (h : Own w base e (.slice (some ⟨g, 0, none⟩) n c) xs) {j : Nat} {x : Value} (hx : xs[j]? = some x) : w.cell? ⟨g, j, none⟩ = some x := by
  rcases h.shape with ⟨h, _⟩ | ⟨g', cap, hv, _, _, _, _, hc⟩
  · cases h
  · injection hv with e1 e2 e3
    injection e1 with e1
    injection e1 with e1
    subst e1
    exact hc j x hx
theorem own_take {w : World} {base : Nat} {e : TypeId} {g N c : Nat} {xs : List Value} (h : Own w base e (.slice (some ⟨g, 0, none⟩) N c) xs) {n : Nat} (hn : n ≤ xs.length) : Own w base e (.slice (some ⟨g, 0, none⟩) n c) (xs.take n) := by
  rcases h with ⟨h, _⟩ | ⟨g', cap, cur, hv, hb, hh, h1, h2, h3, h4⟩
  · cases h
  · injection hv with e1 e2 e3
    injection e1 with e1
    injection e1 with e1
    subst e1 e2 e3
    refine .inr ⟨g, c, cur, by rw [List.length_take, Nat.min_eq_left hn], hb, hh, by rw [List.length_take]; omega, h2, h3, ?_⟩
    rw [List.length_take, Nat.min_eq_left hn]
    conv => rhs; rw [← h4]
    rw [List.take_take, Nat.min_eq_left hn]
theorem own_cap {w : World} {base : Nat} {e : TypeId} {a : Option Addr} {n c : Nat} {xs : List Value} (h : Own w base e (.slice a n c) xs) : n ≤ c ∧ c ≤ maxLen := by
  rcases h with ⟨h, _⟩ | ⟨g', cap, cur, hv, hb, hh, h1, h2, h3, h4⟩
  · injection h with e1 e2 e3; subst e2 e3; exact ⟨Nat.le_refl _, by decide⟩
  · injection hv with e1 e2 e3; subst e2 e3; exact ⟨h1, h3⟩
/-- A slice that owns something lies somewhere. -/
theorem Own.someAt {w : World} {base : Nat} {e : TypeId} {a : Option Addr} {n c : Nat} {xs : List Value} (h : Own w base e (.slice a n c) xs) (hn : 0 < n) : ∃ g, a = some ⟨g, 0, none⟩ := by
  rcases h with ⟨h, _⟩ | ⟨g', cap, cur, hv, _⟩
  · injection h with e1 e2 e3; omega
  · injection hv with e1; exact ⟨g', e1⟩
theorem Own.len {w : World} {base : Nat} {e : TypeId} {a : Option Addr} {n c : Nat} {xs : List Value} (h : Own w base e (.slice a n c) xs) : n = xs.length := by
  rcases h with ⟨h, rfl⟩ | ⟨g', cap, cur, hv, _⟩
  · injection h
  · injection hv
theorem Own.setOther {w : World} {base : Nat} {e : TypeId} {v : Value} {xs : List Value} (h : Own w base e v xs) {p : Addr} (hp : v.ownBlock ≠ some p.block) (u : Value) : Own (w.setCell p u) base e v xs := by
  rcases h with h | ⟨g, cap, cur, rfl, hb, hh, r⟩
  · exact .inl h
  · exact .inr ⟨g, cap, cur, rfl, hb, (Below.heap_setCell w p u g (fun e => hp (by simp [Value.ownBlock, e]))).trans hh, r⟩
/-- A block of another kind of elements is no block of an owned list. -/
theorem Own.ne_type {w : World} {base : Nat} {e t : TypeId} {v : Value} {xs : List Value} {g : Nat} {cs : Array Value} {fr : Nat × Nat} (h : Own w base e v xs) (hg : w.heap[g]? = some (.cells cs t fr)) (hne : e ≠ t) : v.ownBlock ≠ some g := by
  rcases h with ⟨rfl, _⟩ | ⟨g', cap, cur, rfl, _, hh, _⟩
  · simp [Value.ownBlock]
  · intro he
    have he' : g' = g := by simpa [Value.ownBlock] using he
    subst he'
    rw [hh] at hg
    injection hg with hg
    injection hg with _ ht
    exact hne ht

theorem own_types {w : World} {b b' : Nat} {e e' : TypeId} {v v' : Value} {xs xs' : List Value} (h : Own w b e v xs) (h' : Own w b' e' v' xs') (hne : e ≠ e') {k : Nat} (hk : v.ownBlock = some k) : v'.ownBlock ≠ some k := by
  rcases h' with ⟨rfl, _⟩ | ⟨g', cap, cur, rfl, _, hh, _⟩
  · simp [Value.ownBlock]
  · intro he
    have he' : g' = k := by simpa [Value.ownBlock] using he
    subst he'
    exact h.ne_type hh hne hk

theorem blk_set {w : World} {p : Nat} {cs : Array Value} {t : TypeId} {fr : Nat × Nat} (h : w.heap[p]? = some (.cells cs t fr)) (i : Nat) (u : Value) : (w.setCell ⟨p, i, none⟩ u).heap[p]? = some (.cells (cs.setIfInBounds i u) t fr) := by
  simp [World.setCell, Array.getElem?_modify, h]
theorem blk_cell {w : World} {p : Nat} {cs : Array Value} {t : TypeId} {fr : Nat × Nat} (h : w.heap[p]? = some (.cells cs t fr)) (i : Nat) : w.cell? ⟨p, i, none⟩ = cs[i]? := cell_of_row _ _ _ _ _ _ h
theorem blk_frozen {w : World} {p : Nat} {cs : Array Value} {t : TypeId} (h : w.heap[p]? = some (.cells cs t (0, 0))) (i : Nat) : w.frozen? ⟨p, i, none⟩ = false := by simp [World.frozen?, h]

theorem below_drewN {B : Nat} {a w : World} (h : Below B a w) (n : Nat) : Below B a (w.drewN n) := ⟨h.os, h.tape, h.output, h.size, h.block⟩

/-- string(v), v a list of bytes that reads. -/
theorem run_str {P : Program} {src e dst : TypeId} (hs : P.underlying src = some (.slice e)) (he : P.underlying e = some (.int .u8)) (hd : P.underlying dst = some .string) {w : World} {v : Value} {bs : List UInt8} (h : Rd w v (bytesV bs)) :
    (convert src dst v).run P w = .ok (.string (strOf bs)) w := by
  obtain ⟨A, c, rfl, _, hr⟩ := h
  rcases Nat.eq_zero_or_pos bs.length with h0 | h0
  · have hb : bs = [] := List.eq_nil_of_length_eq_zero h0
    subst hb
    cases A with
    | none => exact run_convert_bytes_nil w src e hs he _ c dst hd
    | some ad =>
      rw [run_convert_bytes_string w src dst e _ _ c hs he hd]
      rw [show ((bytesV []).length) = ([] : List Int).length from rfl, run_bytesToString w _ _ c [] rfl]
      rfl
  · obtain ⟨b, o, rfl, hc⟩ := hr (by rw [bytesV_length]; exact h0)
    have := run_convert_bytes_arg (P := P) w src e hs he b o bs.length c (bs.map fun x => (x.toNat : Int)) (by simp) (fun i hi => by
      rw [hc i _ (bytesV_get bs i hi)]
      simp [List.getD, hi]) dst hd
    rw [bytesV_length, this]
    have e : (bs.map fun x => (x.toNat : Int)).map (fun n => UInt8.ofNat n.toNat) = bs := by
      rw [List.map_map]
      conv => rhs; rw [← List.map_id bs]
      exact List.map_congr_left fun x _ => by simp
    unfold strOfNums strOf
    rw [e]

/-! ### What a call leaves alone: all old blocks but those of F -/
structure Eff (F : Nat → Prop) (w w' : World) : Prop where
  os : w'.os = w.os
  tape : w'.tape = w.tape
  output : w'.output = w.output
  size : w.heap.size ≤ w'.heap.size
  block : ∀ k, k < w.heap.size → ¬ F k → w'.heap[k]? = w.heap[k]?
section
variable {F G : Nat → Prop} {a b c w w' : World}
theorem Eff.refl (F : Nat → Prop) (w : World) : Eff F w w := ⟨rfl, rfl, rfl, Nat.le_refl _, fun _ _ _ => rfl⟩
theorem Eff.trans (h : Eff F a b) (k : Eff G b c) (hG : ∀ i, G i → i < a.heap.size → F i) : Eff F a c :=
  ⟨k.os.trans h.os, k.tape.trans h.tape, k.output.trans h.output, Nat.le_trans h.size k.size,
    fun i hi hn => (k.block i (Nat.lt_of_lt_of_le hi h.size) (fun g => hn (hG i g hi))).trans (h.block i hi hn)⟩
theorem Eff.mono (h : Eff G a b) (hG : ∀ i, G i → i < a.heap.size → F i) : Eff F a b := ⟨h.os, h.tape, h.output, h.size, fun i hi hn => h.block i hi fun g => hn (hG i g hi)⟩
theorem Eff.grown {row : Option Nat} (h : Eff F a b) (k : b.grownBy c row) (hr : ∀ i, row = some i → i < a.heap.size → F i) : Eff F a c :=
  h.trans (G := fun i => row = some i) ⟨k.os, k.tape, k.output, k.size, fun i hi hn => k.block i hi (fun e => hn e.symm)⟩ hr
theorem Eff.of_below (h : Below a.heap.size a b) (F : Nat → Prop) : Eff F a b := ⟨h.os, h.tape, h.output, h.size, fun i hi _ => h.block i hi⟩
theorem Eff.below {B : Nat} (h : Eff F a b) (hF : ∀ i, F i → B ≤ i) (hB : B ≤ a.heap.size) : Below B a b :=
  ⟨h.os, h.tape, h.output, h.size, fun k hk => h.block k (by omega) (fun f => by have := hF k f; omega)⟩
theorem Eff.alloc (h : Eff F a w) (o : Obj) : Eff F a (w.alloc o) :=
  ⟨h.os, h.tape, h.output, Nat.le_trans h.size (by simp), fun i hi hn => (Below.heap_alloc w o i (Nat.lt_of_lt_of_le hi h.size)).trans (h.block i hi hn)⟩
theorem Eff.drew (h : Eff F a w) : Eff F a w.drew := ⟨h.os, h.tape, h.output, h.size, h.block⟩
theorem Eff.drewN (h : Eff F a w) (n : Nat) : Eff F a (w.drewN n) := ⟨h.os, h.tape, h.output, h.size, h.block⟩
theorem Eff.setCell (h : Eff F a w) {p : Addr} (hp : p.block < a.heap.size → F p.block) (u : Value) : Eff F a (w.setCell p u) :=
  ⟨h.os, h.tape, h.output, by simpa [World.setCell] using h.size, fun i hi hn => (Below.heap_setCell w p u i (by rintro rfl; exact hn (hp hi))).trans (h.block i hi hn)⟩
theorem Eff.cell (h : Eff F w w') {p : Addr} (hp : ¬ F p.block) {u : Value} (hc : w.cell? p = some u) : w'.cell? p = some u :=
  (World.cell?_of_block (h.block p.block (World.block_lt_of_cell? w p hc) hp)).trans hc
theorem Own.eff {base : Nat} {e : TypeId} {v : Value} {xs : List Value} (h : Own w base e v xs) (hb : Eff F w w') (hF : ∀ k, v.ownBlock = some k → ¬ F k) : Own w' base e v xs := by
  rcases h with h | ⟨g, cap, cur, rfl, hg, hh, r⟩
  · exact .inl h
  · exact .inr ⟨g, cap, cur, rfl, hg, (hb.block g (lt_of_heap hh) (hF g rfl)).trans hh, r⟩
theorem Rd.eff {v : Value} {xs : List Value} (h : Rd w v xs) (hb : Eff F w w') (hF : ∀ b o l c, v = .slice (some ⟨b, o, none⟩) l c → ¬ F b) : Rd w' v xs := by
  obtain ⟨A, c, rfl, hc, h⟩ := h
  refine ⟨A, c, rfl, hc, fun hn => ?_⟩
  obtain ⟨b, o, rfl, hcell⟩ := h hn
  exact ⟨b, o, rfl, fun j x hx => hb.cell (hF b o _ _ rfl) (hcell j x hx)⟩
theorem Rd.below {B : Nat} {v : Value} {xs : List Value} (h : Rd w v xs) (hb : Below B w w') (hB : w.heap.size ≤ B) : Rd w' v xs := by
  obtain ⟨A, c, rfl, hc, h⟩ := h
  refine ⟨A, c, rfl, hc, fun hn => ?_⟩
  obtain ⟨b, o, rfl, hcell⟩ := h hn
  refine ⟨b, o, rfl, fun j x hx => ?_⟩
  have hx' := hcell j x hx
  rw [hb.cell (by have := World.block_lt_of_cell? w _ hx'; exact Nat.lt_of_lt_of_le this hB)]; exact hx'
end

/-! ### append -/
theorem app_new {w : World} {base : Nat} {e : TypeId} (z : Value) (hzs : z.cells.size = 1) (l : List Value) (n : Nat) (old : Nat) (hn : l.length = n) (h63 : n ≤ maxLen) (hbase : base ≤ w.heap.size) :
    Own (w.drew.alloc (.cells (l.toArray ++ Builtin.zeroCells z.cells (grownCap w n old e - n)) e)) base e (.slice (some ⟨w.heap.size, 0, none⟩) n (grownCap w n old e)) l := by
  subst hn
  have hge := grownCap_ge w l.length old e
  have hcm : grownCap w l.length old e ≤ maxLen := grownCap_le_maxLen w l.length old e h63
  refine .inr ⟨w.heap.size, _, _, rfl, hbase, heap_alloc_new w.drew _, hge, ?_, hcm, ?_⟩
  · simp only [Array.size_append, List.size_toArray, size_zeroCells, hzs]; omega
  · simp only [Array.toList_append]; exact List.take_left
theorem below_new (w : World) (o : Obj) : Below w.heap.size w (w.drew.alloc o) := ((Below.refl _ w).drew).alloc (Nat.le_refl _) o

/-- From w to w' every owned list reads as before, where it does not reach beyond the first n places of v's block. -/
def Keeps (w w' : World) (v : Value) (n : Nat) : Prop := ∀ (base : Nat) (e : TypeId) (y : Value) (ys : List Value), Own w base e y ys → (∀ k, v.ownBlock = some k → y.ownBlock = some k → ys.length ≤ n) → Own w' base e y ys
theorem keeps_below {w w' : World} (h : Below w.heap.size w w') (v : Value) (n : Nat) : Keeps w w' v n := fun _ _ _ _ ho _ => ho.below h (Nat.le_refl _)

/-- append(v, src...): v as 'Own' has it, src whatever reads. The old value reads as before; the new one lies where it lay, or in a new block. -/
theorem run_app {P : Program} {t e : TypeId} {z : Value} {bytes : Nat} (E : Elem P t e z bytes) {w : World} {base : Nat} {v s : Value} {xs news : List Value} (ty : TypeId)
    (hown : Own w base e v xs) (hs : Rd w s news) (h1 : ∀ u ∈ news, u.oneCell' = true) (hlen : xs.length + news.length < 1000000000001) (hbase : base ≤ w.heap.size) :
    ∃ v' w', (Builtin.append_ #[t, t] ty #[v, s]).run P w = .ok v' w' ∧ Own w' base e v' (xs ++ news) ∧ Keeps w w' v xs.length ∧ w.grownBy w' v.ownBlock ∧
      (v'.ownBlock = v.ownBlock ∨ (v'.ownBlock = some w.heap.size ∧ Below w.heap.size w w')) := by
  obtain ⟨i, hi, hz0, hz1, hz2⟩ := info_parts E.info
  have hbytes : (xs.length + news.length) * bytes ≤ 140737488355328 := Nat.le_trans (Nat.mul_le_mul (show xs.length + news.length ≤ 1000000000000 by omega) E.sm) (by decide)
  have h63 : xs.length + news.length ≤ maxLen := by unfold maxLen; omega
  obtain ⟨A, c, rfl, _, hr⟩ := hs
  rcases List.eq_nil_or_concat news with rfl | ⟨n0, x0, hne⟩
  · -- nothing is appended
    refine ⟨v, w, ?_, by simpa using hown, fun _ _ _ _ h _ => h, World.grownBy.refl w _, .inl rfl⟩
    rcases hown with ⟨rfl, rfl⟩ | ⟨g, cap, cur, rfl, _, hg, hnc, hcs, _, ht⟩
    · cases A <;> simp [Builtin.append_, run_underlying E.und, sizeOf, typeInfo, hi, Builtin.lenOf, Builtin.firstCells, loadCells, loadCellsFrom]
    · cases A <;> simp [Builtin.append_, run_underlying E.und, sizeOf, typeInfo, hi, Builtin.lenOf, Builtin.firstCells, hnc, storeCells, loadCells, loadCellsFrom]
  · have hpos : 0 < news.length := by rw [hne]; simp
    clear hne n0 x0
    obtain ⟨b, o, rfl, hcell⟩ := hr hpos
    have hl : news.length = news.length * i.size := by rw [hz1]; omega
    have hnews : ∀ j u, news[j]? = some u → w.cell? ((⟨b, o, none⟩ : Addr).add j) = some u := fun j u hu => by rw [addr_add]; exact hcell j u hu
    have hmax : ∀ n, n ≤ maxLen → (n : Int) ≤ 9223372036854775807 := fun n h => by simp only [maxLen] at h; omega
    rcases hown with ⟨rfl, rfl⟩ | ⟨g, cap, cur, rfl, hbg, hg, hnc, hcs, hcm, ht⟩
    · have hrun := run_append_nil (P := P) w t ty e i z E.und hi hz0 ⟨b, o, none⟩ news.length c news hl hnews hpos (hmax _ (by simpa using h63)) (by rw [hz2]; simp at hbytes; omega)
      refine ⟨_, _, hrun, ?_, keeps_below (below_new w _) _ _, ?_, .inr ⟨rfl, below_new w _⟩⟩
      · rw [List.nil_append]; exact app_new z E.zc news news.length 0 rfl (by simpa using h63) hbase
      · have := below_new w (.cells (news.toArray ++ Builtin.zeroCells z.cells (grownCap w news.length 0 e - news.length)) e)
        exact ⟨this.os, this.tape, this.output, this.size, fun k hk _ => this.block k hk⟩
    · by_cases hroom : xs.length + news.length ≤ cap
      · have hrun := run_append_room (P := P) w t ty e i E.und hi g xs.length cap cur hg ⟨b, o, none⟩ news.length c news hl hnews h1 hroom (by rw [hz1]; omega)
        rw [hz1, Nat.mul_one] at hrun
        have hrow := setRow_heap w g cur (cur.toList.take xs.length ++ news ++ cur.toList.drop (xs.length + news.length)).toArray e (0, 0) hg
        have hsz : (cur.toList.take xs.length ++ news ++ cur.toList.drop (xs.length + news.length)).toArray.size = cur.size := by
          simp only [List.size_toArray, List.length_append, List.length_take, List.length_drop, Array.length_toList]; omega
        refine ⟨_, _, hrun, .inr ⟨g, cap, _, by rw [List.length_append], hbg, hrow, by rw [List.length_append]; exact hroom, by rw [hsz]; exact hcs, hcm, ?_⟩, ?_,
          ⟨rfl, rfl, rfl, by simp, fun k _ hk => setRow_other w g k _ (fun e => hk (by simp [Value.ownBlock, e]))⟩, .inl rfl⟩
        · rw [ht]; exact List.take_left
        · intro base' e' y ys hy hk
          rcases hy with hy | ⟨g', cap', cur', rfl, hb', hh', k1, k2, k3, k4⟩
          · exact .inl hy
          · by_cases eg : g' = g
            · subst eg
              rw [hg] at hh'
              injection hh' with hh'
              injection hh' with e1 e2
              subst e1 e2
              have hle := hk g' rfl rfl
              refine .inr ⟨g', cap', _, rfl, hb', hrow, k1, by rw [hsz]; exact k2, k3, ?_⟩
              rw [List.append_assoc, List.take_append_of_le_length (by have hcl : cur.toList.length = cur.size := Array.length_toList; rw [List.length_take]; omega), List.take_take, Nat.min_eq_left hle, k4]
            · exact .inr ⟨g', cap', cur', rfl, hb', (setRow_other w g g' _ eg).trans hh', k1, k2, k3, k4⟩
      · have holds : ∀ j u, xs[j]? = some u → w.cell? ((⟨g, 0, none⟩ : Addr).add j) = some u := fun j u hu => by
          rw [addr_add, Nat.zero_add, cell_of_row _ _ _ _ _ _ hg]; exact take_get ht hu
        have hrun := run_append_grow (P := P) w t ty e i z E.und hi hz0 ⟨g, 0, none⟩ xs.length cap xs (by rw [hz1]; omega) holds ⟨b, o, none⟩ news.length c news hl hnews (by omega) (hmax _ h63) (by rw [hz2]; exact growslice_fits (by omega) hbytes)
        have hn := app_new (w := w) (base := base) (e := e) z E.zc (xs ++ news) (xs.length + news.length) cap (by simp) h63 hbase
        rw [show (xs ++ news).toArray = xs.toArray ++ news.toArray by simp] at hn
        refine ⟨_, _, hrun, hn, keeps_below (below_new w _) _ _, ?_, .inr ⟨rfl, below_new w _⟩⟩
        · have := below_new w (.cells (xs.toArray ++ news.toArray ++ Builtin.zeroCells z.cells (grownCap w (xs.length + news.length) cap e - (xs.length + news.length))) e)
          exact ⟨this.os, this.tape, this.output, this.size, fun k hk _ => this.block k hk⟩

theorem wp_app {P : Program} {t e : TypeId} {z : Value} {bytes : Nat} (E : Elem P t e z bytes) {w : World} {base : Nat} {v s : Value} {xs news : List Value}
    (hown : Own w base e v xs) (hs : Rd w s news) (h1 : ∀ u ∈ news, u.oneCell' = true) (hlen : xs.length + news.length < 1000000000001) (hbase : base ≤ w.heap.size)
    {o : Oper} {a : Act} {K : Act → World → Prop} {Q : Exit → Act → World → Prop} (x y : Operand)
    (ho : o.op = .call { callee := .builtin .append, args := #[x, y], argTypes := #[t, t] }) (hx : a.eval x = v) (hy : a.eval y = s)
    (h : ∀ v' w', Own w' base e v' (xs ++ news) → Keeps w w' v xs.length → w.grownBy w' v.ownBlock → (v'.ownBlock = v.ownBlock ∨ (v'.ownBlock = some w.heap.size ∧ Below w.heap.size w w')) → K (a.put o.dst v') w') : o.wp P a w K Q := by
  obtain ⟨v', w', hr, h2, h3, h4, h5⟩ := run_app E o.type hown hs h1 hlen hbase
  unfold Oper.wp execOp
  simp only [ho, resolve, invoke, builtin, Sem.run_bind, Sem.run_pure, Result.andThen_ok, List.map_toArray, List.map_cons, List.map_nil, hx, hy, hr]
  exact h v' w' h2 h3 h4 h5

/-- append(v, x): x lies in a new block of its own: world w0 with that block. -/
theorem wp_ap1 {P : Program} {t e : TypeId} {z : Value} {bytes : Nat} (E : Elem P t e z bytes) {w0 : World} {x : Value} (hx1 : x.oneCell' = true)
    {base : Nat} {v : Value} {xs : List Value} (hown : Own w0 base e v xs) (hlen : xs.length < 1000000000000) (hbase : base ≤ w0.heap.size)
    {o : Oper} {a : Act} {K : Act → World → Prop} {Q : Exit → Act → World → Prop} (s y : Operand)
    (ho : o.op = .call { callee := .builtin .append, args := #[s, y], argTypes := #[t, t] }) (hs : a.eval s = v) (hy : a.eval y = .slice (some ⟨w0.heap.size, 0, none⟩) 1 1)
    (h : ∀ v' w', Own w' base e v' (xs ++ [x]) ∧ Keeps w0 w' v xs.length ∧ (v'.ownBlock = v.ownBlock ∨ (v'.ownBlock = some (w0.heap.size + 1) ∧ Below w0.heap.size w0 w')) → w0.grownBy w' v.ownBlock → K (a.put o.dst v') w') : o.wp P a (w0.alloc (.cells #[x] e)) K Q := by
  refine wp_app E (hown.alloc _) (news := [x]) ⟨_, 1, rfl, Nat.le_refl _, fun _ => ⟨w0.heap.size, 0, rfl, fun j u hj => ?_⟩⟩ (fun u hu => ?_) (by simp; omega) (by simp; omega) s y ho hs hy ?_
  · match j, hj with
    | 0, hj => simp at hj; subst hj; simp
    | j + 1, hj => simp at hj
  · simp at hu; subst hu; exact hx1
  · intro v' w' h2 h3 h4 h5
    refine h v' w' ⟨h2, fun base' e' y ys hy hk => h3 base' e' y ys (hy.alloc _) hk, ?_⟩ ⟨h4.os, h4.tape, h4.output, Nat.le_trans (by simp) h4.size, fun k hk hne => (h4.block k (by simp; omega) hne).trans (Below.heap_alloc _ _ _ hk)⟩
    rcases h5 with h5 | ⟨h5, h6⟩
    · exact .inl h5
    · refine .inr ⟨by simpa using h5, ⟨h6.os, h6.tape, h6.output, Nat.le_trans (by simp) h6.size, fun k hk => (h6.block k (by simp; omega)).trans (Below.heap_alloc _ _ _ hk)⟩⟩

/-- The same as a law of the walk. -/
theorem ap1 {P : Program} {t e : TypeId} {z : Value} {bytes : Nat} (E : Elem P t e z bytes) {w0 : World} {x : Value} (hx1 : x.oneCell' = true)
    {base : Nat} {v : Value} {xs : List Value} (hown : Own w0 base e v xs) (hlen : xs.length < 1000000000000) (hbase : base ≤ w0.heap.size)
    {ops : Array Oper} {rest : List Oper} {o : Oper} {a : Act} {Q : Exit → Act → World → Prop} (hgd : o.guard = none) (s y : Operand)
    (ho : o.op = .call { callee := .builtin .append, args := #[s, y], argTypes := #[t, t] }) (hs : a.eval s = v) (hy : a.eval y = .slice (some ⟨w0.heap.size, 0, none⟩) 1 1)
    (h : ∀ v' w', Own w' base e v' (xs ++ [x]) → w0.grownBy w' v.ownBlock → wpList P ops Q rest (a.put o.dst v') w') : wpList P ops Q (o :: rest) a (w0.alloc (.cells #[x] e)) :=
  wpList_plain hgd fun _ hK => wp_ap1 E hx1 hown hlen hbase s y ho hs hy fun v' w' h2 h3 => hK _ _ (h v' w' h2.1 h3)
/-- The same, with all that is known. -/
theorem ap1' {P : Program} {t e : TypeId} {z : Value} {bytes : Nat} (E : Elem P t e z bytes) {w0 : World} {x : Value} (hx1 : x.oneCell' = true)
    {base : Nat} {v : Value} {xs : List Value} (hown : Own w0 base e v xs) (hlen : xs.length < 1000000000000) (hbase : base ≤ w0.heap.size)
    {ops : Array Oper} {rest : List Oper} {o : Oper} {a : Act} {Q : Exit → Act → World → Prop} (hgd : o.guard = none) (s y : Operand)
    (ho : o.op = .call { callee := .builtin .append, args := #[s, y], argTypes := #[t, t] }) (hs : a.eval s = v) (hy : a.eval y = .slice (some ⟨w0.heap.size, 0, none⟩) 1 1)
    (h : ∀ v' w', Own w' base e v' (xs ++ [x]) → Keeps w0 w' v xs.length → (v'.ownBlock = v.ownBlock ∨ (v'.ownBlock = some (w0.heap.size + 1) ∧ Below w0.heap.size w0 w')) → w0.grownBy w' v.ownBlock → wpList P ops Q rest (a.put o.dst v') w') : wpList P ops Q (o :: rest) a (w0.alloc (.cells #[x] e)) :=
  wpList_plain hgd fun _ hK => wp_ap1 E hx1 hown hlen hbase s y ho hs hy fun v' w' h2 h3 => hK _ _ (h v' w' h2.1 h2.2.1 h2.2.2 h3)
/-- The same as a step of a region that draws its order. -/
theorem step_ap1 {P : Program} {t e : TypeId} {z : Value} {bytes : Nat} (E : Elem P t e z bytes) {w0 : World} {x : Value} (hx1 : x.oneCell' = true)
    {base : Nat} {v : Value} {xs : List Value} (hown : Own w0 base e v xs) (hlen : xs.length < 1000000000000) (hbase : base ≤ w0.heap.size)
    {ops : Array Oper} {o : Oper} {a : Act} {K : Act → World → Prop} {Q : Exit → Act → World → Prop} {F : Prop} (hgd : o.guard = none) (s y : Operand)
    (ho : o.op = .call { callee := .builtin .append, args := #[s, y], argTypes := #[t, t] }) (hs : a.eval s = v) (hy : a.eval y = .slice (some ⟨w0.heap.size, 0, none⟩) 1 1)
    (h : ∀ v' w', Own w' base e v' (xs ++ [x]) → w0.grownBy w' v.ownBlock → K (a.put o.dst v') w') :
    if Region.wanted o (yielded ops a.tmps) = true then Oper.wp P o a (w0.alloc (.cells #[x] e)) K Q else F := by
  rw [if_pos (by simp [Region.wanted, hgd])]
  exact wp_ap1 E hx1 hown hlen hbase s y ho hs hy fun v' w' h2 h3 => h v' w' h2.1 h3
theorem step_ap1' {P : Program} {t e : TypeId} {z : Value} {bytes : Nat} (E : Elem P t e z bytes) {w0 : World} {x : Value} (hx1 : x.oneCell' = true)
    {base : Nat} {v : Value} {xs : List Value} (hown : Own w0 base e v xs) (hlen : xs.length < 1000000000000) (hbase : base ≤ w0.heap.size)
    {ops : Array Oper} {o : Oper} {a : Act} {K : Act → World → Prop} {Q : Exit → Act → World → Prop} {F : Prop} (hgd : o.guard = none) (s y : Operand)
    (ho : o.op = .call { callee := .builtin .append, args := #[s, y], argTypes := #[t, t] }) (hs : a.eval s = v) (hy : a.eval y = .slice (some ⟨w0.heap.size, 0, none⟩) 1 1)
    (h : ∀ v' w', Own w' base e v' (xs ++ [x]) → Keeps w0 w' v xs.length → (v'.ownBlock = v.ownBlock ∨ (v'.ownBlock = some (w0.heap.size + 1) ∧ Below w0.heap.size w0 w')) → w0.grownBy w' v.ownBlock → K (a.put o.dst v') w') :
    if Region.wanted o (yielded ops a.tmps) = true then Oper.wp P o a (w0.alloc (.cells #[x] e)) K Q else F := by
  rw [if_pos (by simp [Region.wanted, hgd])]
  exact wp_ap1 E hx1 hown hlen hbase s y ho hs hy fun v' w' h2 h3 => h v' w' h2.1 h2.2.1 h2.2.2 h3
/-- append(v, src...) as a law of the walk, and as a step of a region that draws its order. -/
theorem apN {P : Program} {t e : TypeId} {z : Value} {bytes : Nat} (E : Elem P t e z bytes) {w : World} {base : Nat} {v s : Value} {xs news : List Value}
    (hown : Own w base e v xs) (hs : Rd w s news) (h1 : ∀ u ∈ news, u.oneCell' = true) (hlen : xs.length + news.length < 1000000000001) (hbase : base ≤ w.heap.size)
    {ops : Array Oper} {rest : List Oper} {o : Oper} {a : Act} {Q : Exit → Act → World → Prop} (hgd : o.guard = none) (x y : Operand)
    (ho : o.op = .call { callee := .builtin .append, args := #[x, y], argTypes := #[t, t] }) (hx : a.eval x = v) (hy : a.eval y = s)
    (h : ∀ v' w', Own w' base e v' (xs ++ news) → Keeps w w' v xs.length → (v'.ownBlock = v.ownBlock ∨ (v'.ownBlock = some w.heap.size ∧ Below w.heap.size w w')) → w.grownBy w' v.ownBlock → wpList P ops Q rest (a.put o.dst v') w') : wpList P ops Q (o :: rest) a w :=
  wpList_plain hgd fun _ hK => wp_app E hown hs h1 hlen hbase x y ho hx hy fun v' w' h2 h3 h4 h5 => hK _ _ (h v' w' h2 h3 h5 h4)
theorem step_apN {P : Program} {t e : TypeId} {z : Value} {bytes : Nat} (E : Elem P t e z bytes) {w : World} {base : Nat} {v s : Value} {xs news : List Value}
    (hown : Own w base e v xs) (hs : Rd w s news) (h1 : ∀ u ∈ news, u.oneCell' = true) (hlen : xs.length + news.length < 1000000000001) (hbase : base ≤ w.heap.size)
    {ops : Array Oper} {o : Oper} {a : Act} {K : Act → World → Prop} {Q : Exit → Act → World → Prop} {F : Prop} (hgd : o.guard = none) (x y : Operand)
    (ho : o.op = .call { callee := .builtin .append, args := #[x, y], argTypes := #[t, t] }) (hx : a.eval x = v) (hy : a.eval y = s)
    (h : ∀ v' w', Own w' base e v' (xs ++ news) → Keeps w w' v xs.length → (v'.ownBlock = v.ownBlock ∨ (v'.ownBlock = some w.heap.size ∧ Below w.heap.size w w')) → w.grownBy w' v.ownBlock → K (a.put o.dst v') w') :
    if Region.wanted o (yielded ops a.tmps) = true then Oper.wp P o a w K Q else F := by
  rw [if_pos (by simp [Region.wanted, hgd])]
  exact wp_app E hown hs h1 hlen hbase x y ho hx hy fun v' w' h2 h3 h4 h5 => h v' w' h2 h3 h5 h4

/-! ### Small laws of the walk -/
theorem quiet_left {P : Program} {f : FuncId} {args : Array Value} {w : World} {v : Value}
    (h : Calls P f args w fun e w' => e = .returned v ∧ w = w') : Calls P f args w fun e w'' => e = .returned v ∧ ∃ m, w'' = w.drewN m :=
  h.mono fun _ _ ⟨he, hm⟩ => ⟨he, 0, by rw [← hm]; rfl⟩
theorem quiet_leftN {P : Program} {f : FuncId} {args : Array Value} {w : World} {n : Nat} {v : Value}
    (h : Calls P f args (w.drewN n) fun e w' => e = .returned v ∧ w.drewN n = w') : Calls P f args (w.drewN n) fun e w'' => e = .returned v ∧ ∃ m, w'' = w.drewN m :=
  h.mono fun _ _ ⟨he, hm⟩ => ⟨he, n, hm.symm⟩
theorem quiet_leftNN {P : Program} {f : FuncId} {args : Array Value} {w : World} {a n : Nat} {v : Value}
    (h : Calls P f args (w.drewN (a + n)) fun e w' => e = .returned v ∧ w.drewN (a + n) = w') :
    Calls P f args (w.drewN (a + n)) fun e w'' => e = .returned v ∧ ∃ m, w'' = w.drewN (a + m) :=
  h.mono fun _ _ ⟨he, hm⟩ => ⟨he, n, hm.symm⟩

@[go_sem high] theorem run_min_ints3 {P : Program} (w : World) (ts : Array TypeId) (t : TypeId) (k k1 k2 : IntKind) (x y z : Int) :
    (Builtin.min_ ts t #[.int k x, .int k1 y, .int k2 z]).run P w = .ok (.int k (min (min x y) z)) w := by
  have e : ∀ a b : Int, (if b < a then b else a) = min a b := fun a b => by omega
  simp [Builtin.min_, Builtin.min2, e]
@[go_sem high] theorem run_min_ints4 {P : Program} (w : World) (ts : Array TypeId) (t : TypeId) (k k1 k2 k3 : IntKind) (x y z u : Int) :
    (Builtin.min_ ts t #[.int k x, .int k1 y, .int k2 z, .int k3 u]).run P w = .ok (.int k (min (min (min x y) z) u)) w := by
  have e : ∀ a b : Int, (if b < a then b else a) = min a b := fun a b => by omega
  simp [Builtin.min_, Builtin.min2, e]
theorem make_row {P : Program} {t e : TypeId} {z : Value} {bytes : Nat} (E : Elem P t e z bytes) (hz1 : z.cells = #[z]) (n : Nat) (hn : n ≤ 1000000000000) (k : Int) (hk : k = n) (w : World) :
    (Instr.makeSlice t (.int .i64 k) (.int .i64 k)).run P w = .ok (.slice (some ⟨w.heap.size, 0, none⟩) n n) (w.alloc (.cells (madeCells #[z] n) e)) := by
  subst hk
  exact run_make_row' t e z bytes E.und E.info hz1 .i64 .i64 n (Nat.le_trans (Nat.mul_le_mul E.sm hn) (by decide)) (by omega) w

theorem bytes_ne {a b : ByteArray} {i j : Nat} {hi : i < a.size} {hj : j < b.size} (h : (((a[i]).toNat : Int) != ((b[j]).toNat : Int)) = true) : ¬ a.data.toList[i]'(by simpa using hi) = b.data.toList[j]'(by simpa using hj) := by
  intro e
  have e2 : a[i] = b[j] := by rw [Array.getElem_toList, Array.getElem_toList] at e; exact e
  rw [e2] at h
  simp at h
theorem bytes_eq {a b : ByteArray} {i j : Nat} {hi : i < a.size} {hj : j < b.size} (h : (((a[i]).toNat : Int) != ((b[j]).toNat : Int)) = false) : a.data.toList[i]'(by simpa using hi) = b.data.toList[j]'(by simpa using hj) := by
  have h1 : (a[i]).toNat = (b[j]).toNat := Int.ofNat.inj (by simpa using h)
  have h2 : a[i] = b[j] := UInt8.toNat_inj.1 h1
  rw [Array.getElem_toList, Array.getElem_toList]; exact h2
/-- ints as cells -/
def intsV (f : Nat → Nat) (n : Nat) : List Value := (List.range n).map fun k => Value.int .i64 ((f k : Nat) : Int)
theorem intsV_length (f : Nat → Nat) (n : Nat) : (intsV f n).length = n := by simp [intsV]
theorem intsV_succ (f : Nat → Nat) (n : Nat) : intsV f (n + 1) = intsV f n ++ [.int .i64 ((f n : Nat) : Int)] := by simp [intsV, List.range_succ]
theorem intsV_get (f : Nat → Nat) (n k : Nat) (h : k < n) : (intsV f n)[k]? = some (.int .i64 ((f k : Nat) : Int)) := by simp [intsV, h]
theorem intsV_congr {f g : Nat → Nat} {n : Nat} (h : ∀ k, k < n → f k = g k) : intsV f n = intsV g n := by
  unfold intsV; exact List.map_congr_left fun k hk => by rw [h k (List.mem_range.1 hk)]

theorem row_upd {w : World} {g n : Nat} {t : TypeId} {f : Nat → Nat} (h : w.rowIs g t n (fun k => .int .i64 (f k : Nat))) (p v : Nat) (x : Int) (hx : x = v) :
    (w.setCell ⟨g, p, none⟩ (.int .i64 x)).rowIs g t n (fun k => .int .i64 ((if k = p then v else f k : Nat) : Int)) := by
  subst hx
  refine (h.set p _).congr fun k _ => ?_
  by_cases e : k = p
  · rw [if_pos e, if_pos e]
  · rw [if_neg e, if_neg e]

/-! ### The row's last step, where of the world behind the call no more is known than that nothing that was there has turned -/
section
open Go.WideShapes Go.ChangeShapes
variable {H : Type} {enc : TypeId × Value → H} {P : Program}
theorem post_below {f : Func} {s : ChangeSpec} {apart fresh handsOn again : Bool} {W W' : World} {args : Array Value} {v : Value} {ds gs : List (DataW H)} {before pa pv : List MemPlace}
    (hW : DataW.Whole enc P f.params.toList s.vars apart W args.toList ds gs before)
    (hres : ∀ (b : Nat) (sp : Nat → Bool) (hd : Bool), DataW.TrodAll enc P W' b sp hd f.resultTypes.toList (v.resultList f.resultTypes.size) (s.fn H (ds ++ gs)).results [])
    (hargs : ∀ sp : Nat → Bool, (∀ p ∈ before, sp p.block = true) → DataW.TrodAll enc P W' 0 sp true f.params.toList args.toList (s.fn H (ds ++ gs)).args pa)
    (hvars : ∀ sp : Nat → Bool, (∀ p ∈ before, sp p.block = true) → DataW.TrodVars enc P W' sp s.vars (s.fn H (ds ++ gs)).vars pv)
    (hps : before = pa ++ pv) (hb : Below W.heap.size W W')
    (hok : ∀ (j : Nat) (t : TypeId) (r : Value), f.resultTypes[j]? = some t → (v.resultList f.resultTypes.size)[j]? = some r → Value.okWide P W' .any 0 t r) :
    s.post enc P f apart fresh handsOn again W args v W' := by
  have hold : ∀ p ∈ before, (fun b => decide (b < W.heap.size)) p.block = true := fun p hp => by simpa using hW.lt p hp
  have hz0 := hW.lt
  refine ⟨ds, gs, before, [], pa, pv, hW, hres _ _ _, hargs _ hold, hvars _ hold, World.keptBut_mono (fun p hp => ⟨hp, ?_⟩) (hb.frame (· ∈ before)), fun _ => ?_⟩
  · rw [hps, List.mem_append] at hp
    exact Or.inr hp
  · obtain ⟨_, _, _, _, _, hz, hn⟩ := hW
    refine ⟨hok, _, _, ([] ++ pa) ++ pv, ⟨[] ++ pa, pv, trodAll_append (hargs _ (fun _ _ => rfl)) (hres _ _ _), hvars _ (fun _ _ => rfl), rfl, ?_, ?_⟩, ?_⟩
    · intro b off hp
      have hin : MemPlace.cell b off ∈ before := by rw [hps]; simpa using hp
      rw [hb.frozen (hz0 _ hin)]
      exact hz b off hin
    · intro ha
      simpa [hps] using hn ha
    · intro p hp _
      rw [hps]; simpa using hp
theorem trodAll_keep {W W' : World} (hl : laidOutB P = true) (hb : Below W.heap.size W W') (sp : Nat → Bool) : ∀ (ts : List TypeId) (vs : List Value) (ds : List (DataW H)) (ps : List MemPlace),
    ts.all (fun t => P.readableRec t && decide (t < P.types.size)) = true → DataW.TrodAll enc P W 0 (fun _ => true) true ts vs ds ps → (∀ p ∈ ps, p.block < W.heap.size) → (∀ p ∈ ps, sp p.block = true) → DataW.TrodAll enc P W' 0 sp true ts vs ds ps := by
  intro ts
  induction ts with
  | nil =>
    intro vs ds ps _ h _ _
    cases vs <;> cases ds <;> simp [DataW.TrodAll] at h
    subst h
    exact trodAll_mk0
  | cons t ts ih =>
    intro vs ds ps ht h hlt hsp
    obtain ⟨v, vs', d, ds', p, q, rfl, rfl, rfl, hd, hr⟩ := trodAll_cons h
    simp only [List.all_cons, Bool.and_eq_true, decide_eq_true_eq] at ht
    exact trodAll_cons_mk (WideElems.Trod_stays hl ht.1.1 ht.1.2 hd (fun x hx => hb.same (hlt x (by simp [hx]))) (fun x hx => hsp x (by simp [hx])))
      (ih vs' ds' q ht.2 hr (fun x hx => hlt x (by simp [hx])) (fun x hx => hsp x (by simp [hx])))
end

end Go.Proofs.YtejmjjgbbojfbaaDoor
