/- Merged: RowP, Place. -/
import Derived.Test.YtejmjjgbbojfbaaDoorZMatch
import Derived.Test.YtejmjjgbbojfbaaDoorZMach
/- The document's row of a pattern, in plain Lean. No program occurs here. -/
namespace Go.Proofs.YtejmjjgbbojfbaaDoor
set_option linter.unusedVariables false

/-- One place of the next line. -/
def stepR (e : PEl) (s : List UInt8) (P : List Bool) (j : Nat) : Bool :=
  if e.1 = 2 then (P.take (j + 1)).any id else decide (0 < j) && (P.getD (j - 1) false && (decide (e.1 = 1) || decide (s.getD (j - 1) 0 = e.2)))
def nextR (e : PEl) (s : List UInt8) (P : List Bool) : List Bool := (List.range (s.length + 1)).map (stepR e s P)
def tabR (es : List PEl) (s : List UInt8) : List Bool := es.foldl (fun P e => nextR e s P) ((List.replicate (s.length + 1) false).set 0 true)
def outR (es : List PEl) (s : List UInt8) : List Bool := (List.range (es.length + 1)).map fun i => (tabR (es.take i) s).getD s.length false
theorem nextR_len (e : PEl) (s : List UInt8) (P : List Bool) : (nextR e s P).length = s.length + 1 := by simp [nextR]
theorem tabR_snoc (es : List PEl) (e : PEl) (s : List UInt8) : tabR (es ++ [e]) s = nextR e s (tabR es s) := by unfold tabR; rw [List.foldl_append]; rfl
theorem tabR_len (es : List PEl) (s : List UInt8) : (tabR es s).length = s.length + 1 := by
  induction es using snocI with
  | h0 => simp [tabR]
  | h1 l x _ => rw [tabR_snoc]; exact nextR_len x s _
theorem tabR_take {es : List PEl} {s : List UInt8} {i : Nat} (h : i < es.length) : tabR (es.take (i + 1)) s = nextR es[i] s (tabR (es.take i) s) := by
  rw [List.take_add_one, List.getElem?_eq_getElem h]
  exact tabR_snoc _ _ _
theorem outR_take {es : List PEl} {s : List UInt8} {i : Nat} (h : i < es.length) : outR (es.take (i + 1)) s = outR (es.take i) s ++ [(nextR es[i] s (tabR (es.take i) s)).getD s.length false] := by
  have h1 : (es.take (i + 1)).length = i + 1 := by simp; omega
  have h2 : (es.take i).length = i := by simp; omega
  unfold outR
  rw [h1, h2, List.range_succ (n := i + 1), List.map_append]
  congr 1
  · refine List.map_congr_left fun k hk => ?_
    have hk := List.mem_range.1 hk
    rw [List.take_take, List.take_take, Nat.min_eq_left (by omega), Nat.min_eq_left (by omega)]
  · simp only [List.map_cons, List.map_nil]
    rw [List.take_take, Nat.min_eq_left (Nat.le_refl _), tabR_take h]
/-- The next line, where its first j places stand. -/
def partR (e : PEl) (s : List UInt8) (P : List Bool) (j : Nat) : List Bool := (List.range (s.length + 1)).map fun k => if k < j then stepR e s P k else false
theorem partR_len (e : PEl) (s : List UInt8) (P : List Bool) (j : Nat) : (partR e s P j).length = s.length + 1 := by simp [partR]
theorem partR_zero (e : PEl) (s : List UInt8) (P : List Bool) : partR e s P 0 = List.replicate (s.length + 1) false := by
  unfold partR
  refine List.ext_getElem (by simp) fun k h1 h2 => ?_
  simp
theorem partR_all (e : PEl) (s : List UInt8) (P : List Bool) : partR e s P (s.length + 1) = nextR e s P := by
  unfold partR nextR
  exact List.map_congr_left fun k hk => by rw [if_pos (List.mem_range.1 hk)]
theorem partR_get (e : PEl) (s : List UInt8) (P : List Bool) (j k : Nat) (h : k < (partR e s P j).length) : (partR e s P j)[k]'h = if k < j then stepR e s P k else false := by simp [partR]
theorem partR_set (e : PEl) (s : List UInt8) (P : List Bool) (j : Nat) : (partR e s P j).set j (stepR e s P j) = partR e s P (j + 1) := by
  refine List.ext_getElem (by rw [List.length_set, partR_len, partR_len]) fun k h1 h2 => ?_
  rw [List.getElem_set, partR_get _ _ _ _ _ h2, partR_get _ _ _ _ _ (by rw [List.length_set] at h1; exact h1)]
  by_cases h : j = k
  · subst h; rw [if_pos rfl, if_pos (by omega)]
  · rw [if_neg h]
    by_cases hk : k < j
    · rw [if_pos hk, if_pos (by omega)]
    · rw [if_neg hk, if_neg (by omega)]
theorem any_takeR (P : List Bool) (j : Nat) : (P.take (j + 1)).any id = ((P.take j).any id || P.getD j false) := by
  rw [List.take_add_one, List.any_append, List.getD_eq_getElem?_getD]
  cases P[j]? <;> simp
end Go.Proofs.YtejmjjgbbojfbaaDoor

/- A place as four bytes, and back: auto.number, auto.place. -/
namespace Go.Proofs.YtejmjjgbbojfbaaDoor
set_option linter.unusedVariables false
open Go.ChangeShapes Go.WideShapes Go.ChangeAt Go.RowKit

def placeB (n : Nat) : List UInt8 := [UInt8.ofNat (n % 256), UInt8.ofNat (n / 256 % 256), UInt8.ofNat (n / 65536 % 256), UInt8.ofNat (n / 16777216 % 256)]
def placeS (n : Nat) : ByteArray := strOf (placeB n)
theorem placeB_len (n : Nat) : (placeB n).length = 4 := rfl
theorem placeV (n : Nat) (hn : (n : Int) ≤ 2000000000) : bytesV (placeB n) = [.int .u8 ((n : Int) % 256), .int .u8 ((n : Int) / 256 % 256), .int .u8 ((n : Int) / 65536 % 256), .int .u8 ((n : Int) / 16777216)] := by
  have h : ∀ a : Nat, a < 256 → ((UInt8.ofNat a).toNat : Int) = a := fun a ha => by rw [u8_ofNat]; omega
  unfold placeB bytesV
  simp only [List.map_cons, List.map_nil]
  rw [h _ (Nat.mod_lt _ (by decide)), h _ (Nat.mod_lt _ (by decide)), h _ (Nat.mod_lt _ (by decide)), h _ (Nat.mod_lt _ (by decide))]
  simp only [List.cons.injEq, Value.int.injEq, true_and, and_true]
  omega
theorem or_nat64 (a b : Nat) (ha : a < 2 ^ 63) (hb : b < 2 ^ 63) : bits .or .i64 (a : Int) (b : Int) = ((a ||| b : Nat) : Int) := by
  have h : a ||| b < 2 ^ 63 := Nat.or_lt_two_pow ha hb
  have e : bits .or .i64 (a : Int) (b : Int) = IntKind.i64.wrap (((BitVec.ofInt 64 a ||| BitVec.ofInt 64 b).toNat : Nat) : Int) := rfl
  rw [e, BitVec.toNat_or, BitVec.toNat_ofInt, BitVec.toNat_ofInt]
  have e1 : ((a : Int) % ((2 ^ 64 : Nat) : Int)).toNat = a := by omega
  have e2 : ((b : Int) % ((2 ^ 64 : Nat) : Int)).toNat = b := by omega
  rw [e1, e2, IntKind.wrap_i64]
  omega
theorem or_sum (a b k : Nat) (h : a < 2 ^ k) : a ||| b * 2 ^ k = a + b * 2 ^ k := by
  rw [Nat.or_comm, Nat.mul_comm b, ← Nat.two_pow_add_eq_or_of_lt h, Nat.add_comm]
theorem or4 (e0 e1 e2 e3 : Nat) (b0 : e0 < 256) (b1 : e1 < 256) (b2 : e2 < 256) (b3 : e3 < 256) :
    bits .or .i64 (bits .or .i64 (bits .or .i64 (e0 : Int) ((e1 : Int) * 256)) ((e2 : Int) * 65536)) ((e3 : Int) * 16777216) = ((e0 + 256 * e1 + 65536 * e2 + 16777216 * e3 : Nat) : Int) := by
  rw [show (e1 : Int) * 256 = ((e1 * 256 : Nat) : Int) by omega, or_nat64 _ _ (by omega) (by omega), show e1 * 256 = e1 * 2 ^ 8 by omega, or_sum _ _ 8 (by omega),
    show (e2 : Int) * 65536 = ((e2 * 65536 : Nat) : Int) by omega, or_nat64 _ _ (by omega) (by omega), show e2 * 65536 = e2 * 2 ^ 16 by omega, or_sum _ _ 16 (by omega),
    show (e3 : Int) * 16777216 = ((e3 * 16777216 : Nat) : Int) by omega, or_nat64 _ _ (by omega) (by omega), show e3 * 16777216 = e3 * 2 ^ 24 by omega, or_sum _ _ 24 (by omega)]
  omega
set_option maxRecDepth 100000 in
theorem place_any (w : World) (n : Nat) (hn : (n : Int) ≤ 2000000000) :
    Calls Tryd.prog 122 #[.int .i64 (n : Nat)] w fun e w' => e = .returned (.string (placeS n)) ∧ Below w.heap.size w w' := by
  have hv := placeV n hn
  have ho := (own_lit w w.heap.size 5 (bytesV (placeB n)) (Nat.le_refl _) (by rw [bytesV_length, placeB_len]; decide)).rd
  have r4 := run_str (P := Tryd.prog) Tryd.underlying26 Tryd.underlying5 Tryd.underlying9 ho
  rw [bytesV_length, placeB_len, hv] at r4
  have HB := Lib.hid (fun o : Obj => (Below.refl w.heap.size w).alloc (Nat.le_refl _) o)
  clear hv ho
  go_enter Tryd.func122, Tryd.ntmps122
  go_wp2
  go_ret
  exact ⟨rfl, HB.out _⟩
set_option maxRecDepth 100000 in
theorem number_any (w : World) (d : ByteArray) (hd : 4 ≤ d.size) (e0 e1 e2 e3 : Nat) (h0 : ((d[0]'(by omega)).toNat : Int) = e0) (h1 : ((d[1]'(by omega)).toNat : Int) = e1) (h2 : ((d[2]'(by omega)).toNat : Int) = e2) (h3 : ((d[3]'(by omega)).toNat : Int) = e3)
    (b0 : e0 < 256) (b1 : e1 < 256) (b2 : e2 < 256) (b3 : e3 < 256) :
    Calls Tryd.prog 121 #[.string d] w fun e w' => e = .returned (.int .i64 (e0 + 256 * e1 + 65536 * e2 + 16777216 * e3 : Nat)) ∧ ∃ k, w' = w.drewN k := by
  go_enter Tryd.func121, Tryd.ntmps121
  go_wp2
  go_quiet (fail)
  go_wp2
  go_ret
  exact ⟨congrArg (fun x => Ending.returned (Value.int .i64 x)) (or4 e0 e1 e2 e3 b0 b1 b2 b3), _, rfl⟩
end Go.Proofs.YtejmjjgbbojfbaaDoor
