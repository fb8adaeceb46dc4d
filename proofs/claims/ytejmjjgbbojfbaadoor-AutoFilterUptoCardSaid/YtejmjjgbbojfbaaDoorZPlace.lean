/- A place as four bytes, and back: auto.number, auto.place. -/
import Derived.Test.YtejmjjgbbojfbaaDoorZG9
namespace Go.Proofs.YtejmjjgbbojfbaaDoor
set_option linter.unusedVariables false
open Go.ChangeShapes Go.WideShapes Go.ChangeAt Go.RowKit

def placeB (n : Nat) : List UInt8 := [UInt8.ofNat (n % 256), UInt8.ofNat (n / 256 % 256), UInt8.ofNat (n / 65536 % 256), UInt8.ofNat (n / 16777216 % 256)]
def placeS (n : Nat) : ByteArray := strOf (placeB n)
theorem placeB_len (n : Nat) : (placeB n).length = 4 := rfl
theorem placeV (n : Nat) (hn : (n : Int) ≤ 2000000000) : bytesV (placeB n) = [.int .u8 ((n : Int) % 256), .int .u8 ((n : Int) / 256 % 256), .int .u8 ((n : Int) / 65536 % 256), .int .u8 ((n : Int) / 16777216)] := by
  have h : ∀ a : Nat, a < 256 → ((UInt8.ofNat a).toNat : Int) = a := fun a ha => by rw [u8_ofNat]; omega
  unfold placeB bytesV
  simp only [List.map_cons, List.map_nil]
  rw [h _ (Nat.mod_lt _ (by decide)), h _ (Nat.mod_lt _ (by decide)), h _ (Nat.mod_lt _ (by decide)), h _ (Nat.mod_lt _ (by decide))]
  simp only [List.cons.injEq, Value.int.injEq, true_and, and_true]
  omega
theorem or_nat64 (a b : Nat) (ha : a < 2 ^ 63) (hb : b < 2 ^ 63) : bits .or .i64 (a : Int) (b : Int) = ((a ||| b : Nat) : Int) := by
  have h : a ||| b < 2 ^ 63 := Nat.or_lt_two_pow ha hb
  have e : bits .or .i64 (a : Int) (b : Int) = IntKind.i64.wrap (((BitVec.ofInt 64 a ||| BitVec.ofInt 64 b).toNat : Nat) : Int) := rfl
  rw [e, BitVec.toNat_or, BitVec.toNat_ofInt, BitVec.toNat_ofInt]
  have e1 : ((a : Int) % ((2 ^ 64 : Nat) : Int)).toNat = a := by omega
  have e2 : ((b : Int) % ((2 ^ 64 : Nat) : Int)).toNat = b := by omega
  rw [e1, e2, IntKind.wrap_i64]
  omega
theorem or_sum (a b k : Nat) (h : a < 2 ^ k) : a ||| b * 2 ^ k = a + b * 2 ^ k := by
  rw [Nat.or_comm, Nat.mul_comm b, ← Nat.two_pow_add_eq_or_of_lt h, Nat.add_comm]
theorem or4 (e0 e1 e2 e3 : Nat) (b0 : e0 < 256) (b1 : e1 < 256) (b2 : e2 < 256) (b3 : e3 < 256) :
    bits .or .i64 (bits .or .i64 (bits .or .i64 (e0 : Int) ((e1 : Int) * 256)) ((e2 : Int) * 65536)) ((e3 : Int) * 16777216) = ((e0 + 256 * e1 + 65536 * e2 + 16777216 * e3 : Nat) : Int) := by
  rw [show (e1 : Int) * 256 = ((e1 * 256 : Nat) : Int) by omega, or_nat64 _ _ (by omega) (by omega), show e1 * 256 = e1 * 2 ^ 8 by omega, or_sum _ _ 8 (by omega),
    show (e2 : Int) * 65536 = ((e2 * 65536 : Nat) : Int) by omega, or_nat64 _ _ (by omega) (by omega), show e2 * 65536 = e2 * 2 ^ 16 by omega, or_sum _ _ 16 (by omega),
    show (e3 : Int) * 16777216 = ((e3 * 16777216 : Nat) : Int) by omega, or_nat64 _ _ (by omega) (by omega), show e3 * 16777216 = e3 * 2 ^ 24 by omega, or_sum _ _ 24 (by omega)]
  omega
set_option maxRecDepth 100000 in
theorem place_any (w : World) (n : Nat) (hn : (n : Int) ≤ 2000000000) :
    Calls Tryd.prog 122 #[.int .i64 (n : Nat)] w fun e w' => e = .returned (.string (placeS n)) ∧ Below w.heap.size w w' := by
  have hv := placeV n hn
  have ho := (own_lit w w.heap.size 5 (bytesV (placeB n)) (Nat.le_refl _) (by rw [bytesV_length, placeB_len]; decide)).rd
  have r4 := run_str (P := Tryd.prog) Tryd.underlying26 Tryd.underlying5 Tryd.underlying9 ho
  rw [bytesV_length, placeB_len, hv] at r4
  have HB := Lib.hid (fun o : Obj => (Below.refl w.heap.size w).alloc (Nat.le_refl _) o)
  clear hv ho
  go_enter Tryd.func122, Tryd.ntmps122
  go_wp2
  go_ret
  exact ⟨rfl, HB.out _⟩
set_option maxRecDepth 100000 in
theorem number_any (w : World) (d : ByteArray) (hd : 4 ≤ d.size) (e0 e1 e2 e3 : Nat) (h0 : ((d[0]'(by omega)).toNat : Int) = e0) (h1 : ((d[1]'(by omega)).toNat : Int) = e1) (h2 : ((d[2]'(by omega)).toNat : Int) = e2) (h3 : ((d[3]'(by omega)).toNat : Int) = e3)
    (b0 : e0 < 256) (b1 : e1 < 256) (b2 : e2 < 256) (b3 : e3 < 256) :
    Calls Tryd.prog 121 #[.string d] w fun e w' => e = .returned (.int .i64 (e0 + 256 * e1 + 65536 * e2 + 16777216 * e3 : Nat)) ∧ ∃ k, w' = w.drewN k := by
  go_enter Tryd.func121, Tryd.ntmps121
  go_wp2
  go_quiet (fail)
  go_wp2
  go_ret
  exact ⟨congrArg (fun x => Ending.returned (Value.int .i64 x)) (or4 e0 e1 e2 e3 b0 b1 b2 b3), _, rfl⟩
end Go.Proofs.YtejmjjgbbojfbaaDoor
