/- Merged: RWord, RList. -/
import Derived.Test.YthnpbfadblcicaaDoorZG13
import Derived.Test.YthnpbfadblcicaaDoorZG1
/- codec.Reader: Word32, Word64; bitsAt. -/
namespace Go.Proofs.YthnpbfadblcicaaDoor
set_option linter.unusedVariables false
open Go.ChangeShapes Go.WideShapes Go.ChangeAt Go.RowKit

theorem or_w32 (u m i : Nat) (hu : u < 2 ^ (8 * i)) (hi : i < 4) (hm : m < 256) : bits .or .u32 (u : Int) ((m : Int) * 2 ^ (8 * i) % 4294967296) = ((u + 256 ^ i * m : Nat) : Int) ∧ u + 256 ^ i * m < 2 ^ (8 * (i + 1)) := by
  have e2 : (256 : Nat) ^ i = 2 ^ (8 * i) := by rw [show (256 : Nat) = 2 ^ 8 by rfl, ← Nat.pow_mul]
  have e3 : 2 ^ (8 * (i + 1)) = 2 ^ (8 * i) * 256 := by rw [show 8 * (i + 1) = 8 * i + 8 by omega, Nat.pow_add]
  have h1 : (m + 1) * 2 ^ (8 * i) ≤ 256 * 2 ^ (8 * i) := Nat.mul_le_mul_right _ hm
  rw [Nat.add_mul, Nat.one_mul] at h1
  have h2 : 2 ^ (8 * (i + 1)) ≤ 2 ^ 32 := Nat.pow_le_pow_right (by decide) (by omega)
  rw [e2, Nat.mul_comm (2 ^ (8 * i)) m]
  have e5 : u ||| m * 2 ^ (8 * i) = u + m * 2 ^ (8 * i) := or_add _ _ _ hu
  have e6 : (m : Int) * 2 ^ (8 * i) = ((m * 2 ^ (8 * i) : Nat) : Int) := by simp
  obtain ⟨Y, hY⟩ : ∃ Y, m * 2 ^ (8 * i) = Y := ⟨_, rfl⟩
  rw [e6]
  rw [hY] at h1 e5 ⊢
  refine ⟨?_, by omega⟩
  rw [show ((Y : Nat) : Int) % 4294967296 = (Y : Int) by omega, u32_or_nat _ _ (by omega) (by omega), e5]
theorem or_w64 (u m i : Nat) (hu : u < 2 ^ (8 * i)) (hi : i < 8) (hm : m < 256) : bits .or .u64 (u : Int) (IntKind.u64.wrap ((m : Int) * 2 ^ (8 * i))) = ((u + 256 ^ i * m : Nat) : Int) ∧ u + 256 ^ i * m < 2 ^ (8 * (i + 1)) := by
  have e2 : (256 : Nat) ^ i = 2 ^ (8 * i) := by rw [show (256 : Nat) = 2 ^ 8 by rfl, ← Nat.pow_mul]
  have e3 : 2 ^ (8 * (i + 1)) = 2 ^ (8 * i) * 256 := by rw [show 8 * (i + 1) = 8 * i + 8 by omega, Nat.pow_add]
  have h1 : (m + 1) * 2 ^ (8 * i) ≤ 256 * 2 ^ (8 * i) := Nat.mul_le_mul_right _ hm
  rw [Nat.add_mul, Nat.one_mul] at h1
  have h2 : 2 ^ (8 * (i + 1)) ≤ 2 ^ 64 := Nat.pow_le_pow_right (by decide) (by omega)
  rw [e2, Nat.mul_comm (2 ^ (8 * i)) m]
  have e5 : u ||| m * 2 ^ (8 * i) = u + m * 2 ^ (8 * i) := or_add _ _ _ hu
  have e6 : (m : Int) * 2 ^ (8 * i) = ((m * 2 ^ (8 * i) : Nat) : Int) := by simp
  obtain ⟨Y, hY⟩ : ∃ Y, m * 2 ^ (8 * i) = Y := ⟨_, rfl⟩
  rw [e6]
  rw [hY] at h1 e5 ⊢
  refine ⟨?_, by omega⟩
  rw [show IntKind.u64.wrap ((Y : Nat) : Int) = (Y : Int) by rw [IntKind.wrap_u64]; omega, u64_or_nat _ _ (by omega) (by omega), e5]
theorem leN_take_succ (l : List UInt8) (i : Nat) (h : i < l.length) : leN (l.take (i + 1)) = leN (l.take i) + 256 ^ i * l[i].toNat := by
  rw [List.take_add_one, List.getElem?_eq_getElem h, Option.toList_some, leN_append, List.length_take, Nat.min_eq_left (by omega)]
  simp [leN]


/-- (x >> r) & (1<<t - 1) of a byte, at bit q of the answer. -/
theorem ba_bits (N A x m j r t q : Nat) (hx : x = N / 256 ^ j % 256) (ha : A + q = 8 * j + r) (hr : r < 8) (ht : t ≤ 8 - r) :
    x / 2 ^ r % 2 ^ t = N / 2 ^ A / 2 ^ q % 2 ^ t := by
  have e1 : (256 : Nat) ^ j = 2 ^ (8 * j) := by rw [show (256 : Nat) = 2 ^ 8 by rfl, ← Nat.pow_mul]
  rw [Nat.div_div_eq_div_mul, ← Nat.pow_add, ha, Nat.pow_add, ← Nat.div_div_eq_div_mul, hx, e1]
  rw [show (256 : Nat) = 2 ^ r * 2 ^ (8 - r) by rw [← Nat.pow_add, Nat.add_sub_cancel' (by omega)], Nat.mod_mul_right_div_self, Nat.mod_mod_of_dvd _ (Nat.pow_dvd_pow 2 ht)]
theorem ba_or (N q t y : Nat) (hy : y = N / 2 ^ q % 2 ^ t) : N % 2 ^ q ||| y * 2 ^ q = N % 2 ^ (q + t) := by
  rw [or_add _ _ _ (Nat.mod_lt _ (Nat.two_pow_pos q)), hy, Nat.pow_add, Nat.mod_mul, Nat.mul_comm (2 ^ q)]
theorem i64_orN (a b : Nat) (ha : a < 2 ^ 63) (hb : b < 2 ^ 63) : bits .or .i64 (a : Int) (b : Int) = ((a ||| b : Nat) : Int) := by
  have h : a ||| b < 2 ^ 63 := Nat.or_lt_two_pow ha hb
  have e : bits .or .i64 (a : Int) (b : Int) = IntKind.i64.wrap (((BitVec.ofInt 64 a ||| BitVec.ofInt 64 b).toNat : Nat) : Int) := rfl
  rw [e, BitVec.toNat_or, BitVec.toNat_ofInt, BitVec.toNat_ofInt]
  have e1 : ((a : Int) % ((2 ^ 64 : Nat) : Int)).toNat = a := by omega
  have e2 : ((b : Int) % ((2 ^ 64 : Nat) : Int)).toNat = b := by omega
  rw [e1, e2, IntKind.wrap_i64]
  omega
theorem i64_andN (a b : Nat) (ha : a < 2 ^ 63) (hb : b < 2 ^ 63) : bits .and .i64 (a : Int) (b : Int) = ((a &&& b : Nat) : Int) := by
  have h : a &&& b < 2 ^ 63 := Nat.and_lt_two_pow _ hb
  have e : bits .and .i64 (a : Int) (b : Int) = IntKind.i64.wrap (((BitVec.ofInt 64 a &&& BitVec.ofInt 64 b).toNat : Nat) : Int) := rfl
  rw [e, BitVec.toNat_and, BitVec.toNat_ofInt, BitVec.toNat_ofInt]
  have e1 : ((a : Int) % ((2 ^ 64 : Nat) : Int)).toNat = a := by omega
  have e2 : ((b : Int) % ((2 ^ 64 : Nat) : Int)).toNat = b := by omega
  rw [e1, e2, IntKind.wrap_i64]
  omega
theorem ba_step (N A x j r t q W : Nat) (hx : x = N / 256 ^ j % 256) (ha : A + q = 8 * j + r) (hr : r < 8) (ht : t ≤ 8 - r) (hq : q + t ≤ W) (hW : W ≤ 63) :
    bits .or .i64 ((N : Int) / 2 ^ A % 2 ^ q) (wrap64 (bits .and .i64 ((x : Int) / 2 ^ r) (wrap64 (wrap64 (2 ^ t) - 1)) * 2 ^ q)) = ((N / 2 ^ A % 2 ^ (q + t) : Nat) : Int) := by
  have hx2 : x < 256 := by rw [hx]; exact Nat.mod_lt _ (by decide)
  have hp8 : 2 ^ t ≤ 2 ^ 8 := Nat.pow_le_pow_right (by decide) (by omega)
  have hp0 := Nat.two_pow_pos t
  have e1 : ((2 : Int) ^ t) = ((2 ^ t : Nat) : Int) := by simp
  have e2 : wrap64 (wrap64 ((2 : Int) ^ t) - 1) = ((2 ^ t - 1 : Nat) : Int) := by
    rw [e1]
    obtain ⟨P, hP⟩ : ∃ P, 2 ^ t = P := ⟨_, rfl⟩
    rw [hP] at hp8 hp0 ⊢
    rw [IntWalk.wrap64_in (P : Int) ⟨by omega, by omega⟩, IntWalk.wrap64_in _ ⟨by omega, by omega⟩]
    omega
  have hy0 : x / 2 ^ r ≤ x := Nat.div_le_self _ _
  have e3 : ((x : Int) / 2 ^ r) = ((x / 2 ^ r : Nat) : Int) := by simp
  have e4 : bits .and .i64 ((x : Int) / 2 ^ r) (wrap64 (wrap64 ((2 : Int) ^ t) - 1)) = ((x / 2 ^ r % 2 ^ t : Nat) : Int) := by
    rw [e2, e3, i64_andN _ _ (by omega) (by omega), Nat.and_two_pow_sub_one_eq_mod]
  have hy : x / 2 ^ r % 2 ^ t < 2 ^ t := Nat.mod_lt _ hp0
  have e5 : ((x / 2 ^ r % 2 ^ t : Nat) : Int) * 2 ^ q = ((x / 2 ^ r % 2 ^ t * 2 ^ q : Nat) : Int) := by simp
  have e6 : x / 2 ^ r % 2 ^ t * 2 ^ q < 2 ^ 63 := by
    have h1 : x / 2 ^ r % 2 ^ t * 2 ^ q < 2 ^ t * 2 ^ q := Nat.mul_lt_mul_of_pos_right hy (Nat.two_pow_pos q)
    rw [← Nat.pow_add] at h1
    have h2 : 2 ^ (t + q) ≤ 2 ^ 63 := Nat.pow_le_pow_right (by decide) (by omega)
    omega
  have e7 : ((N : Int) / 2 ^ A % 2 ^ q) = ((N / 2 ^ A % 2 ^ q : Nat) : Int) := by simp
  have e8 : N / 2 ^ A % 2 ^ q < 2 ^ 63 := by
    have h1 : N / 2 ^ A % 2 ^ q < 2 ^ q := Nat.mod_lt _ (Nat.two_pow_pos q)
    have h2 : 2 ^ q ≤ 2 ^ 63 := Nat.pow_le_pow_right (by decide) (by omega)
    omega
  rw [e4, e5, e7, wrap64_nat _ (by omega), i64_orN _ _ e8 e6]
  congr 1
  exact ba_or (N / 2 ^ A) q t _ (ba_bits N A x 0 j r t q hx ha hr ht)
set_option maxRecDepth 100000 in
set_option maxHeartbeats 1000000 in
theorem bitsAt_any (w : World) (s : Value) (cs : List UInt8) (hr : Rd w s (bytesV cs)) (A W : Nat) (hW : W ≤ 63) (hA : A + W ≤ 8 * cs.length) (hlen : cs.length ≤ 1000000000) :
    Calls Tryd.prog 79 #[s, .int .i64 A, .int .i64 W] w fun e w' => e = .returned (.int .i64 (leN cs / 2 ^ A % 2 ^ W : Nat)) ∧ w = w' := by
  obtain ⟨a, c, rfl, hc, hcells⟩ := hr
  rw [bytesV_length] at hc hcells ⊢
  have HC := Lib.hid hcells
  clear hcells
  go_enter Tryd.func79, Tryd.ntmps79
  go_wp2
  go_loopw [7, 8] (fun s7 s8 wr => ∃ q : Nat, s8 = .int .i64 q ∧ q ≤ W ∧ s7 = .int .i64 (leN cs / 2 ^ A % 2 ^ q : Nat) ∧ w = wr) (fun _ s _ => W - (intOf s).toNat)
  case atStart => exact ⟨0, rfl, Nat.zero_le _, by simp [Nat.mod_one], rfl⟩
  case round =>
    obtain ⟨q, rfl, hq, rfl, rfl⟩ := hrel
    by_cases hlt : q < W
    · obtain ⟨j, r, hr8, hjr⟩ : ∃ j r : Nat, r < 8 ∧ A + q = 8 * j + r := ⟨(A + q) / 8, (A + q) % 8, by omega, by omega⟩
      have hj : j < cs.length := by omega
      obtain ⟨b, o, rfl, hg⟩ := HC.out (by omega)
      have hcb := hg j _ (bytesV_get cs j hj)
      have hxn := leN_get cs j hj
      obtain ⟨x, hx⟩ : ∃ x, cs[j].toNat = x := ⟨_, rfl⟩
      have hx2 : x < 256 := by rw [← hx]; exact cs[j].toNat_lt
      rw [hx] at hcb hxn
      obtain ⟨t, ht⟩ : ∃ t : Nat, t = min (8 - r) (W - q) := ⟨_, rfl⟩
      have HXN := Lib.hid hxn
      have q1 : ((A : Int) + (q : Int)) % 8 = r := by omega
      have q2 : ((A : Int) + (q : Int)) / 8 = j := by omega
      have q3 : (j : Int) < (cs.length : Nat) := by omega
      clear hg hx
      have hst := ba_step (leN cs) A x j r t q W hxn.symm hjr hr8 (by omega) (by omega) hW
      have HST := Lib.hid hst
      have HT := Lib.hid (show min (8 - (r : Int)) ((W : Int) - (q : Int)) = (t : Int) by omega)
      have htb : t ≤ W - q ∧ 1 ≤ t := by omega
      clear hxn hst ht
      go_wp2
      rw [HT.out, Int.toNat_natCast]
      go_roundw
      case rel => exact ⟨q + t, by go_num, by omega, by rw [HST.out], by first | rfl | trivial⟩
      case measure => simp [intOf]; omega
    · obtain rfl : q = W := by omega
      go_wp2
      go_ret
      exact ⟨rfl, rfl⟩
end Go.Proofs.YthnpbfadblcicaaDoor

/- codec.Reader: Rising. -/
namespace Go.Proofs.YthnpbfadblcicaaDoor
set_option linter.unusedVariables false
open Go.ChangeShapes Go.WideShapes Go.ChangeAt Go.RowKit

def contR {α : Type} (acc : List α) (used : Nat) : Except Nat (List α × Nat) → Except Nat (List α × Nat)
  | .error e => .error e
  | .ok (r, j) => .ok (acc ++ r, used + j)
/-- What a call that reads a list of ints answers; on an error the Reader stands at k or, if 'stay' is false, somewhere. -/
def LOut (stay : Bool) (w : World) (base p : Nat) (v : Value) (bs : List UInt8) (k : Nat) (EA : Nat → Addr) (res : Except Nat (List Int × Nat)) (e : Ending) (w' : World) : Prop :=
  (∀ n, res = .error n → e = .returned (.tuple #[.slice none 0 0, errV EA n]) ∧ (∃ k', (stay = true → k' = k) ∧ Rdr w' base p v bs k') ∧ Eff (· = p) w w') ∧
  (∀ x n, res = .ok (x, n) → ∃ v', e = .returned (.tuple #[v', .nilIface]) ∧ Own w' w.heap.size 3 v' (intL x) ∧ Rdr w' base p v bs (k + n) ∧ Eff (· = p) w w')
theorem LOut.err {stay : Bool} {w : World} {base p : Nat} {v : Value} {bs : List UInt8} {k : Nat} {EA : Nat → Addr} {res : Except Nat (List Int × Nat)} {e : Ending} {w' : World} {n k' : Nat}
    (hr : res = .error n) (he : e = .returned (.tuple #[.slice none 0 0, errV EA n])) (hk : stay = true → k' = k) (h1 : Rdr w' base p v bs k') (h2 : Eff (· = p) w w') : LOut stay w base p v bs k EA res e w' :=
  ⟨fun m hm => (by rw [hr] at hm; injection hm with hm; subst hm; exact ⟨he, ⟨k', hk, h1⟩, h2⟩), fun x m hm => (by rw [hr] at hm; cases hm)⟩
theorem LOut.ok {stay : Bool} {w : World} {base p : Nat} {v : Value} {bs : List UInt8} {k : Nat} {EA : Nat → Addr} {res : Except Nat (List Int × Nat)} {e : Ending} {w' : World} {x : List Int} {n : Nat} {v' : Value}
    (hr : res = .ok (x, n)) (he : e = .returned (.tuple #[v', .nilIface])) (ho : Own w' w.heap.size 3 v' (intL x)) (h1 : Rdr w' base p v bs (k + n)) (h2 : Eff (· = p) w w') : LOut stay w base p v bs k EA res e w' :=
  ⟨fun m hm => (by rw [hr] at hm; cases hm), fun y m hm => (by rw [hr] at hm; injection hm with hm; injection hm with h3 h4; subst h3 h4; exact ⟨v', he, ho, h1, h2⟩)⟩

theorem rs_sum (last : Int) (u : Nat) (h0 : -1 ≤ last) (h : (u : Int) ≤ 9223372036854775806 - last) : wrap64 (last + wrap64 ((u : Int) + 1)) = last + u + 1 := by
  simp only [wrap64]; omega
end Go.Proofs.YthnpbfadblcicaaDoor
