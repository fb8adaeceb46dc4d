/- Merged: GetP, GetA, GetL. -/
import Derived.Test.YthnpbfadblcicaaDoorZG2
import Derived.Test.YthnpbfadblcicaaDoorZNum
import Derived.Test.YthnpbfadblcicaaDoorZRAll
import Derived.OwnWalk
import Derived.Test.YthnpbfadblcicaaDoorZG3
import Derived.Test.YthnpbfadblcicaaDoorZG9
/- Plain: how the document reads numbers from the top down. -/
namespace Go.Proofs.YthnpbfadblcicaaDoor
set_option linter.unusedVariables false

/-- Seven bits a byte, the lowest first. -/
def hor : List UInt8 → Nat
  | [] => 0
  | x :: r => x.toNat % 128 + 128 * hor r
theorem hor_snoc : ∀ (a : List UInt8) (x : UInt8), hor (a ++ [x]) = hor a + x.toNat % 128 * 2 ^ (7 * a.length)
  | [], x => by simp [hor]
  | y :: a, x => by
    have := hor_snoc a x
    rw [List.cons_append, hor, hor, this, List.length_cons, show 7 * (a.length + 1) = 7 * a.length + 7 by omega, Nat.pow_add]
    rw [Nat.mul_add, ← Nat.add_assoc]
    congr 1
    rw [show (2 : Nat) ^ 7 = 128 by rfl, Nat.mul_left_comm, Nat.mul_comm 128]
theorem hor_drop_le : ∀ (l : List UInt8) (i : Nat), hor (l.drop i) ≤ hor l
  | [], i => by simp
  | x :: r, 0 => by simp
  | x :: r, i + 1 => by
    have := hor_drop_le r i
    rw [List.drop_succ_cons, hor]; omega
theorem hor_step {l : List UInt8} {i : Nat} (h : i < l.length) : hor (l.drop i) = 128 * hor (l.drop (i + 1)) + l[i].toNat % 128 := by
  rw [List.drop_eq_getElem_cons h, hor]; omega
theorem leN_step {l : List UInt8} {i : Nat} (h : i < l.length) : leN (l.drop i) = 256 * leN (l.drop (i + 1)) + l[i].toNat := by
  rw [List.drop_eq_getElem_cons h, leN]; omega
theorem leN_drop_le : ∀ (l : List UInt8) (i : Nat), leN (l.drop i) ≤ leN l
  | [], i => by simp
  | x :: r, 0 => by simp
  | x :: r, i + 1 => by
    have := leN_drop_le r i
    rw [List.drop_succ_cons, leN]; omega

/-- The first n bytes of L go on: what is to be read is what is read behind them. -/
structure Scan (L : List UInt8) (n : Nat) : Prop where
  le : n ≤ L.length
  n9 : n ≤ 9
  eq : getU L = rdU n (hor (L.take n)) (L.drop n)
theorem scan_zero (L : List UInt8) : Scan L 0 := ⟨Nat.zero_le _, by omega, rfl⟩
theorem Scan.short {L : List UInt8} {n : Nat} (h : Scan L n) (hn : L.length ≤ n) : getU L = .error 1 := by
  rw [h.eq, List.drop_eq_nil_of_le hn, rdU]
theorem Scan.here {L : List UInt8} {n : Nat} (h : Scan L n) (hn : n < L.length) : getU L =
    if n = 9 ∧ 1 < L[n].toNat then .error 2
    else if 128 ≤ L[n].toNat then rdU (n + 1) (hor (L.take (n + 1))) (L.drop (n + 1))
    else if L[n].toNat = 0 ∧ 0 < n then .error 2
    else .ok (hor (L.take (n + 1)), n + 1) := by
  have e : hor (L.take (n + 1)) = hor (L.take n) + L[n].toNat % 128 * 2 ^ (7 * n) := by
    rw [List.take_add_one, List.getElem?_eq_getElem hn, Option.toList_some, hor_snoc, List.length_take, Nat.min_eq_left (by omega)]
  rw [h.eq, List.drop_eq_getElem_cons hn, rdU, e]
theorem Scan.ten {L : List UInt8} {n : Nat} (h : Scan L n) (hn : n < L.length) (h9 : n = 9) (h1 : 1 < L[n].toNat) : getU L = .error 2 := by
  rw [h.here hn, if_pos ⟨h9, h1⟩]
theorem Scan.next {L : List UInt8} {n : Nat} (h : Scan L n) (hn : n < L.length) (h1 : 128 ≤ L[n].toNat) (h9 : ¬ (n = 9 ∧ 1 < L[n].toNat)) : Scan L (n + 1) :=
  ⟨hn, by have := h.n9; by_cases e : n = 9; exact absurd ⟨e, by omega⟩ h9; omega, by rw [h.here hn, if_neg h9, if_pos h1]⟩
theorem Scan.zero {L : List UInt8} {n : Nat} (h : Scan L n) (hn : n < L.length) (h0 : L[n].toNat = 0) (hp : 0 < n) : getU L = .error 2 := by
  rw [h.here hn, if_neg (by omega), if_neg (by omega), if_pos ⟨h0, hp⟩]
theorem Scan.ok {L : List UInt8} {n : Nat} (h : Scan L n) (hn : n < L.length) (h9 : ¬ (n = 9 ∧ 1 < L[n].toNat)) (h1 : L[n].toNat < 128) (h0 : ¬ (L[n].toNat = 0 ∧ 0 < n)) : getU L = .ok (hor (L.take (n + 1)), n + 1) := by
  rw [h.here hn, if_neg h9, if_neg (by omega), if_neg h0]
/-- Where a number stands: its value from place i on. -/
theorem hor_take_step {L : List UInt8} {n i : Nat} (hn : n ≤ L.length) (hi : i < n) : hor ((L.take n).drop i) = 128 * hor ((L.take n).drop (i + 1)) + (L[i]'(by omega)).toNat % 128 := by
  rw [hor_step (l := L.take n) (i := i) (by rw [List.length_take]; omega), List.getElem_take]
theorem leN_take_step {L : List UInt8} {n i : Nat} (hn : n ≤ L.length) (hi : i < n) : leN ((L.take n).drop i) = 256 * leN ((L.take n).drop (i + 1)) + (L[i]'(by omega)).toNat := by
  rw [leN_step (l := L.take n) (i := i) (by rw [List.length_take]; omega), List.getElem_take]
theorem take_drop_self {α : Type} (L : List α) (n : Nat) : (L.take n).drop n = [] := List.drop_eq_nil_of_le (by rw [List.length_take]; omega)

/-- A rising list, number by number: behind r, least above its last, K bytes taken. -/
structure RisAt (m : Nat) (L : List UInt8) (r : List Int) (least K : Nat) : Prop where
  hK : K ≤ L.length
  le : r.length ≤ m
  l63 : least ≤ 2 ^ 63
  rk : r.length ≤ K
  eq : getR m (-1) L = match getR (m - r.length) ((least : Int) - 1) (L.drop K) with
    | .error e => .error e
    | .ok (s, j) => .ok (r ++ s, K + j)
theorem ris_zero (m : Nat) (L : List UInt8) : RisAt m L [] 0 0 := ⟨Nat.zero_le _, Nat.zero_le _, Nat.zero_le _, Nat.zero_le _, by
  simp only [List.length_nil, Nat.sub_zero, List.drop_zero, List.nil_append, Nat.zero_add]
  show getR m (-1) L = match getR m (-1) L with | .error e => .error e | .ok (s, j) => .ok (s, j)
  cases getR m (-1) L <;> rfl⟩
theorem RisAt.step {m : Nat} {L : List UInt8} {r : List Int} {least K : Nat} (h : RisAt m L r least K) (hr : r.length < m) :
    (∀ e, getU (L.drop K) = .error e → getR m (-1) L = .error e) ∧
    (∀ u k, getU (L.drop K) = .ok (u, k) → (9223372036854775807 < (least : Int) + u → getR m (-1) L = .error 3) ∧ ((least : Int) + u ≤ 9223372036854775807 → RisAt m L (r ++ [(least : Int) + u]) (least + u + 1) (K + k))) := by
  obtain ⟨q, hq⟩ : ∃ q, m - r.length = q + 1 := ⟨m - r.length - 1, by omega⟩
  have he := h.eq
  rw [hq, getR] at he
  refine ⟨fun e hu => ?_, fun u k hu => ⟨fun hlt => ?_, fun hle => ⟨?_, ?_, by omega, ?_, ?_⟩⟩⟩
  · rw [hu] at he; exact he
  · rw [hu] at he; simp only at he; rw [if_pos (by omega)] at he; exact he
  · have := (getU_len hu).1; rw [List.length_drop] at this; have := h.hK; omega
  · simp; omega
  · have := (getU_len hu).2.1; have := h.rk; simp; omega
  · rw [hu] at he
    simp only at he
    rw [if_neg (by omega), List.drop_drop] at he
    rw [he, List.length_append, List.length_singleton, show m - (r.length + 1) = q by omega, show (((least + u + 1 : Nat) : Int) - 1) = (least : Int) - 1 + u + 1 by omega]
    cases getR q ((least : Int) - 1 + u + 1) (L.drop (K + k)) with
    | error e => rfl
    | ok y => obtain ⟨s, j⟩ := y; simp [Nat.add_assoc]; omega
theorem RisAt.done {m : Nat} {L : List UInt8} {r : List Int} {least K : Nat} (h : RisAt m L r least K) (hr : r.length = m) : getR m (-1) L = .ok (r, K) := by
  have he := h.eq
  rw [hr, Nat.sub_self, getR] at he
  simpa using he

/-- A number of w bits, from the top down. -/
theorem bits_step (X w k : Nat) (hk : k < w) : X % 2 ^ w / 2 ^ k = 2 * (X % 2 ^ w / 2 ^ (k + 1)) + X / 2 ^ k % 2 := by
  have e1 : X % 2 ^ w / 2 ^ (k + 1) = X % 2 ^ w / 2 ^ k / 2 := by rw [Nat.pow_succ, Nat.div_div_eq_div_mul]
  have e2 : X % 2 ^ w / 2 ^ k % 2 = X / 2 ^ k % 2 := by
    have e3 : 2 ^ w = 2 ^ k * 2 ^ (w - k) := by rw [← Nat.pow_add, Nat.add_sub_cancel' (by omega)]
    rw [e3, Nat.mod_mul_right_div_self, Nat.mod_mod_of_dvd]
    have := Nat.pow_dvd_pow 2 (show 1 ≤ w - k by omega)
    simpa using this
  rw [e1, ← e2]; omega
theorem bits_top (X w : Nat) : X % 2 ^ w / 2 ^ w = 0 := Nat.div_eq_of_lt (Nat.mod_lt _ (Nat.two_pow_pos w))
/-- One bit of the bytes. -/
theorem bit_at (l : List UInt8) (p : Nat) (h : p / 8 < l.length) : leN l / 2 ^ p % 2 = l[p / 8].toNat / 2 ^ (p % 8) % 2 := by
  have e : 2 ^ p = 256 ^ (p / 8) * 2 ^ (p % 8) := by
    rw [show (256 : Nat) = 2 ^ 8 by rfl, ← Nat.pow_mul, ← Nat.pow_add]; congr 1; omega
  rw [e, ← Nat.div_div_eq_div_mul, ← leN_get l (p / 8) h]
  generalize leN l / 256 ^ (p / 8) = Y
  have e3 : (256 : Nat) = 2 ^ (p % 8) * 2 ^ (8 - p % 8) := by rw [← Nat.pow_add, Nat.add_sub_cancel' (by omega)]
  rw [e3, Nat.mod_mul_right_div_self, Nat.mod_mod_of_dvd]
  have := Nat.pow_dvd_pow 2 (show 1 ≤ 8 - p % 8 by omega)
  simpa using this
theorem bit_zero_step (N p : Nat) (h : N / 2 ^ p % 2 = 0) : N / 2 ^ p = 0 ↔ N / 2 ^ (p + 1) = 0 := by
  rw [Nat.pow_succ, ← Nat.div_div_eq_div_mul]; omega
/-- One bit of the S bytes behind K1. -/
theorem bit_of {bs : List UInt8} {K1 S p : Nat} (hp : p < 8 * S) (hS : K1 + S ≤ bs.length) : leN ((bs.drop K1).take S) / 2 ^ p % 2 = (bs[K1 + p / 8]'(by omega)).toNat / 2 ^ (p % 8) % 2 := by
  rw [bit_at _ p (by rw [List.length_take, List.length_drop]; omega), List.getElem_take, List.getElem_drop]
/-- Place by place: no bit from T to p is set. -/
structure Clr (N T p : Nat) : Prop where
  le : T ≤ p
  eq : N / 2 ^ T = 0 ↔ N / 2 ^ p = 0
theorem clr_zero (N T : Nat) : Clr N T T := ⟨Nat.le_refl _, Iff.rfl⟩
theorem Clr.step {N T p : Nat} (h : Clr N T p) (hb : N / 2 ^ p % 2 = 0) : Clr N T (p + 1) := ⟨Nat.le_succ_of_le h.le, h.eq.trans (bit_zero_step N p hb)⟩
theorem Clr.set {N T p : Nat} (h : Clr N T p) (hb : N / 2 ^ p % 2 ≠ 0) : N / 2 ^ T ≠ 0 := fun h0 => by
  have := h.eq.1 h0; rw [this] at hb; exact hb rfl
theorem Clr.done {N T p S : Nat} (h : Clr N T p) (hp : p = 8 * S) (hN : N < 256 ^ S) : N / 2 ^ T = 0 := h.eq.2 (by
  rw [hp, Nat.pow_mul]; exact Nat.div_eq_of_lt hN)
/-- What Packed reads behind the count, case by case. -/
theorem pk_back {most : Int} {L : List UInt8} {n c : Nat} (hres : getUpto most L = .ok (n, c)) (hn0 : n ≠ 0) : getPk most L = match getPB n (L.drop c) with
    | .error e => .error e
    | .ok (r, j) => .ok (r, c + j) := by
  unfold getPk; rw [hres]; simp only [if_neg hn0]
  cases getPB n (L.drop c) with
  | error e => rfl
  | ok y => rfl
end Go.Proofs.YthnpbfadblcicaaDoor

/- The document's readers: a byte, a uvarint, a varint, a number up to most, a word. -/
namespace Go.Proofs.YthnpbfadblcicaaDoor
set_option linter.unusedVariables false
open Go.ChangeShapes Go.WideShapes Go.ChangeAt Go.RowKit

/-- What a reader of the document answers. -/
def DOut {α : Type} (w : World) (k : Nat) (zero : Value) (val : α → Value) (res : Except Nat (α × Nat)) (e : Ending) (w' : World) : Prop :=
  (∀ n, res = .error n → e = .returned (.tuple #[zero, .int .i64 k, .int .i64 n])) ∧
  (∀ x n, res = .ok (x, n) → e = .returned (.tuple #[val x, .int .i64 (k + n : Nat), .int .i64 0])) ∧ w = w'
theorem DOut.err {α : Type} {w : World} {k : Nat} {zero : Value} {val : α → Value} {res : Except Nat (α × Nat)} {e : Ending} {n : Nat} (hr : res = .error n) (he : e = .returned (.tuple #[zero, .int .i64 k, .int .i64 n])) : DOut w k zero val res e w :=
  ⟨fun m hm => (by rw [hr] at hm; injection hm with hm; subst hm; exact he), fun x m hm => (by rw [hr] at hm; cases hm), rfl⟩
theorem DOut.ok {α : Type} {w : World} {k : Nat} {zero : Value} {val : α → Value} {res : Except Nat (α × Nat)} {e : Ending} {x : α} {n : Nat} (hr : res = .ok (x, n)) (he : e = .returned (.tuple #[val x, .int .i64 (k + n : Nat), .int .i64 0])) : DOut w k zero val res e w :=
  ⟨fun m hm => (by rw [hr] at hm; cases hm), fun y m hm => (by rw [hr] at hm; injection hm with hm; injection hm with h3 h4; subst h3 h4; exact he), rfl⟩
theorem rd_bytes {w : World} {a : Option Addr} {n c : Nat} {l : List UInt8} (h : Rd w (.slice a n c) (bytesV l)) : n = l.length ∧ (0 < l.length → ∃ b o, a = some ⟨b, o, none⟩ ∧ ∀ (j : Nat) (hj : j < l.length), w.cell? ⟨b, o + j, none⟩ = some (.int .u8 (l[j].toNat : Nat))) := by
  obtain ⟨A, c', h, _, hg⟩ := h
  injection h with h1 h2 h3
  subst h1 h2 h3
  rw [bytesV_length] at hg ⊢
  refine ⟨rfl, fun h0 => ?_⟩
  obtain ⟨b, o, e, hg⟩ := hg h0
  exact ⟨b, o, e, fun j hj => hg j _ (bytesV_get l j hj)⟩


set_option maxRecDepth 100000 in
set_option maxHeartbeats 1000000 in
theorem rgu_any (w : World) (a : Option Addr) (n c : Nat) (bs : List UInt8) (hr : Rd w (.slice a n c) (bytesV bs)) (hl : bs.length ≤ 1000000000) (k : Nat) (hk : k ≤ bs.length) :
    Calls Tryd.prog 73 #[.slice a n c, .int .i64 k] w (DOut w k (.int .u64 0) (fun u : Nat => .int .u64 u) (getU (bs.drop k))) := by
  obtain ⟨rfl, hg⟩ := rd_bytes hr
  clear hr
  have HG := Lib.hid hg
  clear hg
  go_enter Tryd.func73, Tryd.ntmps73
  go_wp2
  go_loopw [7] (fun s wr => ∃ n : Nat, s = .int .i64 n ∧ Scan (bs.drop k) n ∧ w = wr) (fun s _ => 20 - (intOf s).toNat)
  case atStart => exact ⟨0, rfl, scan_zero _, rfl⟩
  case round =>
    obtain ⟨m, rfl, hs, rfl⟩ := hrel
    have h9 := hs.n9
    by_cases h : k + m < bs.length
    · obtain ⟨b, o, rfl, hg⟩ := HG.out (by omega)
      have hc := hg (k + m) h
      have hm : m < (bs.drop k).length := by rw [List.length_drop]; omega
      have hX : (bs.drop k)[m] = bs[k + m] := List.getElem_drop
      have hten := hs.ten hm
      have hnx := hs.next hm
      have hzr := hs.zero hm
      have hok := hs.ok hm
      rw [hX] at hten hnx hzr hok
      obtain ⟨x, hx⟩ : ∃ x, bs[k + m].toNat = x := ⟨_, rfl⟩
      have hx2 : x < 256 := by rw [← hx]; exact bs[k + m].toNat_lt
      rw [hx] at hc hten hnx hzr hok
      rw [show o + (k + m) = o + (k + m) from rfl] at hc
      have HT := Lib.hid hten
      have HN := Lib.hid hnx
      have HZ := Lib.hid hzr
      have HO := Lib.hid hok
      have q1 : (k : Int) + (m : Int) < (bs.length : Nat) := by omega
      clear hg hX hx hten hnx hzr hok hs
      go_upto_region 6 with fail
      go_cut [31] (fun s wx => w = wx ∧ s = .bool (decide (m = 9 ∧ 1 < x)))
      case first =>
        by_cases e1 : m = 9
        · by_cases e2 : 1 < x
          · have t1 : ((m : Int) + 1 == 10) = true := by simp; omega
            go_wp2
            all_goals go_meet
            exact ⟨rfl, congrArg Value.bool (decide_eq_decide.2 (by omega))⟩
          · have t1 : ((m : Int) + 1 == 10) = true := by simp; omega
            go_wp2
            all_goals go_meet
            exact ⟨rfl, congrArg Value.bool (decide_eq_decide.2 (by omega))⟩
        · have t1 : ((m : Int) + 1 == 10) = false := by simp; omega
          go_wp2
          all_goals go_meet
          exact ⟨rfl, congrArg Value.bool (decide_eq_false (fun h => by omega)).symm⟩
      case rest =>
        obtain ⟨rfl, rfl⟩ := hcut
        by_cases h1 : m = 9 ∧ 1 < x
        · rw [decide_eq_true h1]
          go_wp2
          go_ret3
          exact DOut.err (HT.out h1.1 h1.2) rfl
        · rw [decide_eq_false h1]
          by_cases h2 : 128 ≤ x
          · have hn := HN.out h2 h1
            have HN2 := Lib.hid hn
            have H1 := Lib.hid h1
            clear hn h1
            go_wp2
            go_roundw
            case rel => exact ⟨m + 1, by go_num, HN2.out, by first | rfl | trivial⟩
            case measure => simp [intOf]; omega
          · have H1 := Lib.hid h1
            clear h1
            go_upto_region 9 with fail
            go_cut [40] (fun s wx => w = wx ∧ s = .bool (decide (x = 0 ∧ 0 < m)))
            case first =>
              by_cases e1 : x = 0
              · by_cases e2 : 0 < m
                · have t1 : ((x : Int) == 0) = true := by simp; omega
                  go_wp2
                  all_goals go_meet
                  exact ⟨rfl, congrArg Value.bool (decide_eq_decide.2 (by omega))⟩
                · have t1 : ((x : Int) == 0) = true := by simp; omega
                  go_wp2
                  all_goals go_meet
                  exact ⟨rfl, congrArg Value.bool (decide_eq_decide.2 (by omega))⟩
              · have t1 : ((x : Int) == 0) = false := by simp; omega
                go_wp2
                all_goals go_meet
                exact ⟨rfl, congrArg Value.bool (decide_eq_false (fun h => by omega)).symm⟩
            case rest =>
              obtain ⟨rfl, rfl⟩ := hcut
              by_cases h3 : x = 0 ∧ 0 < m
              · rw [decide_eq_true h3]
                go_wp2
                go_ret3
                exact DOut.err (HZ.out h3.1 h3.2) rfl
              · rw [decide_eq_false h3]
                have hres := HO.out H1.out (by omega) h3
                have hV := (getU_ok hres).1
                have HR := Lib.hid hres
                have HV := Lib.hid hV
                clear hres hV h3
                have hb : k + (m + 1) ≤ bs.length := by omega
                go_wp2
                go_loopw [9, 10] (fun s9 s10 wr => ∃ j : Nat, j ≤ m + 1 ∧ s10 = .int .i64 ((j : Int) - 1) ∧ s9 = .int .u64 (hor (((bs.drop k).take (m + 1)).drop j) : Nat) ∧ w = wr) (fun _ s _ => (intOf s + 1).toNat)
                case atStart => exact ⟨m + 1, Nat.le_refl _, by go_num, by rw [take_drop_self]; rfl, rfl⟩
                case round =>
                  obtain ⟨j, hj, rfl, rfl, rfl⟩ := hrel
                  by_cases hj0 : j = 0
                  · subst hj0
                    go_wp2
                    go_ret3
                    refine DOut.ok HR.out ?_
                    rw [List.drop_zero]
                    go_num
                  · obtain ⟨i, rfl⟩ : ∃ i, j = i + 1 := ⟨j - 1, by omega⟩
                    obtain ⟨b', o', e', hg⟩ := HG.out (by omega)
                    injection e' with e'
                    injection e' with e1 e2
                    subst e1 e2
                    have hc2 := hg (k + i) (by omega)
                    have hst := hor_take_step (L := bs.drop k) (n := m + 1) (i := i) (by rw [List.length_drop]; omega) (by omega)
                    rw [List.getElem_drop] at hst
                    have hle := hor_drop_le ((bs.drop k).take (m + 1)) i
                    have hv2 := HV.out
                    obtain ⟨y, hy⟩ : ∃ y, bs[k + i].toNat = y := ⟨_, rfl⟩
                    have hy2 : y < 256 := by rw [← hy]; exact bs[k + i].toNat_lt
                    rw [hy] at hc2 hst
                    obtain ⟨V, hVV⟩ : ∃ V, hor (((bs.drop k).take (m + 1)).drop (i + 1)) = V := ⟨_, rfl⟩
                    rw [hVV] at hst ⊢
                    have q5 : 128 * (V : Int) + (y : Int) % 128 ≤ 18446744073709551615 := by omega
                    have q6 : (k : Int) + (i : Int) < (bs.length : Nat) := by omega
                    have HST := Lib.hid hst
                    clear hg hy hle hv2 hst hVV
                    rw [show (((i + 1 : Nat) : Int) - 1) = (i : Int) by omega]
                    go_wp2
                    go_roundw
                    case rel => exact ⟨i, by omega, by go_num, by rw [HST.out]; go_num, by first | rfl | trivial⟩
                    case measure => simp [intOf] <;> omega
    · have hres := hs.short (by rw [List.length_drop]; omega)
      have HR := Lib.hid hres
      clear hres hs
      go_wp2
      go_ret3
      exact DOut.err HR.out rfl


set_option maxRecDepth 100000 in
theorem rgt_any (w : World) (a : Option Addr) (n c : Nat) (bs : List UInt8) (hr : Rd w (.slice a n c) (bytesV bs)) (hl : bs.length ≤ 1000000000) (k : Nat) (hk : k ≤ bs.length) (most : Int) (hm0 : -9223372036854775808 ≤ most) (hm1 : most ≤ 9223372036854775807) :
    Calls Tryd.prog 64 #[.slice a n c, .int .i64 k, .int .i64 most] w (DOut w k (.int .i64 0) (fun u : Nat => .int .i64 u) (getUpto most (bs.drop k))) := by
  have C1 := rgu_any w a n c bs hr hl k hk
  clear hr
  cases hres : getU (bs.drop k) with
  | error q =>
    have hq := getU_err hres
    have hr2 : getUpto most (bs.drop k) = .error q := by unfold getUpto; rw [hres]
    have t1 : ((q : Int) != 0) = true := by simp; omega
    have HR := Lib.hid hr2
    clear hr2 hq
    go_enter Tryd.func64, Tryd.ntmps64
    go_wp2_with fail
    refine C1.mono ?_
    rintro e w' ⟨h1, _, rfl⟩
    obtain rfl := h1 q hres
    clear h1 C1 hres
    go_wp2
    go_ret3
    exact DOut.err HR.out rfl
  | ok y =>
    obtain ⟨u, q⟩ := y
    have hu := (getU_ok hres).1
    by_cases hlt : most < u
    · have hr2 : getUpto most (bs.drop k) = .error 3 := by unfold getUpto; rw [hres]; simp only; rw [if_pos hlt]
      have HR := Lib.hid hr2
      clear hr2
      go_enter Tryd.func64, Tryd.ntmps64
      go_wp2_with fail
      refine C1.mono ?_
      rintro e w' ⟨_, h2, rfl⟩
      obtain rfl := h2 u q hres
      clear h2 C1 hres
      by_cases hneg : most < 0
      · go_wp2
        go_ret3
        exact DOut.err HR.out rfl
      · obtain ⟨mm, rfl⟩ : ∃ mm : Nat, most = mm := ⟨most.toNat, by omega⟩
        have hlt' : mm < u := by omega
        go_wp2
        go_ret3
        exact DOut.err HR.out rfl
    · have hr2 : getUpto most (bs.drop k) = .ok (u, q) := by unfold getUpto; rw [hres]; simp only; rw [if_neg hlt]
      obtain ⟨mm, rfl⟩ : ∃ mm : Nat, most = mm := ⟨most.toNat, by omega⟩
      have hlt' : ¬ mm < u := by omega
      have HR := Lib.hid hr2
      clear hr2
      go_enter Tryd.func64, Tryd.ntmps64
      go_wp2_with fail
      refine C1.mono ?_
      rintro e w' ⟨_, h2, rfl⟩
      obtain rfl := h2 u q hres
      clear h2 C1 hres
      go_wp2
      go_ret3
      exact DOut.ok HR.out rfl

end Go.Proofs.YthnpbfadblcicaaDoor

/- The document's readers of lists: bytes, a text, a rising list, a packed list. -/
namespace Go.Proofs.YthnpbfadblcicaaDoor
set_option linter.unusedVariables false
open Go.ChangeShapes Go.WideShapes Go.ChangeAt Go.RowKit

/-- What a reader of lists of the document answers. -/
def DLs {α : Type} (t : TypeId) (w : World) (k : Nat) (f : List α → List Value) (res : Except Nat (List α × Nat)) (e : Ending) (w' : World) : Prop :=
  ∃ v, Below w.heap.size w w' ∧ (∀ n, res = .error n → e = .returned (.tuple #[v, .int .i64 k, .int .i64 n]) ∧ Own w' w.heap.size t v []) ∧
  (∀ x n, res = .ok (x, n) → e = .returned (.tuple #[v, .int .i64 (k + n : Nat), .int .i64 0]) ∧ Own w' w.heap.size t v (f x))
theorem DLs.err {α : Type} {t : TypeId} {w : World} {k : Nat} {f : List α → List Value} {res : Except Nat (List α × Nat)} {e : Ending} {w' : World} {n : Nat} {v : Value} (hr : res = .error n) (hb : Below w.heap.size w w') (he : e = .returned (.tuple #[v, .int .i64 k, .int .i64 n])) (hv : Own w' w.heap.size t v []) : DLs t w k f res e w' :=
  ⟨v, hb, fun m hm => (by rw [hr] at hm; injection hm with hm; subst hm; exact ⟨he, hv⟩), fun x m hm => (by rw [hr] at hm; cases hm)⟩
theorem DLs.ok {α : Type} {t : TypeId} {w : World} {k : Nat} {f : List α → List Value} {res : Except Nat (List α × Nat)} {e : Ending} {w' : World} {x : List α} {n : Nat} {v : Value} (hr : res = .ok (x, n)) (hb : Below w.heap.size w w') (he : e = .returned (.tuple #[v, .int .i64 (k + n : Nat), .int .i64 0])) (hv : Own w' w.heap.size t v (f x)) : DLs t w k f res e w' :=
  ⟨v, hb, fun m hm => (by rw [hr] at hm; cases hm), fun y m hm => (by rw [hr] at hm; injection hm with hm; injection hm with h3 h4; subst h3 h4; exact ⟨he, hv⟩)⟩
theorem rd_empty (w : World) (t : TypeId) : Rd (w.alloc (.cells #[] t)) (.slice (some ⟨w.heap.size, 0, none⟩) 0 0) [] := (own_empty w w.heap.size t (Nat.le_refl _)).rd
theorem below_al (w : World) (o : Obj) : Below w.heap.size w (w.alloc o) := (Below.refl _ w).alloc (Nat.le_refl _) o
theorem own_mid {w : World} {base : Nat} {av : Option Addr} {cv : Nat} {bs : List UInt8} (h : Own w base 5 (.slice av bs.length cv) (bytesV bs)) (K S : Nat) (hK : K + S ≤ bs.length) :
    (K < cv → ∃ g, av = some ⟨g, 0, none⟩ ∧ Rd w (.slice (some ⟨g, K, none⟩) S (cv - K)) (bytesV ((bs.drop K).take S))) ∧ (K = cv → Rd w (.slice av S 0) (bytesV ((bs.drop K).take S)) ∧ S = 0) := by
  have hcs : ((bs.drop K).take S).length = S := by rw [List.length_take, List.length_drop]; omega
  have hcap := own_cap h
  constructor
  · intro hk
    obtain ⟨g, rfl⟩ : ∃ g, av = some ⟨g, 0, none⟩ := by
      rcases h.shape with ⟨e, _⟩ | ⟨g, c, e, _⟩
      · injection e with _ _ e; omega
      · injection e with e _ _; exact ⟨g, e⟩
    refine ⟨g, rfl, _, cv - K, by rw [bytesV_length, hcs], by rw [bytesV_length, hcs]; omega, fun _ => ⟨g, K, rfl, fun j x hx => ?_⟩⟩
    have hjn : j < S := by have := (List.getElem?_eq_some_iff.1 hx).1; rw [bytesV_length, hcs] at this; exact this
    have e : (bytesV bs)[K + j]? = some x := by
      rw [← hx]; unfold bytesV
      rw [List.getElem?_map, List.getElem?_map, List.getElem?_take, if_pos hjn, List.getElem?_drop]
    exact h.get e
  · intro hk
    have hs0 : S = 0 := by omega
    exact ⟨⟨_, 0, by rw [bytesV_length, hcs], by rw [bytesV_length, hcs]; omega, fun h0 => by rw [bytesV_length, hcs] at h0; omega⟩, hs0⟩


theorem upto_err {most : Int} {L : List UInt8} {q : Nat} (h : getUpto most L = .error q) : q ≠ 0 := by
  unfold getUpto at h
  split at h
  · next e => injection h with h; have := getU_err e; omega
  · split at h
    · injection h with h; omega
    · cases h

set_option maxRecDepth 100000 in
set_option maxHeartbeats 4000000 in
theorem rgp_any (w : World) (a : Option Addr) (nn cc : Nat) (bs : List UInt8) (hr : Rd w (.slice a nn cc) (bytesV bs)) (hl : bs.length ≤ 100000000) (k : Nat) (hk : k ≤ bs.length) (most : Int) (hm0 : -9223372036854775808 ≤ most) (hm1 : most ≤ 9223372036854775807) :
    Calls Tryd.prog 74 #[.slice a nn cc, .int .i64 k, .int .i64 most] w (DLs 3 w k intL (toI (getPk most (bs.drop k)))) := by
  have C1 := rgt_any w a nn cc bs hr (by omega) k hk most hm0 hm1
  obtain ⟨rfl, hg⟩ := rd_bytes hr
  cases hres : getUpto most (bs.drop k) with
  | error q =>
    have hup : toI (getPk most (bs.drop k)) = .error q := by unfold getPk; rw [hres]; rfl
    have hq := upto_err hres
    have t1 : ((q : Int) != 0) = true := by simp; omega
    have HR := Lib.hid hup
    clear hup hq hr hg
    go_enter Tryd.func74, Tryd.ntmps74
    go_wp2_with fail
    refine C1.mono ?_
    rintro e w' ⟨h1, _, rfl⟩
    obtain rfl := h1 q hres
    clear h1 C1 hres
    go_wp2
    go_ret3
    exact DLs.err HR.out (below_al _ _) rfl (own_empty _ _ _ (by first | exact Nat.le_refl _ | exact hsz))
  | ok y =>
    obtain ⟨n, q⟩ := y
    obtain ⟨hgu, hum⟩ := getUpto_len hres
    have hlen := (getU_len hgu).1
    rw [List.length_drop] at hlen
    obtain ⟨K, hK⟩ : ∃ K, k + q = K := ⟨_, rfl⟩
    have hKl : K ≤ bs.length := by omega
    by_cases hn0 : n = 0
    · have hup : toI (getPk most (bs.drop k)) = .ok ([], q) := by unfold getPk; rw [hres]; simp only [if_pos hn0]; rfl
      have HR := Lib.hid hup
      subst hn0
      have HK := Lib.hid hK
      clear hup hr hg hgu hlen
      go_enter Tryd.func74, Tryd.ntmps74
      go_wp2_with fail
      refine C1.mono ?_
      rintro e w' ⟨_, h2, rfl⟩
      obtain rfl := h2 0 q hres
      clear h2 C1 hres
      rw [hK]
      clear hK
      go_wp2
      go_ret3
      exact DLs.ok HR.out (below_al _ _) (by rw [HK.out]; rfl) (own_empty _ _ _ (by first | exact Nat.le_refl _ | exact hsz))
    have t0 : ((n : Int) == 0) = false := by simp; omega
    have hpk := pk_back hres hn0
    rw [List.drop_drop, hK] at hpk
    by_cases hsh : bs.length ≤ K
    · have hup : toI (getPk most (bs.drop k)) = .error 1 := by rw [hpk, List.drop_eq_nil_of_le hsh]; rfl
      have HR := Lib.hid hup
      clear hup hr hg hgu hlen hpk hn0
      go_enter Tryd.func74, Tryd.ntmps74
      go_wp2_with fail
      refine C1.mono ?_
      rintro e w' ⟨_, h2, rfl⟩
      obtain rfl := h2 n q hres
      clear h2 C1 hres
      rw [hK]
      clear hK
      go_wp2
      go_ret3
      exact DLs.err HR.out (below_al _ _) rfl (own_empty _ _ _ (by first | exact Nat.le_refl _ | exact hsz))
    have hlt : K < bs.length := by omega
    obtain ⟨b, o, rfl, hgg⟩ := hg (by omega)
    have hcK := hgg K hlt
    have hdr : bs.drop K = bs[K] :: bs.drop (K + 1) := List.drop_eq_getElem_cons hlt
    rw [hdr, getPB] at hpk
    obtain ⟨m, hm⟩ : ∃ m, bs[K].toNat = m := ⟨_, rfl⟩
    have hm256 : m < 256 := by rw [← hm]; exact bs[K].toNat_lt
    rw [hm] at hcK hpk
    obtain ⟨K1, hK1⟩ : ∃ K1, K + 1 = K1 := ⟨_, rfl⟩
    rw [hK1] at hpk
    have HGG := Lib.hid hgg
    have HK := Lib.hid hK
    have HK1 := Lib.hid hK1
    have HRD := Lib.hid hr
    clear hgg hg hdr hgu hlen hn0 hm hr
    by_cases hlim : 63 < m ∨ (m = 0 ∧ 65536 < n)
    · have hup : toI (getPk most (bs.drop k)) = .error 3 := by rw [hpk, if_pos hlim]; rfl
      have HR := Lib.hid hup
      clear hup hpk hK1
      go_enter Tryd.func74, Tryd.ntmps74
      go_wp2_with fail
      refine C1.mono ?_
      rintro e w' ⟨_, h2, rfl⟩
      obtain rfl := h2 n q hres
      clear h2 C1 hres
      rw [hK]
      clear hK
      by_cases h63 : 63 < m
      · go_wp2
        go_ret3
        exact DLs.err HR.out (below_al _ _) rfl (own_empty _ _ _ (by first | exact Nat.le_refl _ | exact hsz))
      · have t1 : ((m : Int) == 0) = true := by simp; omega
        have h65 : 65536 < n := by omega
        clear hlim
        go_wp2
        go_ret3
        exact DLs.err HR.out (below_al _ _) rfl (own_empty _ _ _ (by first | exact Nat.le_refl _ | exact hsz))
    rw [if_neg hlim] at hpk
    have h63 : m ≤ 63 := by omega
    rcases Nat.eq_zero_or_pos m with hz | hpos
    · have hn65 : n ≤ 65536 := by omega
      have hup : toI (getPk most (bs.drop k)) = .ok (natI (unpack 0 n 0), q + 1) := by
        rw [hpk, hz]
        have e0 : leN ((bs.drop K1).take ((n * 0 + 7) / 8)) = 0 := by rw [Nat.mul_zero, show (0 + 7) / 8 = 0 by decide, List.take_zero]; rfl
        have h0 := widL_le (l := unpack 0 n 0) (k := 0) (fun x hx => (by have h1 := unpack_lt 0 n 0 x hx; have h2 : x = 0 := (by omega); rw [h2]; decide))
        have hc : widL (unpack 0 n 0) = 0 ∧ 0 / 2 ^ (n * 0) = 0 := ⟨by omega, by simp⟩
        rw [if_neg (by omega), e0, if_pos hc]
        simp [toI]
      subst hz
      have hmk := fun (w : World) => make_row elInts rfl n (by omega) (n : Int) rfl w
      have hown0 := own_lit w w.heap.size 3 (zerI n) (Nat.le_refl _) (by simp [zerI, maxLen]; omega)
      rw [show (zerI n).length = n by simp [zerI], ← madeZerI] at hown0
      have h65 : ¬ 65536 < n := by omega
      have hend : k + (q + 1) = K + 1 := by omega
      have HR := Lib.hid hup
      have HO := Lib.hid hown0
      have HE := Lib.hid hend
      clear hup hpk hlim hown0 hK1 hend
      go_enter Tryd.func74, Tryd.ntmps74
      go_wp2_with fail
      refine C1.mono ?_
      rintro e w' ⟨_, h2, rfl⟩
      obtain rfl := h2 n q hres
      clear h2 C1 hres
      rw [hK]
      clear hK
      go_wp2
      go_ret3
      refine DLs.ok HR.out (below_al _ _) (by rw [HE.out, Int.natCast_add]; rfl) ?_
      rw [zerI_eq]; exact HO.out
    obtain ⟨D, hD⟩ : ∃ D, bs.length = K1 + D := ⟨bs.length - K1, by omega⟩
    have hlenD : (bs.drop K1).length = D := by rw [List.length_drop]; omega
    rw [hlenD] at hpk
    have qD : (bs.length : Int) - ((K : Int) + 1) = (D : Int) := by omega
    have qd : 8 * (D : Int) / (m : Int) = ((D * 8 / m : Nat) : Int) := by rw [Nat.mul_comm D 8]; simp
    have tm : ((m : Int) == 0) = false := by simp; omega
    by_cases hfit : D * 8 / m < n
    · have hup : toI (getPk most (bs.drop k)) = .error 1 := by rw [hpk, if_pos ⟨hpos, hfit⟩]; rfl
      obtain ⟨Q, hQ⟩ : ∃ Q, D * 8 / m = Q := ⟨_, rfl⟩
      rw [hQ] at qd hfit
      have HR := Lib.hid hup
      clear hup hpk hlim hK1 hD hlenD hQ
      go_enter Tryd.func74, Tryd.ntmps74
      go_wp2_with fail
      refine C1.mono ?_
      rintro e w' ⟨_, h2, rfl⟩
      obtain rfl := h2 n q hres
      clear h2 C1 hres
      rw [hK]
      clear hK
      go_wp2
      go_ret3
      exact DLs.err HR.out (below_al _ _) rfl (own_empty _ _ _ (by first | exact Nat.le_refl _ | exact hsz))
    rw [if_neg (fun h => hfit h.2)] at hpk
    have hsz := packed_size hpos hfit
    obtain ⟨S, hS⟩ : ∃ S, (n * m + 7) / 8 = S := ⟨_, rfl⟩
    rw [hS] at hsz hpk
    obtain ⟨N, hN⟩ : ∃ N, leN ((bs.drop K1).take S) = N := ⟨_, rfl⟩
    rw [hN] at hpk
    have hNlt : N < 256 ^ S := by
      have h1 := leN_lt ((bs.drop K1).take S)
      rw [hN, List.length_take, hlenD, Nat.min_eq_left hsz] at h1; exact h1
    have hup : toI (getPk most (bs.drop k)) = if widL (unpack m n N) = m ∧ N / 2 ^ (n * m) = 0 then .ok (natI (unpack m n N), q + (1 + S)) else .error 4 := by rw [hpk]; exact if_toI _ _ _
    obtain ⟨Q, hQ⟩ : ∃ Q, D * 8 / m = Q := ⟨_, rfl⟩
    rw [hQ] at qd hfit
    obtain ⟨T, hT⟩ : ∃ T, n * m = T := ⟨_, rfl⟩
    have hTI : (n : Int) * (m : Int) = (T : Int) := by rw [← hT]; simp
    rw [hT] at hS hup
    have hnQ : n ≤ Q := by omega
    have hn9 : n ≤ 1000000000 := by
      have : Q ≤ 8 * D := by rw [← hQ, Nat.mul_comm 8]; exact Nat.div_le_self _ _
      omega
    have hQ8 : Q ≤ 8 * D := by rw [← hQ, Nat.mul_comm 8]; exact Nat.div_le_self _ _
    have hT8 : T ≤ 8 * D := by
      rw [← hT, Nat.mul_comm 8]
      exact (Nat.le_div_iff_mul_le hpos).1 (by omega)
    have hST : T ≤ 8 * S ∧ 8 * S < T + 8 := by omega
    have qS : ((T : Int) + 7) / 8 = (S : Int) := by omega
    have hKS : K1 + S ≤ bs.length := by omega
    have hend : k + (q + (1 + S)) = K1 + S := by omega
    have hm2 : (2 : Nat) ^ m ≤ 2 ^ 63 := Nat.pow_le_pow_right (by decide) h63
    have ho := own_empty w w.heap.size 3 (Nat.le_refl _)
    have hb := below_al w (.cells #[] 3)
    have HUP := Lib.hid hup
    have HE := Lib.hid hend
    have HT := Lib.hid hT
    have HN := Lib.hid hN
    have HNL := Lib.hid hNlt
    have HM2 := Lib.hid hm2
    have HO := Lib.hid ho
    have HB := Lib.hid hb
    have HST := Lib.hid hST
    have qK1 : (K : Int) + 1 = (K1 : Int) := by omega
    rw [qK1] at qD
    clear hK1 hup hpk hlim hD hlenD hQ hS hQ8 hsz hend hT hN hNlt hm2 ho hb hT8
    go_enter Tryd.func74, Tryd.ntmps74
    go_wp2_with fail
    refine C1.mono ?_
    rintro e w' ⟨_, h2, rfl⟩
    obtain rfl := h2 n q hres
    clear h2 C1 hres
    rw [hK]
    clear hK
    go_wp2
    try simp only [qd]
    clear qd
    go_loopw [14, 15] (fun s14 s15 wr => ∃ (i : Nat) (av : Option Addr) (cv : Nat), s15 = .int .i64 i ∧ i ≤ n ∧ s14 = .slice av i cv ∧ Own wr w.heap.size 3 (.slice av i cv) (intL (natI (unpack m i N))) ∧ Below w.heap.size w wr) (fun _ s _ => n - (intOf s).toNat)
    case atStart => exact ⟨0, _, _, rfl, Nat.zero_le _, rfl, HO.out, HB.out⟩
    case round =>
      clear HO HB
      obtain ⟨i, av, cv, rfl, hi, rfl, ho, hb⟩ := hrel
      have hsz := hb.size
      by_cases hlt : i < n
      · have hC : i * m + m ≤ T := by rw [← HT.out, ← Nat.succ_mul]; exact Nat.mul_le_mul_right _ hlt
        obtain ⟨I, hI⟩ : ∃ I, i * m = I := ⟨_, rfl⟩
        have hII : (i : Int) * (m : Int) = (I : Int) := by rw [← hI]; simp
        rw [hI] at hC
        have hmi : m * i = I := by rw [Nat.mul_comm]; exact hI
        have hun := unpack_succ m i N
        rw [hmi] at hun
        obtain ⟨X, hX⟩ : ∃ X, N / 2 ^ I = X := ⟨_, rfl⟩
        rw [hX] at hun
        have hXm : X % 2 ^ m < 2 ^ 63 := Nat.lt_of_lt_of_le (Nat.mod_lt _ (Nat.two_pow_pos m)) HM2.out
        have hbit : ∀ kk, kk < m → ∀ j8 r, I + kk = 8 * j8 + r → r < 8 → ∃ h : K1 + j8 < bs.length, X / 2 ^ kk % 2 = bs[K1 + j8].toNat / 2 ^ r % 2 := by
          intro kk hkk j8 r he hr8
          have h8 := HST.out
          have h1 := bit_of (bs := bs) (K1 := K1) (S := S) (p := I + kk) (by omega) hKS
          rw [HN.out] at h1
          have e1 : (I + kk) / 8 = j8 := by omega
          have e2 : (I + kk) % 8 = r := by omega
          refine ⟨by omega, ?_⟩
          simp only [e1, e2] at h1
          rw [← h1, ← hX, Nat.div_div_eq_div_mul, ← Nat.pow_add]
        obtain ⟨b', o', e', hgw⟩ := (rd_bytes (HRD.out.below hb (Nat.le_refl _))).2 (by omega)
        injection e' with e'
        injection e' with e1 e2
        subst e1 e2
        have HGW := Lib.hid hgw
        clear hgw
        have HI := Lib.hid hI
        have HUN := Lib.hid hun
        have HXM := Lib.hid hXm
        have HBIT := Lib.hid hbit
        have HOO := Lib.hid ho
        have HB := Lib.hid hb
        clear hI hmi hun hXm hbit ho hb hX
        go_wp2
        go_loopw [16, 17] (fun s16 s17 wx => ∃ j : Nat, j ≤ m ∧ s17 = .int .i64 ((j : Int) - 1) ∧ s16 = .int .i64 (X % 2 ^ m / 2 ^ j : Nat) ∧ wr = wx) (fun _ s _ => (intOf s + 1).toNat)
        case atStart => exact ⟨m, Nat.le_refl _, by go_num, by rw [bits_top]; rfl, rfl⟩
        case round =>
          obtain ⟨j, hj, rfl, rfl, rfl⟩ := hrel
          by_cases hj0 : j = 0
          · subst hj0
            rw [Nat.pow_zero, Nat.div_one]
            obtain ⟨Z, hZ⟩ : ∃ Z, X % 2 ^ m = Z := ⟨_, rfl⟩
            rw [hZ]
            have hoo := HOO.out
            have hL : (intL (natI (unpack m i N))).length < 1000000000000 := by rw [intL_length]; simp [natI, unpack_length]; omega
            have HZ := Lib.hid hZ
            clear hZ
            go_wp2_with (at_builtin; with_reducible refine ap1' elInts rfl hoo hL hsz rfl _ _ rfl rfl rfl ?_)
            intro v2 w2 g1 g2 g3 g4
            have e2 := ((Eff.refl (fun k => (Value.slice av i cv).ownBlock = some k) wr).grown g4 (fun i hi _ => hi)).below (B := w.heap.size) (fun i hi => (hoo.lt i hi).1) hsz
            obtain ⟨a2, c2, rfl⟩ := own_slice g1
            have hun := HUN.out
            rw [HZ.out] at hun
            have hg1 := own_to g1 (show _ = intL (natI (unpack m (i + 1) N)) by rw [hun]; simp [intL, natI])
            have hle : (intL (natI (unpack m i N)) ++ [Value.int .i64 (Z : Int)]).length = i + 1 := by simp [intL, natI, unpack_length]
            rw [hle] at hg1 ⊢
            have G1 := Lib.hid hg1
            have HB2 := Lib.hid (HB.out.trans e2)
            clear g1 g2 g3 g4 e2 hoo hL HOO HB hun hle hg1
            go_wp2
            go_roundw
            case rel => exact ⟨i + 1, a2, c2, by go_num, by omega, rfl, G1.out, HB2.out⟩
            case measure => simp [intOf]; omega
          · obtain ⟨kk, rfl⟩ : ∃ kk, j = kk + 1 := ⟨j - 1, by omega⟩
            obtain ⟨j8, r, hr8, hjr⟩ : ∃ j8 r : Nat, r < 8 ∧ I + kk = 8 * j8 + r := ⟨(I + kk) / 8, (I + kk) % 8, by omega, by omega⟩
            obtain ⟨hin, hbt⟩ := HBIT.out kk (by omega) j8 r hjr hr8
            have hcb := HGW.out (K1 + j8) hin
            have hst := bits_step X m kk (by omega)
            have hlX : X % 2 ^ m / 2 ^ kk < 2 ^ 63 := Nat.lt_of_le_of_lt (Nat.div_le_self _ _) HXM.out
            obtain ⟨y, hy⟩ : ∃ y, bs[K1 + j8].toNat = y := ⟨_, rfl⟩
            have hy256 : y < 256 := by rw [← hy]; exact bs[K1 + j8].toNat_lt
            rw [hy] at hcb hbt
            obtain ⟨β, hβ⟩ : ∃ β, y / 2 ^ r % 2 = β := ⟨_, rfl⟩
            have hβ2 : β < 2 := by rw [← hβ]; exact Nat.mod_lt _ (by decide)
            have hβe : (y : Int) / 2 ^ r % 2 = (β : Int) := by rw [← hβ]; simp
            have hq0 : (0 : Int) ≤ (y : Int) / 2 ^ r := Int.ediv_nonneg (by omega) (Int.pow_nonneg (by decide))
            rw [hbt, hβ] at hst
            obtain ⟨V, hV⟩ : ∃ V, X % 2 ^ m / 2 ^ (kk + 1) = V := ⟨_, rfl⟩
            rw [hV] at hst ⊢
            have q1 : ((I : Int) + (kk : Int)) % 8 = r := by omega
            have q2 : ((I : Int) + (kk : Int)) / 8 = j8 := by omega
            have q3 : (K1 : Int) + (j8 : Int) < (bs.length : Nat) := by omega
            have q4 : 2 * (V : Int) + (β : Int) ≤ 9223372036854775807 := by omega
            have q5 : (0 : Int) ≤ (r : Int) := by omega
            have q6 : (r : Int) ≤ 64 := by omega
            have HS := Lib.hid hst
            clear hbt hst hlX hy hβ hV hjr
            rw [show (((kk + 1 : Nat) : Int) - 1) = (kk : Int) by omega]
            go_wp2
            go_roundw
            case rel => exact ⟨kk, by omega, by go_num, by rw [HS.out]; go_num, by first | rfl | trivial⟩
            case measure => simp [intOf] <;> omega
      · obtain rfl : i = n := by omega
        have C2 := rwid_any wr av i cv (unpack m i N) ho.rd (by rw [unpack_length]; omega) (unpack_fits m i N h63)
        obtain ⟨b', o', e', hgw⟩ := (rd_bytes (HRD.out.below hb (Nat.le_refl _))).2 (by omega)
        injection e' with e'
        injection e' with e1 e2
        subst e1 e2
        have HGW := Lib.hid hgw
        have HOO := Lib.hid ho
        have HB := Lib.hid hb
        clear hgw ho hb
        go_wp2
        go_loopw [20] (fun s20 wx => ∃ p : Nat, s20 = .int .i64 p ∧ p ≤ 8 * S ∧ Clr N T p ∧ wr = wx) (fun s _ => 8 * S - (intOf s).toNat)
        case atStart => exact ⟨T, rfl, HST.out.1, clr_zero _ _, rfl⟩
        case round =>
          obtain ⟨p, rfl, hp, hclr, rfl⟩ := hrel
          by_cases hp8 : p < 8 * S
          · obtain ⟨j8, r, hr8, hjr⟩ : ∃ j8 r : Nat, r < 8 ∧ p = 8 * j8 + r := ⟨p / 8, p % 8, by omega, by omega⟩
            have hbt := bit_of (bs := bs) (K1 := K1) (S := S) (p := p) hp8 hKS
            rw [HN.out] at hbt
            have e1 : p / 8 = j8 := by omega
            have e2 : p % 8 = r := by omega
            have hin : K1 + j8 < bs.length := by omega
            simp only [e1, e2] at hbt
            have hcb := HGW.out (K1 + j8) hin
            obtain ⟨y, hy⟩ : ∃ y, bs[K1 + j8].toNat = y := ⟨_, rfl⟩
            have hy256 : y < 256 := by rw [← hy]; exact bs[K1 + j8].toNat_lt
            rw [hy] at hcb hbt
            obtain ⟨β, hβ⟩ : ∃ β, y / 2 ^ r % 2 = β := ⟨_, rfl⟩
            have hβ2 : β < 2 := by rw [← hβ]; exact Nat.mod_lt _ (by decide)
            have hβe : (y : Int) / 2 ^ r % 2 = (β : Int) := by rw [← hβ]; simp
            have hq0 : (0 : Int) ≤ (y : Int) / 2 ^ r := Int.ediv_nonneg (by omega) (Int.pow_nonneg (by decide))
            rw [hβ] at hbt
            have q1 : (p : Int) % 8 = r := by omega
            have q2 : (p : Int) / 8 = j8 := by omega
            have q3 : (K1 : Int) + (j8 : Int) < (bs.length : Nat) := by omega
            have q5 : (0 : Int) ≤ (r : Int) := by omega
            have q6 : (r : Int) ≤ 64 := by omega
            have hpI : (p : Int) < 8 * (S : Int) := by omega
            by_cases hb0 : β = 0
            · have hcl2 := hclr.step (by rw [hbt]; exact hb0)
              have tb : ((β : Int) != 0) = false := by simp; omega
              have HCL := Lib.hid hcl2
              clear hclr hcl2 hbt hy hβ e1 e2 hjr hb0
              go_wp2
              go_roundw
              case rel => exact ⟨p + 1, by go_num, by omega, HCL.out, by first | rfl | trivial⟩
              case measure => simp [intOf]; omega
            · have hset := hclr.set (by rw [hbt]; exact hb0)
              have hres2 := HUP.out
              rw [if_neg (fun h => hset h.2)] at hres2
              have tb : ((β : Int) != 0) = true := by simp; omega
              have HR2 := Lib.hid hres2
              clear hclr hset hbt hy hβ e1 e2 hjr hb0 hres2
              go_wp2
              go_ret3
              exact DLs.err HR2.out (HB.out.alloc hsz _) rfl (own_empty _ _ _ (by first | exact Nat.le_refl _ | exact hsz))
          · have hdone := hclr.done (S := S) (by omega) HNL.out
            have hpI : ¬ (p : Int) < 8 * (S : Int) := by omega
            have hres2 := HUP.out
            have HD := Lib.hid hdone
            have HR2 := Lib.hid hres2
            clear hclr hdone hres2
            go_wp2_with fail
            refine C2.mono ?_
            rintro e w' ⟨rfl, rfl⟩
            clear C2
            by_cases hw : widL (unpack m i N) = m
            · have hres3 := HR2.out
              rw [if_pos ⟨hw, HD.out⟩] at hres3
              have tw : (((widL (unpack m i N) : Nat) : Int) != (m : Int)) = false := by rw [hw]; simp
              have HR3 := Lib.hid hres3
              clear hres3 hw
              go_wp2
              go_ret3
              exact DLs.ok HR3.out HB.out (by rw [HE.out, Int.natCast_add]; rfl) HOO.out
            · have hres3 := HR2.out
              rw [if_neg (fun h => hw h.1)] at hres3
              have tw : (((widL (unpack m i N) : Nat) : Int) != (m : Int)) = true := by simp; omega
              have HR3 := Lib.hid hres3
              clear hres3 hw
              go_wp2
              go_ret3
              exact DLs.err HR3.out (HB.out.alloc hsz _) rfl (own_empty _ _ _ (by first | exact Nat.le_refl _ | exact hsz))
end Go.Proofs.YthnpbfadblcicaaDoor
