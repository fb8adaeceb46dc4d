/- The document's dictionary: take. -/
import Derived.Test.YtfeldllcpeibcaaDoorRef6C
namespace Go.Proofs.YtfeldllcpeibcaaDoor
set_option linter.unusedVariables false
open Go.ChangeShapes Go.WideShapes Go.ChangeAt Go.RowKit

/-- A number of at most m bytes: the number, and how many. -/
def tkR : Nat → Nat → Nat → List UInt8 → Option (Nat × Nat)
  | 0, _, _, _ => none
  | _ + 1, _, _, [] => none
  | m + 1, n, f, x :: r => if x.toNat < 128 then some (n + x.toNat % 128 * f, 1) else (tkR m (n + x.toNat % 128 * f) (f * 128) r).map fun y => (y.1, y.2 + 1)
/-- The number at p, and the place behind it. -/
def tk (bs : List UInt8) (p : Nat) : Option (Nat × Nat) := (tkR 5 0 1 (bs.drop p)).map fun y => (y.1, p + y.2)
def tkO (bs : List UInt8) (po : Option Nat) : Option (Nat × Nat) := po.bind (tk bs)
def encP : Option Nat → Int
  | none => -1
  | some p => p
def valO : Option (Nat × Nat) → Nat
  | none => 0
  | some y => y.1
def posO (r : Option (Nat × Nat)) : Option Nat := r.map (·.2)
theorem tkR_le : ∀ (m n f : Nat) (l : List UInt8) (u k : Nat), tkR m n f l = some (u, k) → k ≤ l.length
  | 0, _, _, _, _, _, h => by simp [tkR] at h
  | _ + 1, _, _, [], _, _, h => by simp [tkR] at h
  | m + 1, n, f, x :: r, u, k, h => by
    unfold tkR at h
    split at h
    · injection h with h; injection h with _ h; simp; omega
    · obtain ⟨y, hy, he⟩ := Option.map_eq_some_iff.1 h
      injection he with _ he
      have := tkR_le m _ _ r y.1 y.2 hy
      simp; omega
theorem tk_le {bs : List UInt8} {p u k : Nat} (h : tk bs p = some (u, k)) (hp : p ≤ bs.length) : k ≤ bs.length := by
  obtain ⟨y, hy, he⟩ := Option.map_eq_some_iff.1 h
  injection he with _ he
  have := tkR_le 5 _ _ _ y.1 y.2 hy
  rw [List.length_drop] at this
  omega
theorem tkO_le {bs : List UInt8} {po : Option Nat} (h : ∀ p, po = some p → p ≤ bs.length) : ∀ p, posO (tkO bs po) = some p → p ≤ bs.length := by
  intro p hp
  unfold posO tkO at hp
  cases po with
  | none => simp at hp
  | some q =>
    obtain ⟨y, hy, he⟩ := Option.map_eq_some_iff.1 hp
    have := tk_le (u := y.1) (k := y.2) hy (h q rfl)
    omega
def powT : Nat → Nat
  | 0 => 1
  | 1 => 128
  | 2 => 16384
  | 3 => 2097152
  | 4 => 268435456
  | _ => 34359738368
set_option maxRecDepth 100000 in
theorem take_neg (w : World) (v : Value) : Calls Tryd.prog 49 #[v, .int .i64 (-1)] w fun e w' => e = .returned (.tuple #[.int .i64 0, .int .i64 (-1)]) ∧ w = w' := by
  go_enter Tryd.func49, Tryd.ntmps49
  go_wp2
  go_loopw [6, 7, 8] (fun s6 s7 s8 wr => s8 = .int .i64 (-1) ∧ wr = w) (fun _ _ _ _ => 0)
  case atStart => exact ⟨rfl, rfl⟩
  case round =>
    obtain ⟨rfl, rfl⟩ := hrel
    go_wp2
    go_ret2
    exact ⟨rfl, rfl⟩
set_option maxRecDepth 100000 in
set_option maxHeartbeats 2000000 in
theorem take_pos (w : World) (a : Option Addr) (n c : Nat) (bs : List UInt8) (hr : Rd w (.slice a n c) (bytesV bs)) (hbs : bs.length ≤ 1000000000) (p : Nat) (hp : p ≤ bs.length) :
    Calls Tryd.prog 49 #[.slice a n c, .int .i64 p] w fun e w' => e = .returned (.tuple #[.int .i64 (valO (tk bs p) : Nat), .int .i64 (encP (posO (tk bs p)))]) ∧ w = w' := by
  have hnl : n = bs.length := by obtain ⟨A, c', h, _⟩ := hr; injection h with _ h _; rw [h, bytesV_length]
  subst hnl
  have hcell : ∀ j (h : j < bs.length), ∃ b o, a = some ⟨b, o, none⟩ ∧ w.cell? ⟨b, o + j, none⟩ = some (.int .u8 (bs[j].toNat : Nat)) := fun j h => by
    obtain ⟨A, c', e, _, hc⟩ := hr
    injection e with e1 _ _
    obtain ⟨b, o, e2, hg⟩ := hc (by rw [bytesV_length]; omega)
    exact ⟨b, o, e1.trans e2, hg j _ (bytesV_get bs j h)⟩
  obtain ⟨RES, hRES⟩ : ∃ RES, tk bs p = RES := ⟨_, rfl⟩
  rw [hRES]
  have h0 : RES = (tkR (5 - 0) 0 (powT 0) (bs.drop (p + 0))).map fun y => (y.1, p + 0 + y.2) := by rw [← hRES]; rfl
  have HC := Lib.hid hcell
  have H0 := Lib.hid h0
  clear hr hcell hRES h0
  go_enter Tryd.func49, Tryd.ntmps49
  go_wp2
  go_loopw [6, 7, 8] (fun s6 s7 s8 wr => ∃ (j m : Nat), j ≤ 5 ∧ p + j ≤ bs.length ∧ m < powT j ∧ s6 = .int .i64 m ∧ s7 = .int .i64 (powT j : Nat) ∧ s8 = .int .i64 (p + j : Nat) ∧ wr = w ∧ RES = (tkR (5 - j) m (powT j) (bs.drop (p + j))).map fun y => (y.1, p + j + y.2)) (fun _ _ s8 _ => p + 5 - (intOf s8).toNat)
  case atStart => exact ⟨0, 0, by omega, by omega, by decide, rfl, rfl, rfl, rfl, H0.out⟩
  case round =>
    clear H0
    obtain ⟨j, m, hj5, hjl, hm, rfl, rfl, rfl, rfl, hres⟩ := hrel
    by_cases hlt : p + j < bs.length
    · by_cases h5 : j < 5
      · obtain ⟨b, o, rfl, hc⟩ := HC.out (p + j) hlt
        have hdr : bs.drop (p + j) = bs[p + j] :: bs.drop (p + j + 1) := List.drop_eq_getElem_cons hlt
        obtain ⟨x, hx⟩ : ∃ x, bs[p + j] = x := ⟨_, rfl⟩
        rw [hx] at hdr hc
        rw [hdr, show 5 - j = (5 - (j + 1)) + 1 by omega, show tkR ((5 - (j + 1)) + 1) m (powT j) (x :: bs.drop (p + j + 1)) = if x.toNat < 128 then some (m + x.toNat % 128 * powT j, 1) else (tkR (5 - (j + 1)) (m + x.toNat % 128 * powT j) (powT j * 128) (bs.drop (p + j + 1))).map fun y => (y.1, y.2 + 1) from rfl] at hres
        have hx8 := x.toNat_lt
        obtain ⟨xn, hxn⟩ : ∃ xn, x.toNat = xn := ⟨_, rfl⟩
        rw [hxn] at hres hc hx8
        obtain ⟨z, hz⟩ : ∃ z, p + j = z := ⟨_, rfl⟩
        obtain ⟨F, hF⟩ : ∃ F, powT j = F := ⟨_, rfl⟩
        have hF2 : powT (j + 1) = F * 128 := by
          rw [← hF]
          match j, h5 with
          | 0, _ => rfl
          | 1, _ => rfl
          | 2, _ => rfl
          | 3, _ => rfl
          | 4, _ => rfl
        have hF1 : F ≤ 268435456 := by
          rw [← hF]
          match j, h5 with
          | 0, _ => decide
          | 1, _ => decide
          | 2, _ => decide
          | 3, _ => decide
          | 4, _ => decide
        rw [hF] at hm hres
        rw [hz] at hres hc
        rw [hF, hz]
        have i1 : (z : Int) < (bs.length : Int) := by omega
        have i2 : (z : Int) < (p : Int) + 5 := by omega
        have hP : xn % 128 * F ≤ 127 * F := Nat.mul_le_mul_right _ (by omega)
        have hPc : ((xn % 128 * F : Nat) : Int) = (xn : Int) % 128 * (F : Int) := by rw [Int.natCast_mul]; rfl
        have hP0 : 0 ≤ (xn : Int) % 128 * (F : Int) := by omega
        have hP1 : (xn : Int) % 128 * (F : Int) ≤ 34359738368 := by omega
        have hP2 : xn % 128 * F ≤ 34359738368 := by omega
        have hmP : m + xn % 128 * F < F * 128 := by omega
        have HPC := Lib.hid hPc
        have HF2 := Lib.hid hF2
        have HR := Lib.hid hres
        have HZ := Lib.hid hz
        have HMP := Lib.hid hmP
        clear hres hdr hx hxn hF hF2 hz hPc hP hmP
        by_cases hx1 : xn < 128
        · have hrr : RES = some (m + xn % 128 * F, z + 1) := by rw [HR.out, if_pos hx1]; rfl
          have HRR := Lib.hid hrr
          have t1 : decide ((xn : Int) < 128) = true := decide_eq_true (by omega)
          clear hrr HR hx1
          go_wp2
          go_ret2
          rw [HRR.out]
          refine ⟨?_, rfl⟩
          simp only [valO, posO, encP, Option.map_some]
          rw [Int.natCast_add, HPC.out]; rfl
        · have hrr : RES = (tkR (5 - (j + 1)) (m + xn % 128 * F) (powT (j + 1)) (bs.drop (p + (j + 1)))).map fun y => (y.1, p + (j + 1) + y.2) := by
            rw [HR.out, if_neg hx1, Option.map_map, HF2.out, show p + (j + 1) = z + 1 by have := HZ.out; omega]
            congr 1; funext y; simp; omega
          have HRR := Lib.hid hrr
          have t1 : decide ((xn : Int) < 128) = false := decide_eq_false (by omega)
          clear hrr HR hx1
          go_wp2
          go_roundw
          case rel => exact ⟨j + 1, m + xn % 128 * F, by omega, by have := HZ.out; omega, by rw [HF2.out]; exact HMP.out, by rw [Int.natCast_add, HPC.out], by rw [HF2.out]; go_num, by rw [show p + (j + 1) = z + 1 by have := HZ.out; omega]; go_num, by first | rfl | trivial, HRR.out⟩
          case measure => have := HZ.out; simp [intOf]; omega
      · have hj : j = 5 := by omega
        have hrr : RES = none := by rw [hres, hj]; rfl
        have HRR := Lib.hid hrr
        obtain ⟨z, hz⟩ : ∃ z, p + j = z := ⟨_, rfl⟩
        obtain ⟨F, hF⟩ : ∃ F, powT j = F := ⟨_, rfl⟩
        rw [hF, hz]
        have i1 : (z : Int) < (bs.length : Int) := by omega
        have t2 : decide ((z : Int) < (p : Int) + 5) = false := decide_eq_false (by omega)
        clear hrr hres hj hF hz h5 hm
        go_wp2
        go_ret2
        rw [HRR.out]
        exact ⟨rfl, rfl⟩
    · have hrr : RES = none := by
        rw [hres, List.drop_eq_nil_of_le (by omega)]
        cases h : 5 - j with
        | zero => rfl
        | succ k => rfl
      have HRR := Lib.hid hrr
      obtain ⟨z, hz⟩ : ∃ z, p + j = z := ⟨_, rfl⟩
      obtain ⟨F, hF⟩ : ∃ F, powT j = F := ⟨_, rfl⟩
      rw [hF, hz]
      have t2 : decide (z < bs.length) = false := decide_eq_false (by omega)
      clear hrr hres hF hz hlt hm
      go_wp2
      go_ret2
      rw [HRR.out]
      exact ⟨rfl, rfl⟩
theorem take_any (w : World) (a : Option Addr) (n c : Nat) (bs : List UInt8) (hr : Rd w (.slice a n c) (bytesV bs)) (hbs : bs.length ≤ 1000000000) (po : Option Nat) (hp : ∀ p, po = some p → p ≤ bs.length) :
    Calls Tryd.prog 49 #[.slice a n c, .int .i64 (encP po)] w fun e w' => e = .returned (.tuple #[.int .i64 (valO (tkO bs po) : Nat), .int .i64 (encP (posO (tkO bs po)))]) ∧ w = w' := by
  cases po with
  | none => exact take_neg w _
  | some p => exact take_pos w a n c bs hr hbs p (hp p rfl)
end Go.Proofs.YtfeldllcpeibcaaDoor
