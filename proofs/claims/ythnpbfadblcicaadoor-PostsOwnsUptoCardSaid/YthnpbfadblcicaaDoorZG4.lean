/- Merged: Cat, RdN. -/
import Derived.Test.YthnpbfadblcicaaDoorZG3
import Derived.Laws.CopyOwn
import Derived.Test.YthnpbfadblcicaaDoorZLib
/- codec.Concat: the bytes of all parts, in a block of their own. -/
namespace Go.Proofs.YthnpbfadblcicaaDoor
set_option linter.unusedVariables false
open Go.ChangeShapes Go.WideShapes Go.ChangeAt Go.RowKit

def catL (B : Nat → List UInt8) (n : Nat) : List UInt8 := (List.range n).flatMap B
theorem catL_succ (B : Nat → List UInt8) (n : Nat) : catL B (n + 1) = catL B n ++ B n := by simp [catL, List.range_succ, List.flatMap_append]
theorem catL_mono (B : Nat → List UInt8) {i n : Nat} (h : i ≤ n) : (catL B i).length ≤ (catL B n).length := by
  induction n with
  | zero => have : i = 0 := by omega
            subst this; exact Nat.le_refl _
  | succ n ih =>
    rcases Nat.lt_or_ge n i with h1 | h1
    · have : i = n + 1 := by omega
      subst this; exact Nat.le_refl _
    · have := ih h1; rw [catL_succ, List.length_append]; omega
theorem catL_congr {B D : Nat → List UInt8} {n : Nat} (h : ∀ k, k < n → B k = D k) : catL B n = catL D n := by
  induction n with
  | zero => rfl
  | succ n ih => rw [catL_succ, catL_succ, ih (fun k hk => h k (by omega)), h n (Nat.lt_succ_self n)]
def zer (n : Nat) : List Value := List.replicate n (.int .u8 0)
theorem madeZer (N : Nat) : madeCells #[.int .u8 0] N = (zer N).toArray := by
  refine Array.ext (by rw [size_madeCells]; simp [zer]) fun i h1 h2 => ?_
  simp [madeCells, zer, Nat.mod_one]
/-- Each of ls reads, the k-th B k. -/
def Rds (w : World) (ls : List Value) (B : Nat → List UInt8) : Prop := ∀ k x, ls[k]? = some x → Rd w x (bytesV (B k))
theorem cat_splice (B : Nat → List UInt8) (N i : Nat) (h : (catL B (i + 1)).length ≤ N) :
    splice (bytesV (catL B i) ++ zer (N - (catL B i).length)) (catL B i).length (bytesV (B i)) = bytesV (catL B (i + 1)) ++ zer (N - (catL B (i + 1)).length) := by
  rw [catL_succ, List.length_append] at h
  unfold splice
  rw [catL_succ, List.take_left' (bytesV_length _), List.drop_append, bytesV_append, List.drop_eq_nil_of_le (by rw [bytesV_length, bytesV_length]; omega), bytesV_length, bytesV_length, List.length_append]
  unfold zer
  rw [List.drop_replicate]
  simp only [List.append_assoc, List.nil_append]
  congr 3
  omega

set_option maxRecDepth 100000 in
set_option maxHeartbeats 2000000 in
theorem cat_any (w : World) (a : Option Addr) (m c : Nat) (ls : List Value) (B : Nat → List UInt8) (hr : Rd w (.slice a m c) ls) (hB : Rds w ls B) (hl : ls.length ≤ 1000000000) (hn : (catL B ls.length).length ≤ 1000000000) :
    Calls Tryd.prog 35 #[.slice a m c] w fun e w' => ∃ v, e = .returned v ∧ Own w' w.heap.size 5 v (bytesV (catL B ls.length)) ∧ Below w.heap.size w w' := by
  have hm : m = ls.length := by obtain ⟨A, c', h, _⟩ := hr; injection h with _ h _
  subst hm
  have HB := Lib.hid hB
  have HR := Lib.hid hr
  clear hB hr
  have he : (Tryd.prog.info? 5).map (·.size) = some 1 := by kernel_rfl
  have hmon : ∀ i, i ≤ ls.length → (catL B i).length ≤ (catL B ls.length).length := fun i h => catL_mono B h
  have HM := Lib.hid hmon
  clear hmon
  go_enter Tryd.func35, Tryd.ntmps35
  go_wp2
  go_loopw [3, 12] (fun s3 s12 wr => ∃ i : Nat, s12 = .int .i64 i ∧ i ≤ ls.length ∧ s3 = .int .i64 ((catL B i).length : Nat) ∧ w = wr) (fun _ s _ => ls.length - (intOf s).toNat)
  case atStart => exact ⟨0, rfl, Nat.zero_le _, rfl, rfl⟩
  case round =>
    obtain ⟨i, rfl, hi, rfl, rfl⟩ := hrel
    by_cases hlt : i < ls.length
    · obtain ⟨A, c', h, hc, hgg⟩ := HR.out
      obtain ⟨b, o, rfl, hg⟩ := hgg (by omega)
      injection h with ha _ _
      subst ha
      obtain ⟨x, hx⟩ : ∃ x, ls[i]? = some x := ⟨_, List.getElem?_eq_getElem hlt⟩
      have hcx := hg i x hx
      obtain ⟨A2, c2, rfl, _, _⟩ := HB.out i x hx
      rw [bytesV_length] at hcx
      have h1 := HM.out (i + 1) hlt
      rw [catL_succ, List.length_append] at h1
      have h2 : ((catL B i).length : Int) + ((B i).length : Int) ≤ 1000000000 := by omega
      clear hg hgg hx
      go_wp2
      go_roundw
      case rel => exact ⟨i + 1, by go_num, by omega, by rw [catL_succ, List.length_append]; go_num, trivial⟩
      case measure => simp [intOf]; omega
    · obtain rfl : i = ls.length := by omega
      obtain ⟨N, hN⟩ : ∃ N, (catL B ls.length).length = N := ⟨_, rfl⟩
      have hNb : (N : Int) ≤ 1000000000 := by omega
      have hNb2 : N ≤ 1000000000000 := by omega
      have hN2 := Lib.hid hN
      clear hi hlt hn
      rw [hN]
      clear hN
      have hmk := fun (w : World) => make_row elBytes rfl N hNb2 (N : Int) rfl w
      have hz0 : (w.alloc (.cells (madeCells #[.int .u8 0] N) 5)).heap[w.heap.size]? = some (.cells (zer N).toArray 5 (0, 0)) := by rw [heap_alloc_new, madeZer]
      go_wp2
      go_loopw [7, 25] (fun s7 s25 wr => ∃ i : Nat, s25 = .int .i64 i ∧ i ≤ ls.length ∧ s7 = .int .i64 ((catL B i).length : Nat) ∧ wr.heap[w.heap.size]? = some (.cells (bytesV (catL B i) ++ zer (N - (catL B i).length)).toArray 5 (0, 0)) ∧ Below w.heap.size w wr) (fun _ s _ => ls.length - (intOf s).toNat)
      case atStart =>
        have hz1 : (w.alloc (.cells (madeCells #[.int .u8 0] N) 5)).heap[w.heap.size]? = some (.cells (bytesV (catL B 0) ++ zer (N - (catL B 0).length)).toArray 5 (0, 0)) := hz0
        exact ⟨0, rfl, Nat.zero_le _, rfl, hz1, (Below.refl _ _).alloc (Nat.le_refl _) _⟩
      case round =>
        obtain ⟨i, rfl, hi, rfl, hh, hb⟩ := hrel
        by_cases hlt : i < ls.length
        · have hR := HR.out.below hb (Nat.le_refl _)
          obtain ⟨A, c', h, hc, hgg⟩ := hR
          obtain ⟨b, o, rfl, hg⟩ := hgg (by omega)
          injection h with ha _ hcc
          subst ha
          subst hcc
          obtain ⟨x, hx⟩ : ∃ x, ls[i]? = some x := ⟨_, List.getElem?_eq_getElem hlt⟩
          have hcx := hg i x hx
          have hxr := (HB.out i x hx).below hb (Nat.le_refl _)
          obtain ⟨A2, c2, rfl, hc2, hg2⟩ := hxr
          rw [bytesV_length] at hcx hc2 hg2
          have h1 := HM.out (i + 1) hlt
          rw [hN2.out] at h1
          have h3 := h1
          rw [catL_succ, List.length_append] at h1
          have h2 : ((catL B i).length : Int) ≤ N := by omega
          have h2' : (catL B i).length ≤ N := by omega
          clear hg hgg hx
          have HH := Lib.hid hh
          clear hh
          have k1 : (bytesV (B i)).length = Nat.min (B i).length (N - (catL B i).length) := by rw [bytesV_length]; exact (Nat.min_eq_left (by omega)).symm
          have k2 : (catL B i).length + (bytesV (B i)).length ≤ (bytesV (catL B i) ++ zer (N - (catL B i).length)).length := by simp [bytesV_length, zer]; omega
          have k3 := bytesV_one (B i)
          have K3 := Lib.hid k3
          have G2 := Lib.hid hg2
          clear k3 hg2
          go_upto_region 12 with fail
          go_wp2_with (with_reducible refine wpList_copy_splice rfl (.tmp 32) (.tmp 33) 24 24 rfl 5 Tryd.underlying24 he _ _ _ _ _ _ rfl rfl w.heap.size (catL B i).length _ 5 HH.out (bytesV (B i)) ?_ ?_ k2 K3.out w.heap.size w hb (Nat.le_refl _) ?_)
          case refine_2 =>
            intro hp
            obtain ⟨b', o', rfl, hg⟩ := G2.out (by have := hp; simp [Nat.min_def] at this; split at this <;> omega)
            exact ⟨fun h => by rw [← h] at hp; simp at hp, _, rfl, fun j v hj => by rw [addr_add]; exact hg j v hj⟩
          all_goals
            intro w' hid hb'
            have e := cat_splice B N i h3
            have k0 : (B i).length.min (N - (catL B i).length) = (B i).length := Nat.min_eq_left (by omega)
            try subst h
            try (rw [Nat.sub_self] at e)
            rw [e] at hid
            go_wp2
            go_roundw
            case rel => exact ⟨i + 1, by go_num, by omega, congrArg (Value.int .i64) (by rw [catL_succ, List.length_append]; omega), hid, hb'⟩
            case measure => simp [intOf]; omega
        · obtain rfl : i = ls.length := by omega
          go_wp2
          refine bodyPost_ret (results_tmp rfl _ _ _) ?_ ?_
          · rfl
          have hh2 := hh
          rw [hN2.out, Nat.sub_self] at hh2
          refine ⟨_, rfl, .inr ⟨w.heap.size, N, _, ?_, Nat.le_refl _, hh2, ?_, ?_, ?_, ?_⟩, hb⟩
          · rw [bytesV_length, hN2.out]; rfl
          · rw [bytesV_length, hN2.out]; exact Nat.le_refl _
          · simp [bytesV_length, hN2.out, zer]
          · unfold maxLen; omega
          · simp [zer]
end Go.Proofs.YthnpbfadblcicaaDoor

/- Uvarints read from the front of a list of bytes. No program occurs here. -/
namespace Go.Proofs.YthnpbfadblcicaaDoor

/-- The uvarint at the front: its value and how many bytes it has, or the error's number (1: too short, 2: no uvarint); i bytes are read, of value v. -/
def rdU : Nat → Nat → List UInt8 → Except Nat (Nat × Nat)
  | _, _, [] => .error 1
  | i, v, x :: r =>
    if i = 9 ∧ 1 < x.toNat then .error 2
    else if 128 ≤ x.toNat then rdU (i + 1) (v + x.toNat % 128 * 2 ^ (7 * i)) r
    else if x.toNat = 0 ∧ 0 < i then .error 2
    else .ok (v + x.toNat % 128 * 2 ^ (7 * i), i + 1)
def getU (l : List UInt8) : Except Nat (Nat × Nat) := rdU 0 0 l

theorem ofNat_toNat (n : Nat) (h : n < 256) : (UInt8.ofNat n).toNat = n := by simp; omega
theorem rdU_uvar (t : List UInt8) : ∀ (n i v : Nat), i ≤ 9 → (i = 0 ∨ 0 < n) → n * 2 ^ (7 * i) < 2 ^ 64 → rdU i v (uvar n ++ t) = .ok (v + n * 2 ^ (7 * i), i + (uvar n).length) := by
  intro n
  induction n using Nat.strongRecOn with
  | _ n ih =>
    intro i v hi h0 hn
    have h9 : i = 9 → n < 2 := fun e => by subst e; omega
    by_cases h : n < 128
    · rw [uvar_small h, List.cons_append, List.nil_append, rdU, ofNat_toNat n (by omega), if_neg (by omega), if_neg (by omega), if_neg (by omega), Nat.mod_eq_of_lt h]; rfl
    · have hi8 : i ≤ 8 := by
        rcases Nat.lt_or_ge i 9 with h2 | h2
        · omega
        · have := h9 (by omega); omega
      have e2 : 2 ^ (7 * (i + 1)) = 2 ^ (7 * i) * 128 := by rw [show 7 * (i + 1) = 7 * i + 7 by omega, Nat.pow_add]
      have e3 : n / 128 * 2 ^ (7 * (i + 1)) + n % 128 * 2 ^ (7 * i) = n * 2 ^ (7 * i) := by
        rw [e2, Nat.mul_comm (2 ^ (7 * i)) 128, ← Nat.mul_assoc, ← Nat.add_mul]
        congr 1; omega
      rw [uvar_big h, List.cons_append, rdU, ofNat_toNat _ (by omega), if_neg (by omega), if_pos (by omega), ih (n / 128) (by omega) (i + 1) _ (by omega) (by omega) (by omega), show (128 + n % 128) % 128 = n % 128 by omega, List.length_cons]
      congr 2
      · omega
      · omega
theorem getU_uvar (n : Nat) (h : n < 2 ^ 64) (t : List UInt8) : getU (uvar n ++ t) = .ok (n, (uvar n).length) := by
  have := rdU_uvar t n 0 0 (by omega) (.inl rfl) (by simpa using h)
  unfold getU; rw [this]; simp
theorem uvar_ne (n : Nat) : uvar n ≠ [] := by rw [uvar]; split <;> simp
theorem rdU_cut : ∀ (n i v k : Nat), n * 2 ^ (7 * i) < 2 ^ 64 → k < (uvar n).length → rdU i v ((uvar n).take k) = .error 1 := by
  intro n
  induction n using Nat.strongRecOn with
  | _ n ih =>
    intro i v k hn hk
    cases k with
    | zero => rfl
    | succ k =>
      have h : ¬ n < 128 := fun h => by rw [uvar_small h] at hk; simp at hk
      have hi8 : i ≤ 8 := by
        rcases Nat.lt_or_ge i 9 with h2 | h2
        · omega
        · have h3 : 2 ^ 63 ≤ 2 ^ (7 * i) := Nat.pow_le_pow_right (by decide) (by omega)
          have h4 : 2 * 2 ^ 63 ≤ n * 2 ^ (7 * i) := Nat.mul_le_mul (by omega) h3
          omega
      have e2 : 2 ^ (7 * (i + 1)) = 2 ^ (7 * i) * 128 := by rw [show 7 * (i + 1) = 7 * i + 7 by omega, Nat.pow_add]
      have e3 : n / 128 * 2 ^ (7 * (i + 1)) ≤ n * 2 ^ (7 * i) := by
        rw [e2, Nat.mul_comm (2 ^ (7 * i)) 128, ← Nat.mul_assoc]
        exact Nat.mul_le_mul_right _ (by omega)
      rw [uvar_big h] at hk ⊢
      rw [List.take_succ_cons, rdU, ofNat_toNat _ (by omega), if_neg (by omega), if_pos (by omega)]
      exact ih (n / 128) (by omega) (i + 1) _ k (by omega) (by simpa using hk)
theorem getU_cut (n k : Nat) (h : n < 2 ^ 64) (hk : k < (uvar n).length) : getU ((uvar n).take k) = .error 1 := rdU_cut n 0 0 k (by simpa using h) hk
/-- What is read was written so. -/
theorem rdU_ok : ∀ (l : List UInt8) (i v u k : Nat), i ≤ 9 → rdU i v l = .ok (u, k) → ∃ n, u = v + n * 2 ^ (7 * i) ∧ n * 2 ^ (7 * i) < 2 ^ 64 ∧ (i = 0 ∨ 0 < n) ∧ k = i + (uvar n).length ∧ ∃ t, l = uvar n ++ t
  | [], _, _, _, _, _, h => by simp [rdU] at h
  | x :: r, i, v, u, k, hi, h => by
    have hx := x.toNat_lt
    rw [rdU] at h
    split at h
    · cases h
    · next h9 =>
      split at h
      · next h128 =>
        have hi8 : i ≤ 8 := by
          rcases Nat.lt_or_ge i 9 with h2 | h2
          · omega
          · exfalso; apply h9; omega
        obtain ⟨m, e1, e2, e3, e4, t, e5⟩ := rdU_ok r (i + 1) _ u k (by omega) h
        have p2 : 2 ^ (7 * (i + 1)) = 2 ^ (7 * i) * 128 := by rw [show 7 * (i + 1) = 7 * i + 7 by omega, Nat.pow_add]
        have hm : 0 < m := by omega
        have hb : ¬ (x.toNat % 128 + 128 * m < 128) := by omega
        have hdiv : (x.toNat % 128 + 128 * m) / 128 = m := by omega
        have hmod : (x.toNat % 128 + 128 * m) % 128 = x.toNat % 128 := by omega
        have e6 : (x.toNat % 128 + 128 * m) * 2 ^ (7 * i) = x.toNat % 128 * 2 ^ (7 * i) + m * 2 ^ (7 * (i + 1)) := by
          rw [p2, Nat.add_mul, Nat.mul_comm (2 ^ (7 * i)) 128, ← Nat.mul_assoc, Nat.mul_comm 128 m]
        have e7 : 2 ^ (7 * (i + 1)) ≤ 2 ^ 63 := Nat.pow_le_pow_right (by decide) (by omega)
        have e8 : (x.toNat % 128 + 128 * m) * 2 ^ (7 * i) < 2 ^ 64 := by
          -- m * P < 2^64 with P a power of two, a multiple of 128 * 2^(7i): so m * P + (P - 1) < 2^64
          have hd : 2 ^ (7 * (i + 1)) * 2 ^ (64 - 7 * (i + 1)) = 2 ^ 64 := by rw [← Nat.pow_add]; congr 1; omega
          have hm2 : m < 2 ^ (64 - 7 * (i + 1)) := by
            apply Nat.lt_of_mul_lt_mul_right (a := 2 ^ (7 * (i + 1)))
            rw [Nat.mul_comm (2 ^ (64 - 7 * (i + 1)))]; omega
          have hm3 : (m + 1) * 2 ^ (7 * (i + 1)) ≤ 2 ^ (64 - 7 * (i + 1)) * 2 ^ (7 * (i + 1)) := Nat.mul_le_mul_right _ hm2
          rw [Nat.mul_comm (2 ^ (64 - 7 * (i + 1))), hd, Nat.add_mul, Nat.one_mul] at hm3
          have hx2 : x.toNat % 128 * 2 ^ (7 * i) < 2 ^ (7 * (i + 1)) := by
            rw [p2, Nat.mul_comm]; exact Nat.mul_lt_mul_of_pos_left (Nat.mod_lt _ (by decide)) (Nat.two_pow_pos _)
          omega
        refine ⟨x.toNat % 128 + 128 * m, ?_, e8, .inr (by omega), ?_, t, ?_⟩
        · rw [e1, e6]; omega
        · rw [uvar_big hb, hdiv, List.length_cons, e4]; omega
        · rw [uvar_big hb, hdiv, hmod, e5, List.cons_append, show 128 + x.toNat % 128 = x.toNat by omega]
          simp
      · next h128 =>
        split at h
        · cases h
        · next h0 =>
          have hlt : x.toNat < 128 := by omega
          injection h with h
          injection h with h1 h2
          have hp : x.toNat * 2 ^ (7 * i) < 2 ^ 64 := by
            rcases Nat.lt_or_ge i 9 with h3 | h3
            · have : 2 ^ (7 * i) ≤ 2 ^ 56 := Nat.pow_le_pow_right (by decide) (by omega)
              have := Nat.mul_le_mul (show x.toNat ≤ 127 by omega) this
              omega
            · have e9 : i = 9 := by omega
              have hx1 : x.toNat ≤ 1 := by
                rcases Nat.lt_or_ge 1 x.toNat with h4 | h4
                · exfalso; exact h9 ⟨e9, h4⟩
                · exact h4
              subst e9
              have := Nat.mul_le_mul_right (2 ^ (7 * 9)) hx1
              omega
          refine ⟨x.toNat, by rw [← h1, Nat.mod_eq_of_lt hlt], hp, by omega, by rw [uvar_small hlt, ← h2]; rfl, r, by rw [uvar_small hlt]; simp⟩
theorem getU_ok {l : List UInt8} {u k : Nat} (h : getU l = .ok (u, k)) : u < 2 ^ 64 ∧ k = (uvar u).length ∧ ∃ t, l = uvar u ++ t := by
  obtain ⟨n, h1, h2, _, h3, t, h4⟩ := rdU_ok l 0 0 u k (by omega) h
  have e : u = n := by rw [h1]; simp
  subst e
  exact ⟨by simpa using h2, by omega, t, h4⟩
theorem rdU_err : ∀ (l : List UInt8) (i v n : Nat), rdU i v l = .error n → n = 1 ∨ n = 2
  | [], _, _, _, h => by simp [rdU] at h; omega
  | x :: r, i, v, n, h => by
    rw [rdU] at h
    split at h
    · injection h with h; omega
    · split at h
      · exact rdU_err r _ _ _ h
      · split at h
        · injection h with h; omega
        · cases h
theorem getU_err {l : List UInt8} {n : Nat} (h : getU l = .error n) : n = 1 ∨ n = 2 := rdU_err l 0 0 n h
theorem getU_len {l : List UInt8} {u k : Nat} (h : getU l = .ok (u, k)) : k ≤ l.length ∧ 1 ≤ k ∧ k ≤ 10 := by
  obtain ⟨h1, h2, t, h3⟩ := getU_ok h
  have := uvar_le u h1
  rw [h3, List.length_append]; omega
theorem getU_drop {l : List UInt8} {u k : Nat} (h : getU l = .ok (u, k)) : l = uvar u ++ l.drop k := by
  obtain ⟨h1, h2, t, h3⟩ := getU_ok h
  rw [h2]
  conv => rhs; rw [h3, List.drop_left]
  exact h3
end Go.Proofs.YthnpbfadblcicaaDoor
