/- Merged: Reader, PRow. -/
import Derived.Test.YtaijepjhmjjecaaDoorZG3
import Derived.Test.YtaijepjhmjjecaaDoorZG3
import Derived.Test.YtaijepjhmjjecaaDoorZG2
import Derived.Outline
import Derived.Laws.OwnMore
import Derived.OwnWalk
/- codec.Reader: its memory; NewReader, At, Left, Uvarint. -/
namespace Go.Proofs.YtaijepjhmjjecaaDoor
set_option linter.unusedVariables false
open Go.ChangeShapes Go.WideShapes Go.ChangeAt Go.RowKit

/-- A Reader at block p over bs, at the place k. -/
structure Rdr (w : World) (base p : Nat) (v : Value) (bs : List UInt8) (k : Nat) : Prop where
  blk : w.heap[p]? = some (.cells #[.int .i64 k, .int .i64 bs.length, v] 155 (0, 0))
  hp : base ≤ p
  own : Own w base 5 v (bytesV bs)
  le : k ≤ bs.length
  sm : bs.length ≤ 1000000000
theorem Rdr.drewN {w : World} {base p : Nat} {v : Value} {bs : List UInt8} {k : Nat} (h : Rdr w base p v bs k) (d : Nat) : Rdr (w.drewN d) base p v bs k := ⟨h.blk, h.hp, h.own.drewN d, h.le, h.sm⟩
theorem Rdr.c0 {w : World} {base p : Nat} {v : Value} {bs : List UInt8} {k : Nat} (h : Rdr w base p v bs k) : w.cell? ⟨p, 0, none⟩ = some (.int .i64 k) := blk_cell h.blk 0
theorem Rdr.c1 {w : World} {base p : Nat} {v : Value} {bs : List UInt8} {k : Nat} (h : Rdr w base p v bs k) : w.cell? ⟨p, 1, none⟩ = some (.int .i64 bs.length) := blk_cell h.blk 1
theorem Rdr.c2 {w : World} {base p : Nat} {v : Value} {bs : List UInt8} {k : Nat} (h : Rdr w base p v bs k) : w.cell? ⟨p, 2, none⟩ = some v := blk_cell h.blk 2
theorem Rdr.fz {w : World} {base p : Nat} {v : Value} {bs : List UInt8} {k : Nat} (h : Rdr w base p v bs k) (i : Nat) : w.frozen? ⟨p, i, none⟩ = false := blk_frozen h.blk i
/-- The Reader moved. -/
theorem Rdr.move {w : World} {base p : Nat} {v : Value} {bs : List UInt8} {k : Nat} (h : Rdr w base p v bs k) (j : Nat) (hj : j ≤ bs.length) : Rdr (w.setCell ⟨p, 0, none⟩ (.int .i64 (j : Nat))) base p v bs j :=
  ⟨blk_set h.blk 0 _, h.hp, h.own.setOther (h.own.ne_type h.blk (by decide)) _, hj, h.sm⟩
/-- A byte of a Reader's. -/
theorem Rdr.byte {w : World} {base p : Nat} {a : Option Addr} {n c : Nat} {bs : List UInt8} {k : Nat} (h : Rdr w base p (.slice a n c) bs k) (j : Nat) (hj : j < bs.length) : ∃ g, a = some ⟨g, 0, none⟩ ∧ n = bs.length ∧ w.cell? ⟨g, j, none⟩ = some (.int .u8 (bs[j].toNat : Nat)) := by
  have hl := h.own.len
  rw [bytesV_length] at hl
  obtain ⟨g, rfl⟩ := h.own.someAt (by omega)
  exact ⟨g, rfl, hl, h.own.get (bytesV_get bs j hj)⟩
/-- The blocks of a Reader. -/
def RdrB (p : Nat) (v : Value) (k : Nat) : Prop := k = p ∨ v.ownBlock = some k
theorem Rdr.eff {F : Nat → Prop} {w w' : World} {base p : Nat} {v : Value} {bs : List UInt8} {k : Nat} (h : Rdr w base p v bs k) (e : Eff F w w') (hF : ∀ k, RdrB p v k → ¬ F k) : Rdr w' base p v bs k :=
  ⟨(e.block p (lt_of_heap h.blk) (hF p (.inl rfl))).trans h.blk, h.hp, h.own.eff e (fun k hk => hF k (.inr hk)), h.le, h.sm⟩
theorem Rdr.ge {w : World} {base p : Nat} {v : Value} {bs : List UInt8} {k : Nat} (h : Rdr w base p v bs k) : ∀ k, RdrB p v k → base ≤ k ∧ k < w.heap.size := by
  rintro k (rfl | hk)
  · exact ⟨h.hp, lt_of_heap h.blk⟩
  · exact h.own.lt k hk

theorem rat_any (w : World) (base p : Nat) (v : Value) (bs : List UInt8) (k : Nat) (h : Rdr w base p v bs k) : Calls Tryd.prog 105 #[.pointer (some ⟨p, 0, none⟩)] w fun e w' => e = .returned (.int .i64 (k : Nat)) ∧ w = w' := by
  have hc := h.c0
  go_enter Tryd.func105, Tryd.ntmps105
  go_wp2
  go_ret
  exact ⟨rfl, rfl⟩
theorem rleft_any (w : World) (base p : Nat) (v : Value) (bs : List UInt8) (k : Nat) (h : Rdr w base p v bs k) : Calls Tryd.prog 107 #[.pointer (some ⟨p, 0, none⟩)] w fun e w' => e = .returned (.int .i64 ((bs.length : Int) - (k : Int))) ∧ ∃ d, w' = w.drewN d := by
  have hc := h.c0
  have hd := h.c1
  have hl := h.le
  have hs := h.sm
  have q1 : IntKind.i64.wrap ((bs.length : Int) - (k : Int)) = (bs.length : Int) - (k : Int) := IntWalk.i64_in _ (by omega)
  go_enter Tryd.func107, Tryd.ntmps107
  go_wp2
  go_quiet (fail)
  go_wp2
  go_ret
  exact ⟨rfl, _, rfl⟩

set_option maxRecDepth 100000 in
theorem nr_any (w : World) (a : Option Addr) (n c : Nat) (bs : List UInt8) (hr : Rd w (.slice a n c) (bytesV bs)) (hn : bs.length ≤ 1000000000) :
    Calls Tryd.prog 102 #[.slice a n c] w fun e w' => ∃ p v, e = .returned (.pointer (some ⟨p, 0, none⟩)) ∧ Rdr w' w.heap.size p v bs 0 ∧ Below w.heap.size w w' := by
  have hnl : n = bs.length := by obtain ⟨A, c', h, _⟩ := hr; injection h with _ h _; rw [h, bytesV_length]
  subst hnl
  have hB0 : Below w.heap.size w (w.alloc (.cells #[.slice a bs.length c] 30)) := (Below.refl _ _).alloc (Nat.le_refl _) _
  have hr1 := hr.below hB0 (Nat.le_refl _)
  have hls : Rd (w.alloc (.cells #[.slice a bs.length c] 30)) (.slice (some ⟨w.heap.size, 0, none⟩) 1 1) [.slice a bs.length c] := (own_one w w.heap.size 30 _ (Nat.le_refl _)).rd
  have hBs : Rds (w.alloc (.cells #[.slice a bs.length c] 30)) [.slice a bs.length c] (fun _ => bs) := fun k x hx => by
    match k, hx with
    | 0, hx => simp at hx; subst hx; exact hr1
    | k + 1, hx => simp at hx
  have hcl : catL (fun _ => bs) 1 = bs := by simp [catL]
  have C1 := cat_any _ _ 1 1 _ _ hls hBs (by simp) (by simpa [hcl] using hn)
  rw [show [Value.slice a bs.length c].length = 1 from rfl, hcl] at C1
  have HB := Lib.hid hB0
  clear hr hr1 hls hBs hcl hB0
  go_enter Tryd.func102, Tryd.ntmps102
  go_wp2_with fail
  refine C1.mono ?_
  rintro e w1 ⟨v, rfl, ho, hb⟩
  clear C1
  obtain ⟨a1, n1, c1, rfl⟩ := own_sl ho
  have hb1 := HB.out.trans (hb.mono (by simp))
  have hsz := hb1.size
  have ho1 := (own_base ho (base' := w.heap.size) (by simp)).alloc (.cells #[.int .i64 0, .int .i64 bs.length, .slice a1 n1 c1] 155)
  have hb2 := hb1.alloc hsz (.cells #[.int .i64 0, .int .i64 bs.length, .slice a1 n1 c1] 155)
  have hp : (w1.alloc (.cells #[.int .i64 0, .int .i64 bs.length, .slice a1 n1 c1] 155)).heap[w1.heap.size]? = some (.cells #[.int .i64 0, .int .i64 bs.length, .slice a1 n1 c1] 155 (0, 0)) := heap_alloc_new w1 _
  have HR := Lib.hid (show Rdr _ w.heap.size w1.heap.size (.slice a1 n1 c1) bs 0 from ⟨hp, hsz, ho1, Nat.zero_le _, hn⟩)
  clear hp ho1
  go_wp2
  go_ret
  exact ⟨_, _, rfl, HR.out, hb2⟩

theorem and127 (m : Nat) (h : m < 256) : bits .and .u8 (m : Int) 127 = ((m % 128 : Nat) : Int) := by
  rw [show (127 : Int) = ((127 : Nat) : Int) from rfl, u8_and_nat _ _ h (by decide)]
  rw [show (127 : Nat) = 2 ^ 7 - 1 from rfl, Nat.and_two_pow_sub_one_eq_mod]
theorem or_uv (u i m : Nat) (hu : u < 2 ^ (7 * i)) (hi : i ≤ 9) (hm : m < 256) (h9 : ¬ (i = 9 ∧ 1 < m)) (h128 : i = 9 → m < 128) :
    bits .or .u64 (u : Int) (IntKind.u64.wrap (IntKind.u64.wrap (bits .and .u8 (m : Int) 127) * 2 ^ (7 * i))) = ((u + m % 128 * 2 ^ (7 * i) : Nat) : Int) ∧ u + m % 128 * 2 ^ (7 * i) < 2 ^ (7 * (i + 1)) ∧ u + m % 128 * 2 ^ (7 * i) < 2 ^ 64 := by
  have e2 : 2 ^ (7 * (i + 1)) = 2 ^ (7 * i) * 128 := by rw [show 7 * (i + 1) = 7 * i + 7 by omega, Nat.pow_add]
  have hp : m % 128 < 128 := Nat.mod_lt _ (by decide)
  have h1 : (m % 128 + 1) * 2 ^ (7 * i) ≤ 128 * 2 ^ (7 * i) := Nat.mul_le_mul_right _ hp
  rw [Nat.add_mul, Nat.one_mul] at h1
  have h2 : u + m % 128 * 2 ^ (7 * i) < 2 ^ 64 := by
    rcases Nat.lt_or_ge i 9 with h3 | h3
    · have : 2 ^ (7 * i) ≤ 2 ^ 56 := Nat.pow_le_pow_right (by decide) (by omega)
      omega
    · have h4 : i = 9 := by omega
      subst h4
      have h5 : m % 128 ≤ 1 := by
        rcases Nat.lt_or_ge 1 m with h6 | h6
        · exact absurd ⟨rfl, h6⟩ h9
        · omega
      have := Nat.mul_le_mul_right (2 ^ (7 * 9)) h5
      omega
  refine ⟨?_, by omega, h2⟩
  rw [and127 m hm]
  have e3 : IntKind.u64.wrap ((m % 128 : Nat) : Int) = ((m % 128 : Nat) : Int) := by rw [IntKind.wrap_u64]; omega
  have e4 : ((m % 128 : Nat) : Int) * 2 ^ (7 * i) = ((m % 128 * 2 ^ (7 * i) : Nat) : Int) := by simp
  obtain ⟨Y, hY⟩ : ∃ Y, m % 128 * 2 ^ (7 * i) = Y := ⟨_, rfl⟩
  have e5 : u ||| m % 128 * 2 ^ (7 * i) = u + m % 128 * 2 ^ (7 * i) := or_add _ _ _ hu
  rw [e3, e4]
  rw [hY] at h2 e5 ⊢
  rw [show IntKind.u64.wrap ((Y : Nat) : Int) = (Y : Int) by rw [IntKind.wrap_u64]; omega, u64_or_nat _ _ (by omega) (by omega), e5]
theorem ret_num2 {k : IntKind} {a b : Int} {v : Value} (h : a = b) : Ending.returned (.tuple #[.int k a, v]) = .returned (.tuple #[.int k b, v]) := by rw [h]
/-- What Uvarint answers and leaves. -/
def UvPost (w : World) (base p : Nat) (v : Value) (bs : List UInt8) (k : Nat) (EV : Nat → Value) (e : Ending) (w' : World) : Prop :=
  (∀ n, getU (bs.drop k) = .error n → e = .returned (.tuple #[.int .u64 0, EV n]) ∧ ∃ d, w' = w.drewN d) ∧
  (∀ u n, getU (bs.drop k) = .ok (u, n) → e = .returned (.tuple #[.int .u64 (u : Nat), .nilIface]) ∧ Rdr w' base p v bs (k + n) ∧ Eff (· = p) w w')

set_option maxRecDepth 100000 in
set_option maxHeartbeats 2000000 in
theorem ruv_any (w : World) (base p : Nat) (v : Value) (bs : List UInt8) (k : Nat) (h : Rdr w base p v bs k) (EV : Nat → Value) (hS : w.cell? ⟨0, 0, none⟩ = some (EV 1)) (hV : w.cell? ⟨1, 0, none⟩ = some (EV 2)) :
    Calls Tryd.prog 103 #[.pointer (some ⟨p, 0, none⟩)] w (UvPost w base p v bs k EV) := by
  have hkl := h.le
  have hsm := h.sm
  go_enter Tryd.func103, Tryd.ntmps103
  go_wp2
  go_loopw [4, 5] (fun s4 s5 wr => ∃ (i u d : Nat), s5 = .int .i64 i ∧ s4 = .int .u64 u ∧ i ≤ 9 ∧ k + i ≤ bs.length ∧ u < 2 ^ (7 * i) ∧ rdU i u (bs.drop (k + i)) = getU (bs.drop k) ∧ wr = w.drewN d) (fun _ s _ => 10 - (intOf s).toNat)
  case atStart => exact ⟨0, 0, 0, rfl, rfl, by omega, by omega, by decide, rfl, rfl⟩
  case round =>
    obtain ⟨i, u, d, rfl, rfl, hi, hki, hu, hres, rfl⟩ := hrel
    have hh := h.drewN d
    have hc0 := hh.c0
    have hc2 := hh.c2
    have hq := rleft_any _ base p v bs k hh
    have HRES := Lib.hid hres
    clear hres
    by_cases hlt : k + i < bs.length
    · obtain ⟨av, nv, cv, rfl⟩ := own_sl h.own
      obtain ⟨g, rfl, rfl, hcb0⟩ := hh.byte (k + i) hlt
      have HCB := Lib.hid ((show Rdr w base p (.slice (some ⟨g, 0, none⟩) bs.length cv) bs k from h).own.get (bytesV_get bs (k + i) hlt))
      have hdr : bs.drop (k + i) = bs[k + i] :: bs.drop (k + (i + 1)) := by rw [List.drop_eq_getElem_cons hlt]; rfl
      obtain ⟨x, hx⟩ : ∃ x, bs[k + i] = x := ⟨_, rfl⟩
      rw [hx] at hcb0 hdr HCB
      have hres := HRES.out
      rw [hdr] at hres
      have HRX := Lib.hid hres
      have hx256 := x.toNat_lt
      obtain ⟨m, hm⟩ : ∃ m, x.toNat = m := ⟨_, rfl⟩
      rw [hm] at hcb0 hx256 HCB
      have HM := Lib.hid hm
      clear hdr hx hres hm HRES hcb0
      go_wp2_with fail
      refine hq.mono ?_
      rintro e w' ⟨rfl, d2, rfl⟩
      rw [World.drewN_drewN]
      clear hq hc0 hc2 hh
      have hc0 := h.c0
      have hc2 := h.c2
      have hcb := HCB.out
      have q0 : decide ((bs.length : Int) - (k : Int) ≤ (i : Int)) = false := by simp; omega
      have q1 : IntKind.i64.wrap ((k : Int) + (i : Int)) = (k : Int) + (i : Int) := IntWalk.i64_in _ (by omega)
      have q2 : 0 ≤ (k : Int) + (i : Int) := by omega
      have q3 : ((k : Int) + (i : Int)).toNat = k + i := by omega
      have q4 : (k : Int) + (i : Int) < (bs.length : Nat) := by omega
      go_wp2
      go_quiet (fail)
      rw [World.drewN_drewN]
      clear hc0 hc2 hcb q0 q1 q2 q3 q4
      by_cases hi9 : i = 9
      · subst hi9
        by_cases h1m : 1 < m
        · have t0 : decide ((1 : Int) < m) = true := by simp; omega
          have hr2 : getU (bs.drop k) = .error 2 := by rw [← HRX.out, rdU, if_pos ⟨rfl, by rw [HM.out]; exact h1m⟩]
          have HR2 := Lib.hid hr2
          clear hr2
          go_wp2
          go_quiet (fail)
          go_wp2
          go_ret2
          exact ⟨fun n hn => by rw [HR2.out] at hn; injection hn with hn; subst hn; exact ⟨rfl, _, by rw [World.drewN_drewN]⟩, fun u n hn => by rw [HR2.out] at hn; cases hn⟩
        · have t0 : decide ((1 : Int) < m) = false := by simp; omega
          have t1 : decide ((128 : Int) ≤ m) = false := by simp; omega
          by_cases hm0 : m = 0
          · subst hm0
            have hr2 : getU (bs.drop k) = .error 2 := by rw [← HRX.out, rdU, HM.out, if_neg (by omega), if_neg (by omega), if_pos ⟨rfl, by omega⟩]
            have HR2 := Lib.hid hr2
            clear hr2
            go_wp2
            go_quiet (fail)
            go_wp2
            go_ret2
            exact ⟨fun n hn => by rw [HR2.out] at hn; injection hn with hn; subst hn; exact ⟨rfl, _, by rw [World.drewN_drewN]⟩, fun u n hn => by rw [HR2.out] at hn; cases hn⟩
          · have t2 : ((m : Int) == 0) = false := by simp; omega
            obtain ⟨o1, o2, o3⟩ := or_uv u 9 m hu hi hx256 (by omega) (fun e => by omega)
            rw [show (2 : Int) ^ (7 * 9) = 9223372036854775808 by decide] at o1
            have HO := Lib.hid o1
            have hr2 : getU (bs.drop k) = .ok (u + m % 128 * 2 ^ (7 * 9), 9 + 1) := by rw [← HRX.out, rdU, HM.out, if_neg (by omega), if_neg (by omega), if_neg (by omega)]
            have HR2 := Lib.hid hr2
            have hc0 := h.c0
            have hf := h.fz 0
            have HMV := Lib.hid ((h.drewN (d + d2 + nq)).move (k + (9 + 1)) (by omega))
            have HEF := Lib.hid (((Eff.refl (· = p) w).drewN (d + d2 + nq)).setCell (p := ⟨p, 0, none⟩) (fun _ => rfl) (.int .i64 ((k + (9 + 1) : Nat) : Int)))
            clear hr2 o1
            go_wp2
            go_ret2
            refine ⟨fun n hn => (by rw [HR2.out] at hn; cases hn), fun u' n hn => ?_⟩
            rw [HR2.out] at hn
            injection hn with hn
            injection hn with hn1 hn2
            subst hn1 hn2
            exact ⟨ret_num2 HO.out, HMV.out, HEF.out⟩
      · have h9 : ¬ (i = 9 ∧ 1 < m) := fun e => hi9 e.1
        have t0 : ((i : Int) == 9) = false := by simp; omega
        by_cases h128 : 128 ≤ m
        · have t1 : decide ((128 : Int) ≤ m) = true := by simp; omega
          obtain ⟨o1, o2, o3⟩ := or_uv u i m hu hi hx256 h9 (fun e => by omega)
          have HO := Lib.hid o1
          have hr2 : rdU (i + 1) (u + m % 128 * 2 ^ (7 * i)) (bs.drop (k + (i + 1))) = getU (bs.drop k) := by rw [← HRX.out, rdU, HM.out, if_neg h9, if_pos h128]
          have HR2 := Lib.hid hr2
          clear hr2 o1
          go_wp2
          go_roundw
          case rel => exact ⟨i + 1, _, _, by go_num, by rw [HO.out], by omega, by omega, o2, HR2.out, rfl⟩
          case measure => simp [intOf]; omega
        · have t1 : decide ((128 : Int) ≤ m) = false := by simp; omega
          by_cases hz : m = 0 ∧ 0 < i
          · obtain ⟨rfl, hi0⟩ := hz
            have t2 : decide ((0 : Int) < i) = true := by simp; omega
            have hr2 : getU (bs.drop k) = .error 2 := by rw [← HRX.out, rdU, HM.out, if_neg h9, if_neg h128, if_pos ⟨rfl, hi0⟩]
            have HR2 := Lib.hid hr2
            clear hr2
            go_wp2
            go_quiet (fail)
            go_wp2
            go_ret2
            exact ⟨fun n hn => by rw [HR2.out] at hn; injection hn with hn; subst hn; exact ⟨rfl, _, by rw [World.drewN_drewN]⟩, fun u n hn => by rw [HR2.out] at hn; cases hn⟩
          · obtain ⟨o1, o2, o3⟩ := or_uv u i m hu hi hx256 h9 (fun e => by omega)
            have HO := Lib.hid o1
            have hr2 : getU (bs.drop k) = .ok (u + m % 128 * 2 ^ (7 * i), i + 1) := by rw [← HRX.out, rdU, HM.out, if_neg h9, if_neg h128, if_neg hz]
            by_cases hm0 : m = 0
            · have hi0 : i = 0 := by omega
              subst hm0 hi0
              have HR2 := Lib.hid hr2
              have hc0 := h.c0
              have hf := h.fz 0
              have HMV := Lib.hid ((h.drewN (d + d2 + nq)).move (k + (0 + 1)) (by omega))
              have HEF := Lib.hid (((Eff.refl (· = p) w).drewN (d + d2 + nq)).setCell (p := ⟨p, 0, none⟩) (fun _ => rfl) (.int .i64 ((k + (0 + 1) : Nat) : Int)))
              clear hr2 o1
              go_wp2
              go_ret2
              refine ⟨fun n hn => (by rw [HR2.out] at hn; cases hn), fun u' n hn => ?_⟩
              rw [HR2.out] at hn
              injection hn with hn
              injection hn with hn1 hn2
              subst hn1 hn2
              exact ⟨ret_num2 HO.out, HMV.out, HEF.out⟩
            · have t2 : ((m : Int) == 0) = false := by simp; omega
              have HR2 := Lib.hid hr2
              have hc0 := h.c0
              have hf := h.fz 0
              have HMV := Lib.hid ((h.drewN (d + d2 + nq)).move (k + (i + 1)) (by omega))
              have HEF := Lib.hid (((Eff.refl (· = p) w).drewN (d + d2 + nq)).setCell (p := ⟨p, 0, none⟩) (fun _ => rfl) (.int .i64 ((k + (i + 1) : Nat) : Int)))
              clear hr2 o1
              go_wp2
              go_ret2
              refine ⟨fun n hn => (by rw [HR2.out] at hn; cases hn), fun u' n hn => ?_⟩
              rw [HR2.out] at hn
              injection hn with hn
              injection hn with hn1 hn2
              subst hn1 hn2
              exact ⟨ret_num2 HO.out, HMV.out, HEF.out⟩
    · have hr2 : getU (bs.drop k) = .error 1 := by rw [← HRES.out, List.drop_eq_nil_of_le (by omega)]; rfl
      have HR2 := Lib.hid hr2
      have q0 : decide ((bs.length : Int) - (k : Int) ≤ (i : Int)) = true := by simp; omega
      clear hr2 HRES
      go_wp2_with fail
      refine hq.mono ?_
      rintro e w' ⟨rfl, d2, rfl⟩
      rw [World.drewN_drewN]
      go_wp2
      go_quiet (fail)
      go_wp2
      go_ret2
      exact ⟨fun n hn => by rw [HR2.out] at hn; injection hn with hn; subst hn; exact ⟨rfl, _, by rw [World.drewN_drewN]⟩, fun u n hn => by rw [HR2.out] at hn; cases hn⟩
end Go.Proofs.YtaijepjhmjjecaaDoor

/- posts: lists of postings of the call's own, each posting with a list of positions of its own. -/
namespace Go.Proofs.YtaijepjhmjjecaaDoor
set_option linter.unusedVariables false
open Go.ChangeShapes Go.WideShapes Go.ChangeAt Go.RowKit

theorem getD_at {α : Type} (l : List α) (d : α) {i : Nat} (h : i < l.length) : l.getD i d = l[i] := by simp [List.getD, h]
def pz : PostV := ⟨0, []⟩
def pcells (ps : List PostV) (vs : Nat → Value) : List Value := (List.range (ps.length * 2)).map fun j => if j % 2 = 0 then .int .i64 (ps.getD (j / 2) pz).doc else vs (j / 2)
theorem pcells_length (ps : List PostV) (vs : Nat → Value) : (pcells ps vs).length = ps.length * 2 := by simp [pcells]
theorem pcells_get (ps : List PostV) (vs : Nat → Value) (j : Nat) (h : j < ps.length * 2) : (pcells ps vs)[j]? = some (if j % 2 = 0 then .int .i64 (ps.getD (j / 2) pz).doc else vs (j / 2)) := by
  unfold pcells
  rw [List.getElem?_map, List.getElem?_range h]; rfl
theorem pcells_none (ps : List PostV) (vs : Nat → Value) (j : Nat) (h : ¬ j < ps.length * 2) : (pcells ps vs)[j]? = none := List.getElem?_eq_none (by rw [pcells_length]; omega)
structure RowP (w : World) (base : Nat) (v : Value) (ps : List PostV) (vs : Nat → Value) : Prop where
  row : w.ownsRow base 41 2 v ps.length (pcells ps vs)
  own : ∀ k (h : k < ps.length), Own w base 3 (vs k) (intL ps[k].pos)
  sep : ∀ k l b, k < ps.length → l < ps.length → k ≠ l → (vs k).ownBlock = some b → (vs l).ownBlock ≠ some b
theorem RowP.sl {w : World} {base : Nat} {v : Value} {ps : List PostV} {vs : Nat → Value} (h : RowP w base v ps vs) : ∃ a c, v = .slice a ps.length c ∧ ps.length ≤ c ∧ c ≤ maxLen := by
  rcases h.row.2 with ⟨rfl, h0⟩ | ⟨g, cap, cur, hv, _, _, h1, h2, _⟩
  · exact ⟨none, 0, by rw [h0], by omega, by decide⟩
  · exact ⟨_, _, hv, h1, h2⟩
theorem RowP.lt {w : World} {base : Nat} {v : Value} {ps : List PostV} {vs : Nat → Value} (h : RowP w base v ps vs) : ∀ k, v.ownBlock = some k → base ≤ k ∧ k < w.heap.size := World.ownsRow.lt h.row
/-- The blocks of a list of postings. -/
def RowB (v : Value) (n : Nat) (vs : Nat → Value) (b : Nat) : Prop := v.ownBlock = some b ∨ ∃ k, k < n ∧ (vs k).ownBlock = some b
theorem RowP.ge {w : World} {base : Nat} {v : Value} {ps : List PostV} {vs : Nat → Value} (h : RowP w base v ps vs) : ∀ b, RowB v ps.length vs b → base ≤ b ∧ b < w.heap.size := by
  rintro b (hb | ⟨k, hk, hb⟩)
  · exact h.lt b hb
  · exact (h.own k hk).lt b hb
theorem row_eff {F : Nat → Prop} {w w' : World} {base n : Nat} {v : Value} {t : TypeId} {s : Nat} {xs : List Value} (h : w.ownsRow base t s v n xs) (e : Eff F w w') (hF : ∀ k, v.ownBlock = some k → ¬ F k) : w'.ownsRow base t s v n xs := by
  refine ⟨h.1, ?_⟩
  rcases h.2 with hn | ⟨g, cap, cur, rfl, hb, hgg, rest⟩
  · exact .inl hn
  · exact .inr ⟨g, cap, cur, rfl, hb, (e.block g (lt_of_heap hgg) (hF g rfl)).trans hgg, rest⟩
theorem row_ne_type {w : World} {base n : Nat} {v : Value} {t : TypeId} {s : Nat} {xs : List Value} (h : w.ownsRow base t s v n xs) {g : Nat} {cs : Array Value} {t2 : TypeId} {fr : Nat × Nat} (hg : w.heap[g]? = some (.cells cs t2 fr)) (hne : t ≠ t2) : v.ownBlock ≠ some g := by
  rcases h.2 with ⟨rfl, _⟩ | ⟨g', cap, cur, rfl, _, hgg, _⟩
  · simp [Value.ownBlock]
  · intro he
    have he' : g' = g := by simpa [Value.ownBlock] using he
    subst he'
    rw [hgg] at hg
    injection hg with hg
    injection hg with _ ht
    exact hne ht
theorem row_ne_own {w : World} {base b2 n : Nat} {v y : Value} {t t2 : TypeId} {s : Nat} {xs ys : List Value} (h : w.ownsRow base t s v n xs) (ho : Own w b2 t2 y ys) (hne : t ≠ t2) {k : Nat} (hk : v.ownBlock = some k) : y.ownBlock ≠ some k := by
  rcases h.2 with ⟨rfl, _⟩ | ⟨g', cap, cur, rfl, _, hgg, _⟩
  · simp [Value.ownBlock] at hk
  · have he' : g' = k := by simpa [Value.ownBlock] using hk
    subst he'
    exact ho.ne_type hgg (fun e => hne e.symm)
theorem RowP.eff {F : Nat → Prop} {w w' : World} {base : Nat} {v : Value} {ps : List PostV} {vs : Nat → Value} (h : RowP w base v ps vs) (e : Eff F w w') (hF : ∀ b, RowB v ps.length vs b → ¬ F b) : RowP w' base v ps vs :=
  ⟨row_eff h.row e (fun k hk => hF k (.inl hk)), fun k hk => (h.own k hk).eff e (fun b hb => hF b (.inr ⟨k, hk, hb⟩)), h.sep⟩
theorem RowP.below {B : Nat} {w w' : World} {base : Nat} {v : Value} {ps : List PostV} {vs : Nat → Value} (h : RowP w base v ps vs) (hb : Below B w w') (hB : w.heap.size ≤ B) : RowP w' base v ps vs :=
  h.eff (F := fun k => B ≤ k) ⟨hb.os, hb.tape, hb.output, hb.size, fun k hk hn => hb.block k (by omega)⟩ (fun k hk => by have := (h.ge k hk).2; omega)
theorem RowP.mono {w : World} {base base' : Nat} {v : Value} {ps : List PostV} {vs : Nat → Value} (h : RowP w base v ps vs) (hb : base' ≤ base) : RowP w base' v ps vs := by
  refine ⟨⟨h.row.1, ?_⟩, fun k hk => own_base (h.own k hk) hb, h.sep⟩
  rcases h.row.2 with hn | ⟨g, cap, cur, rfl, hbg, rest⟩
  · exact .inl hn
  · exact .inr ⟨g, cap, cur, rfl, Nat.le_trans hb hbg, rest⟩
/-- Its cells. -/
theorem RowP.at_ {w : World} {base : Nat} {a : Option Addr} {n c : Nat} {ps : List PostV} {vs : Nat → Value} (h : RowP w base (.slice a n c) ps vs) (i : Nat) (hi : i < ps.length) :
    ∃ g, a = some ⟨g, 0, none⟩ ∧ base ≤ g ∧ g < w.heap.size ∧ w.cell? ⟨g, i * 2, none⟩ = some (.int .i64 ps[i].doc) ∧ w.cell? ⟨g, i * 2 + 1, none⟩ = some (vs i) ∧ ∀ j, w.frozen? ⟨g, j, none⟩ = false := by
  rcases h.row.2 with ⟨hv, h0⟩ | ⟨g, cap, cur, hv, hb, hg, hn, _⟩
  · omega
  · have hc := World.ownsRow.cells h.row (g := g) (by rw [hv]; rfl)
    injection hv with e1 e2 e3
    subst e1
    refine ⟨g, rfl, hb, lt_of_heap hg, ?_, ?_, fun j => blk_frozen hg j⟩
    · have h1 := hc (i * 2) _ (pcells_get ps vs (i * 2) (by omega))
      rw [addr_add, Nat.zero_add, if_pos (by omega), show i * 2 / 2 = i by omega, getD_at _ _ hi] at h1
      exact h1
    · have h1 := hc (i * 2 + 1) _ (pcells_get ps vs (i * 2 + 1) (by omega))
      rw [addr_add, Nat.zero_add, if_neg (by omega), show (i * 2 + 1) / 2 = i by omega] at h1
      exact h1
theorem RowP.rd {w : World} {base : Nat} {a : Option Addr} {n c : Nat} {ps : List PostV} {vs : Nat → Value} (h : RowP w base (.slice a n c) ps vs) : RdPost w a n ps := by
  obtain ⟨_, _, e, _⟩ := h.sl
  injection e with _ e _
  refine ⟨e, fun h0 => ?_⟩
  obtain ⟨g, rfl, _⟩ := h.at_ 0 h0
  refine ⟨g, 0, rfl, fun i hi => ?_⟩
  obtain ⟨g', e1, _, _, h1, h2, _⟩ := h.at_ i hi
  injection e1 with e1
  injection e1 with e1
  subst e1
  have ho := h.own i hi
  obtain ⟨A, C, hv⟩ := own_slice ho
  rw [intL_length] at hv
  rw [hv] at h2 ho
  exact ⟨by rw [Nat.zero_add]; exact h1, A, C, by rw [Nat.zero_add]; exact h2, ho.rd⟩
theorem pcells_put (ps : List PostV) (vs : Nat → Value) (i : Nat) (hi : i < ps.length) (d : Int) (pos : List Int) (s : Value) :
    ((pcells ps vs).set (i * 2) (.int .i64 d)).set (i * 2 + 1) s = pcells (ps.set i ⟨d, pos⟩) (fun k => if k = i then s else vs k) := by
  refine List.ext_getElem? fun j => ?_
  by_cases hj : j < ps.length * 2
  · rw [pcells_get _ _ j (by rw [List.length_set]; exact hj)]
    by_cases h1 : j = i * 2 + 1
    · subst h1
      rw [List.getElem?_set_self (by rw [List.length_set, pcells_length]; exact hj), if_neg (by omega), show (i * 2 + 1) / 2 = i by omega, if_pos rfl]
    · rw [List.getElem?_set_ne (fun e => h1 e.symm)]
      by_cases h2 : j = i * 2
      · subst h2
        rw [List.getElem?_set_self (by rw [pcells_length]; exact hj), if_pos (by omega), show i * 2 / 2 = i by omega, getD_at _ _ (by rw [List.length_set]; exact hi), List.getElem_set_self]
      · rw [List.getElem?_set_ne (fun e => h2 e.symm), pcells_get _ _ j hj]
        have hne : j / 2 ≠ i := by omega
        rw [if_neg hne]
        congr 1
        by_cases hm : j % 2 = 0
        · rw [if_pos hm, if_pos hm, getD_at _ _ (by omega), getD_at _ _ (by rw [List.length_set]; omega), List.getElem_set_ne (fun e => hne e.symm)]
        · rw [if_neg hm, if_neg hm]
  · rw [pcells_none _ _ _ (by rw [List.length_set]; exact hj), List.getElem?_eq_none (by rw [List.length_set, List.length_set, pcells_length]; omega)]
/-- An entry put. -/
theorem RowP.put {w : World} {base g n c : Nat} {ps : List PostV} {vs : Nat → Value} (h : RowP w base (.slice (some ⟨g, 0, none⟩) n c) ps vs) (i : Nat) (hi : i < ps.length) (d : Int) (pos : List Int) (s : Value) (hs : Own w base 3 s (intL pos))
    (hsep : ∀ k b, k < ps.length → k ≠ i → (vs k).ownBlock = some b → s.ownBlock ≠ some b) :
    RowP ((w.setCell ⟨g, i * 2, none⟩ (.int .i64 d)).setCell ⟨g, i * 2 + 1, none⟩ s) base (.slice (some ⟨g, 0, none⟩) n c) (ps.set i ⟨d, pos⟩) (fun k => if k = i then s else vs k) := by
  obtain ⟨_, _, e, _⟩ := h.sl
  injection e with _ e _
  subst e
  have h1 := (World.ownsRow.stored h.row (i * 2) (.int .i64 d)).1
  have h2 := (World.ownsRow.stored h1 (i * 2 + 1) s).1
  rw [pcells_put ps vs i hi d pos s] at h2
  have hgne : ∀ {y : Value} {ys : List Value}, Own w base 3 y ys → y.ownBlock ≠ some g := fun ho => row_ne_own h.row ho (by decide) rfl
  have hset : ∀ {y : Value} {ys : List Value}, Own w base 3 y ys → Own ((w.setCell ⟨g, i * 2, none⟩ (.int .i64 d)).setCell ⟨g, i * 2 + 1, none⟩ s) base 3 y ys := fun ho =>
    (ho.setOther (p := ⟨g, i * 2, none⟩) (hgne ho) _).setOther (p := ⟨g, i * 2 + 1, none⟩) (hgne ho) _
  refine ⟨by rw [List.length_set]; exact h2, fun k hk => ?_, fun k l b hk hl hkl hb => ?_⟩
  · rw [List.length_set] at hk
    by_cases e : k = i
    · subst e
      simp only [if_true, List.getElem_set_self]
      exact hset hs
    · simp only [if_neg e, List.getElem_set_ne (fun e2 => e e2.symm)]
      exact hset (h.own k hk)
  · rw [List.length_set] at hk hl
    by_cases e : k = i
    · subst e
      simp only [if_true] at hb
      simp only [if_neg (fun e2 : l = k => hkl e2.symm)]
      exact fun h9 => hsep l b hl (fun e2 => hkl e2.symm) h9 hb
    · simp only [if_neg e] at hb
      by_cases e2 : l = i
      · subst e2
        simp only [if_true]
        exact hsep k b hk e hb
      · simp only [if_neg e2]
        exact h.sep k l b hk hl hkl hb
/-- A position put. -/
theorem RowP.pos {w : World} {base n c : Nat} {a : Option Addr} {ps : List PostV} {vs : Nat → Value} (h : RowP w base (.slice a n c) ps vs) (i : Nat) (hi : i < ps.length) {g2 n2 c2 : Nat} (hv : vs i = .slice (some ⟨g2, 0, none⟩) n2 c2) (j : Nat) (x : Int) :
    RowP (w.setCell ⟨g2, j, none⟩ (.int .i64 x)) base (.slice a n c) (ps.set i ⟨ps[i].doc, ps[i].pos.set j x⟩) vs := by
  have hne : (Value.slice a n c).ownBlock ≠ some g2 := fun h9 => row_ne_own h.row (h.own i hi) (by decide) h9 (by rw [hv]; rfl)
  have he : Eff (· = g2) w (w.setCell ⟨g2, j, none⟩ (.int .i64 x)) := (Eff.refl (fun k => k = g2) w).setCell (p := ⟨g2, j, none⟩) (fun _ => rfl) _
  have hr := row_eff h.row he (fun k hk e => hne (e ▸ hk))
  have hpc : pcells (ps.set i ⟨ps[i].doc, ps[i].pos.set j x⟩) vs = pcells ps vs := by
    unfold pcells
    rw [List.length_set]
    refine List.map_congr_left fun t ht => ?_
    have ht := List.mem_range.1 ht
    by_cases hm : t % 2 = 0
    · rw [if_pos hm, if_pos hm, getD_at _ _ (by rw [List.length_set]; omega), getD_at _ _ (by omega)]
      by_cases e : i = t / 2
      · subst e; rw [List.getElem_set_self]
      · rw [List.getElem_set_ne e]
    · rw [if_neg hm, if_neg hm]
  refine ⟨by rw [List.length_set, hpc]; exact hr, fun k hk => ?_, fun k l b hk hl hkl => h.sep k l b (by simpa using hk) (by simpa using hl) hkl⟩
  rw [List.length_set] at hk
  by_cases e : i = k
  · subst e
    rw [List.getElem_set_self]
    have h1 := h.own i hi
    rw [hv] at h1 ⊢
    exact own_to (h1.set j (.int .i64 x)) (by simp [intL, List.map_set])
  · rw [List.getElem_set_ne e]
    exact (h.own k hk).setOther (p := ⟨g2, j, none⟩) (h.sep i k g2 hi hk e (by rw [hv]; rfl)) _
theorem post_info : (Tryd.prog.info? 41).map (fun i => (i.size, i.bytes, (i.zero.map fun z => z.cells))) = some (2, 32, some #[.int .i64 0, .slice none 0 0]) := by kernel_rfl
/-- Postings not told yet. -/
def zPs (n : Nat) : List PostV := List.replicate n pz
theorem made_posts (n : Nat) : madeCells #[.int .i64 0, .slice none 0 0] (n * 2) = (pcells (zPs n) (fun _ => .slice none 0 0)).toArray := by
  apply Array.ext'
  apply List.ext_getElem?
  intro j
  by_cases hj : j < n * 2
  · have hl : (zPs n).length = n := by simp [zPs]
    rw [List.toList_toArray, pcells_get _ _ j (by rw [hl]; exact hj), getD_at _ _ (by rw [hl]; omega)]
    have hd : ((zPs n)[j / 2]'(by rw [hl]; omega)).doc = 0 := by simp [zPs, pz]
    rw [hd]
    rcases Nat.mod_two_eq_zero_or_one j with hm | hm
    · simp [madeCells, hj, hm]
    · simp [madeCells, hj, hm]
  · rw [List.toList_toArray, pcells_none _ _ _ (by simp [zPs]; omega)]
    simp [madeCells, hj]
theorem make_posts (n : Nat) (hn : n ≤ 1000000000) (k : Int) (hk : k = n) (w : World) :
    (Instr.makeSlice 31 (.int .i64 k) (.int .i64 k)).run Tryd.prog w = .ok (.slice (some ⟨w.heap.size, 0, none⟩) n n) (w.alloc (.cells (pcells (zPs n) (fun _ => .slice none 0 0)).toArray 41)) := by
  subst hk
  obtain ⟨i0, hi, hrest⟩ := Option.map_eq_some_iff.1 post_info
  simp only [Prod.mk.injEq] at hrest
  obtain ⟨h8, hby, hz⟩ := hrest
  obtain ⟨z, hz, hzs⟩ := Option.map_eq_some_iff.1 hz
  have hr := run_make (P := Tryd.prog) w 31 41 i0 z Tryd.underlying31 hi hz .i64 .i64 n n (by omega) (Int.le_refl _) (by rw [hby]; omega) (by omega)
  simp only [Int.toNat_natCast, h8, hzs, made_posts] at hr
  exact hr
theorem rowP_made (w : World) (base n : Nat) (hb : base ≤ w.heap.size) (hn : n ≤ 1000000000) : RowP (w.alloc (.cells (pcells (zPs n) (fun _ => .slice none 0 0)).toArray 41)) base (.slice (some ⟨w.heap.size, 0, none⟩) n n) (zPs n) (fun _ => .slice none 0 0) := by
  have hl : (zPs n).length = n := by simp [zPs]
  refine ⟨?_, fun k hk => ?_, fun k l b _ _ _ hb => by simp [Value.ownBlock] at hb⟩
  · have := World.ownsRow_lit (base := base) (e := 41) (size := 2) w (pcells (zPs n) (fun _ => .slice none 0 0)).toArray n hb (by unfold maxLen; omega) (by simp [pcells_length, hl])
    rw [hl]; exact this
  · have : (zPs n)[k].pos = [] := by simp [zPs, pz]
    rw [this]; exact own_nil _ _ _
end Go.Proofs.YtaijepjhmjjecaaDoor
