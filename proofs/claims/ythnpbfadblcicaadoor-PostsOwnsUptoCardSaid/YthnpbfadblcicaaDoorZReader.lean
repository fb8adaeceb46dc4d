/- codec.Reader: its memory; NewReader, At, Left, Uvarint. -/
import Derived.Test.YthnpbfadblcicaaDoorZG4
import Derived.Test.YthnpbfadblcicaaDoorZG4
import Derived.Test.YthnpbfadblcicaaDoorZG2
import Derived.Outline
namespace Go.Proofs.YthnpbfadblcicaaDoor
set_option linter.unusedVariables false
open Go.ChangeShapes Go.WideShapes Go.ChangeAt Go.RowKit

/-- A Reader at block p over bs, at the place k. -/
structure Rdr (w : World) (base p : Nat) (v : Value) (bs : List UInt8) (k : Nat) : Prop where
  blk : w.heap[p]? = some (.cells #[.int .i64 k, .int .i64 bs.length, v] 112 (0, 0))
  hp : base ≤ p
  own : Own w base 5 v (bytesV bs)
  le : k ≤ bs.length
  sm : bs.length ≤ 1000000000
theorem Rdr.drewN {w : World} {base p : Nat} {v : Value} {bs : List UInt8} {k : Nat} (h : Rdr w base p v bs k) (d : Nat) : Rdr (w.drewN d) base p v bs k := ⟨h.blk, h.hp, h.own.drewN d, h.le, h.sm⟩
theorem Rdr.c0 {w : World} {base p : Nat} {v : Value} {bs : List UInt8} {k : Nat} (h : Rdr w base p v bs k) : w.cell? ⟨p, 0, none⟩ = some (.int .i64 k) := blk_cell h.blk 0
theorem Rdr.c1 {w : World} {base p : Nat} {v : Value} {bs : List UInt8} {k : Nat} (h : Rdr w base p v bs k) : w.cell? ⟨p, 1, none⟩ = some (.int .i64 bs.length) := blk_cell h.blk 1
theorem Rdr.c2 {w : World} {base p : Nat} {v : Value} {bs : List UInt8} {k : Nat} (h : Rdr w base p v bs k) : w.cell? ⟨p, 2, none⟩ = some v := blk_cell h.blk 2
theorem Rdr.fz {w : World} {base p : Nat} {v : Value} {bs : List UInt8} {k : Nat} (h : Rdr w base p v bs k) (i : Nat) : w.frozen? ⟨p, i, none⟩ = false := blk_frozen h.blk i
/-- The Reader moved. -/
theorem Rdr.move {w : World} {base p : Nat} {v : Value} {bs : List UInt8} {k : Nat} (h : Rdr w base p v bs k) (j : Nat) (hj : j ≤ bs.length) : Rdr (w.setCell ⟨p, 0, none⟩ (.int .i64 (j : Nat))) base p v bs j :=
  ⟨blk_set h.blk 0 _, h.hp, h.own.setOther (h.own.ne_type h.blk (by decide)) _, hj, h.sm⟩
/-- A byte of a Reader's. -/
theorem Rdr.byte {w : World} {base p : Nat} {a : Option Addr} {n c : Nat} {bs : List UInt8} {k : Nat} (h : Rdr w base p (.slice a n c) bs k) (j : Nat) (hj : j < bs.length) : ∃ g, a = some ⟨g, 0, none⟩ ∧ n = bs.length ∧ w.cell? ⟨g, j, none⟩ = some (.int .u8 (bs[j].toNat : Nat)) := by
  have hl := h.own.len
  rw [bytesV_length] at hl
  obtain ⟨g, rfl⟩ := h.own.someAt (by omega)
  exact ⟨g, rfl, hl, h.own.get (bytesV_get bs j hj)⟩
/-- The blocks of a Reader. -/
def RdrB (p : Nat) (v : Value) (k : Nat) : Prop := k = p ∨ v.ownBlock = some k
theorem Rdr.eff {F : Nat → Prop} {w w' : World} {base p : Nat} {v : Value} {bs : List UInt8} {k : Nat} (h : Rdr w base p v bs k) (e : Eff F w w') (hF : ∀ k, RdrB p v k → ¬ F k) : Rdr w' base p v bs k :=
  ⟨(e.block p (lt_of_heap h.blk) (hF p (.inl rfl))).trans h.blk, h.hp, h.own.eff e (fun k hk => hF k (.inr hk)), h.le, h.sm⟩
theorem Rdr.ge {w : World} {base p : Nat} {v : Value} {bs : List UInt8} {k : Nat} (h : Rdr w base p v bs k) : ∀ k, RdrB p v k → base ≤ k ∧ k < w.heap.size := by
  rintro k (rfl | hk)
  · exact ⟨h.hp, lt_of_heap h.blk⟩
  · exact h.own.lt k hk

theorem rat_any (w : World) (base p : Nat) (v : Value) (bs : List UInt8) (k : Nat) (h : Rdr w base p v bs k) : Calls Tryd.prog 60 #[.pointer (some ⟨p, 0, none⟩)] w fun e w' => e = .returned (.int .i64 (k : Nat)) ∧ w = w' := by
  have hc := h.c0
  go_enter Tryd.func60, Tryd.ntmps60
  go_wp2
  go_ret
  exact ⟨rfl, rfl⟩
theorem rleft_any (w : World) (base p : Nat) (v : Value) (bs : List UInt8) (k : Nat) (h : Rdr w base p v bs k) : Calls Tryd.prog 62 #[.pointer (some ⟨p, 0, none⟩)] w fun e w' => e = .returned (.int .i64 ((bs.length : Int) - (k : Int))) ∧ ∃ d, w' = w.drewN d := by
  have hc := h.c0
  have hd := h.c1
  have hl := h.le
  have hs := h.sm
  have q1 : IntKind.i64.wrap ((bs.length : Int) - (k : Int)) = (bs.length : Int) - (k : Int) := IntWalk.i64_in _ (by omega)
  go_enter Tryd.func62, Tryd.ntmps62
  go_wp2
  go_quiet (fail)
  go_wp2
  go_ret
  exact ⟨rfl, _, rfl⟩

set_option maxRecDepth 100000 in
theorem nr_any (w : World) (a : Option Addr) (n c : Nat) (bs : List UInt8) (hr : Rd w (.slice a n c) (bytesV bs)) (hn : bs.length ≤ 1000000000) :
    Calls Tryd.prog 57 #[.slice a n c] w fun e w' => ∃ p v, e = .returned (.pointer (some ⟨p, 0, none⟩)) ∧ Rdr w' w.heap.size p v bs 0 ∧ Below w.heap.size w w' := by
  have hnl : n = bs.length := by obtain ⟨A, c', h, _⟩ := hr; injection h with _ h _; rw [h, bytesV_length]
  subst hnl
  have hB0 : Below w.heap.size w (w.alloc (.cells #[.slice a bs.length c] 24)) := (Below.refl _ _).alloc (Nat.le_refl _) _
  have hr1 := hr.below hB0 (Nat.le_refl _)
  have hls : Rd (w.alloc (.cells #[.slice a bs.length c] 24)) (.slice (some ⟨w.heap.size, 0, none⟩) 1 1) [.slice a bs.length c] := (own_one w w.heap.size 24 _ (Nat.le_refl _)).rd
  have hBs : Rds (w.alloc (.cells #[.slice a bs.length c] 24)) [.slice a bs.length c] (fun _ => bs) := fun k x hx => by
    match k, hx with
    | 0, hx => simp at hx; subst hx; exact hr1
    | k + 1, hx => simp at hx
  have hcl : catL (fun _ => bs) 1 = bs := by simp [catL]
  have C1 := cat_any _ _ 1 1 _ _ hls hBs (by simp) (by simpa [hcl] using hn)
  rw [show [Value.slice a bs.length c].length = 1 from rfl, hcl] at C1
  have HB := Lib.hid hB0
  clear hr hr1 hls hBs hcl hB0
  go_enter Tryd.func57, Tryd.ntmps57
  go_wp2_with fail
  refine C1.mono ?_
  rintro e w1 ⟨v, rfl, ho, hb⟩
  clear C1
  obtain ⟨a1, n1, c1, rfl⟩ := own_sl ho
  have hb1 := HB.out.trans (hb.mono (by simp))
  have hsz := hb1.size
  have ho1 := (own_base ho (base' := w.heap.size) (by simp)).alloc (.cells #[.int .i64 0, .int .i64 bs.length, .slice a1 n1 c1] 112)
  have hb2 := hb1.alloc hsz (.cells #[.int .i64 0, .int .i64 bs.length, .slice a1 n1 c1] 112)
  have hp : (w1.alloc (.cells #[.int .i64 0, .int .i64 bs.length, .slice a1 n1 c1] 112)).heap[w1.heap.size]? = some (.cells #[.int .i64 0, .int .i64 bs.length, .slice a1 n1 c1] 112 (0, 0)) := heap_alloc_new w1 _
  have HR := Lib.hid (show Rdr _ w.heap.size w1.heap.size (.slice a1 n1 c1) bs 0 from ⟨hp, hsz, ho1, Nat.zero_le _, hn⟩)
  clear hp ho1
  go_wp2
  go_ret
  exact ⟨_, _, rfl, HR.out, hb2⟩

theorem and127 (m : Nat) (h : m < 256) : bits .and .u8 (m : Int) 127 = ((m % 128 : Nat) : Int) := by
  rw [show (127 : Int) = ((127 : Nat) : Int) from rfl, u8_and_nat _ _ h (by decide)]
  rw [show (127 : Nat) = 2 ^ 7 - 1 from rfl, Nat.and_two_pow_sub_one_eq_mod]
theorem or_uv (u i m : Nat) (hu : u < 2 ^ (7 * i)) (hi : i ≤ 9) (hm : m < 256) (h9 : ¬ (i = 9 ∧ 1 < m)) (h128 : i = 9 → m < 128) :
    bits .or .u64 (u : Int) (IntKind.u64.wrap (IntKind.u64.wrap (bits .and .u8 (m : Int) 127) * 2 ^ (7 * i))) = ((u + m % 128 * 2 ^ (7 * i) : Nat) : Int) ∧ u + m % 128 * 2 ^ (7 * i) < 2 ^ (7 * (i + 1)) ∧ u + m % 128 * 2 ^ (7 * i) < 2 ^ 64 := by
  have e2 : 2 ^ (7 * (i + 1)) = 2 ^ (7 * i) * 128 := by rw [show 7 * (i + 1) = 7 * i + 7 by omega, Nat.pow_add]
  have hp : m % 128 < 128 := Nat.mod_lt _ (by decide)
  have h1 : (m % 128 + 1) * 2 ^ (7 * i) ≤ 128 * 2 ^ (7 * i) := Nat.mul_le_mul_right _ hp
  rw [Nat.add_mul, Nat.one_mul] at h1
  have h2 : u + m % 128 * 2 ^ (7 * i) < 2 ^ 64 := by
    rcases Nat.lt_or_ge i 9 with h3 | h3
    · have : 2 ^ (7 * i) ≤ 2 ^ 56 := Nat.pow_le_pow_right (by decide) (by omega)
      omega
    · have h4 : i = 9 := by omega
      subst h4
      have h5 : m % 128 ≤ 1 := by
        rcases Nat.lt_or_ge 1 m with h6 | h6
        · exact absurd ⟨rfl, h6⟩ h9
        · omega
      have := Nat.mul_le_mul_right (2 ^ (7 * 9)) h5
      omega
  refine ⟨?_, by omega, h2⟩
  rw [and127 m hm]
  have e3 : IntKind.u64.wrap ((m % 128 : Nat) : Int) = ((m % 128 : Nat) : Int) := by rw [IntKind.wrap_u64]; omega
  have e4 : ((m % 128 : Nat) : Int) * 2 ^ (7 * i) = ((m % 128 * 2 ^ (7 * i) : Nat) : Int) := by simp
  obtain ⟨Y, hY⟩ : ∃ Y, m % 128 * 2 ^ (7 * i) = Y := ⟨_, rfl⟩
  have e5 : u ||| m % 128 * 2 ^ (7 * i) = u + m % 128 * 2 ^ (7 * i) := or_add _ _ _ hu
  rw [e3, e4]
  rw [hY] at h2 e5 ⊢
  rw [show IntKind.u64.wrap ((Y : Nat) : Int) = (Y : Int) by rw [IntKind.wrap_u64]; omega, u64_or_nat _ _ (by omega) (by omega), e5]
theorem ret_num2 {k : IntKind} {a b : Int} {v : Value} (h : a = b) : Ending.returned (.tuple #[.int k a, v]) = .returned (.tuple #[.int k b, v]) := by rw [h]
/-- What Uvarint answers and leaves. -/
def UvPost (w : World) (base p : Nat) (v : Value) (bs : List UInt8) (k : Nat) (EV : Nat → Value) (e : Ending) (w' : World) : Prop :=
  (∀ n, getU (bs.drop k) = .error n → e = .returned (.tuple #[.int .u64 0, EV n]) ∧ ∃ d, w' = w.drewN d) ∧
  (∀ u n, getU (bs.drop k) = .ok (u, n) → e = .returned (.tuple #[.int .u64 (u : Nat), .nilIface]) ∧ Rdr w' base p v bs (k + n) ∧ Eff (· = p) w w')

set_option maxRecDepth 100000 in
set_option maxHeartbeats 2000000 in
theorem ruv_any (w : World) (base p : Nat) (v : Value) (bs : List UInt8) (k : Nat) (h : Rdr w base p v bs k) (EV : Nat → Value) (hS : w.cell? ⟨0, 0, none⟩ = some (EV 1)) (hV : w.cell? ⟨1, 0, none⟩ = some (EV 2)) :
    Calls Tryd.prog 58 #[.pointer (some ⟨p, 0, none⟩)] w (UvPost w base p v bs k EV) := by
  have hkl := h.le
  have hsm := h.sm
  go_enter Tryd.func58, Tryd.ntmps58
  go_wp2
  go_loopw [4, 5] (fun s4 s5 wr => ∃ (i u d : Nat), s5 = .int .i64 i ∧ s4 = .int .u64 u ∧ i ≤ 9 ∧ k + i ≤ bs.length ∧ u < 2 ^ (7 * i) ∧ rdU i u (bs.drop (k + i)) = getU (bs.drop k) ∧ wr = w.drewN d) (fun _ s _ => 10 - (intOf s).toNat)
  case atStart => exact ⟨0, 0, 0, rfl, rfl, by omega, by omega, by decide, rfl, rfl⟩
  case round =>
    obtain ⟨i, u, d, rfl, rfl, hi, hki, hu, hres, rfl⟩ := hrel
    have hh := h.drewN d
    have hc0 := hh.c0
    have hc2 := hh.c2
    have hq := rleft_any _ base p v bs k hh
    have HRES := Lib.hid hres
    clear hres
    by_cases hlt : k + i < bs.length
    · obtain ⟨av, nv, cv, rfl⟩ := own_sl h.own
      obtain ⟨g, rfl, rfl, hcb0⟩ := hh.byte (k + i) hlt
      have HCB := Lib.hid ((show Rdr w base p (.slice (some ⟨g, 0, none⟩) bs.length cv) bs k from h).own.get (bytesV_get bs (k + i) hlt))
      have hdr : bs.drop (k + i) = bs[k + i] :: bs.drop (k + (i + 1)) := by rw [List.drop_eq_getElem_cons hlt]; rfl
      obtain ⟨x, hx⟩ : ∃ x, bs[k + i] = x := ⟨_, rfl⟩
      rw [hx] at hcb0 hdr HCB
      have hres := HRES.out
      rw [hdr] at hres
      have HRX := Lib.hid hres
      have hx256 := x.toNat_lt
      obtain ⟨m, hm⟩ : ∃ m, x.toNat = m := ⟨_, rfl⟩
      rw [hm] at hcb0 hx256 HCB
      have HM := Lib.hid hm
      clear hdr hx hres hm HRES hcb0
      go_wp2_with fail
      refine hq.mono ?_
      rintro e w' ⟨rfl, d2, rfl⟩
      rw [World.drewN_drewN]
      clear hq hc0 hc2 hh
      have hc0 := h.c0
      have hc2 := h.c2
      have hcb := HCB.out
      have q0 : decide ((bs.length : Int) - (k : Int) ≤ (i : Int)) = false := by simp; omega
      have q1 : IntKind.i64.wrap ((k : Int) + (i : Int)) = (k : Int) + (i : Int) := IntWalk.i64_in _ (by omega)
      have q2 : 0 ≤ (k : Int) + (i : Int) := by omega
      have q3 : ((k : Int) + (i : Int)).toNat = k + i := by omega
      have q4 : (k : Int) + (i : Int) < (bs.length : Nat) := by omega
      go_wp2
      go_quiet (fail)
      rw [World.drewN_drewN]
      clear hc0 hc2 hcb q0 q1 q2 q3 q4
      by_cases hi9 : i = 9
      · subst hi9
        by_cases h1m : 1 < m
        · have t0 : decide ((1 : Int) < m) = true := by simp; omega
          have hr2 : getU (bs.drop k) = .error 2 := by rw [← HRX.out, rdU, if_pos ⟨rfl, by rw [HM.out]; exact h1m⟩]
          have HR2 := Lib.hid hr2
          clear hr2
          go_wp2
          go_quiet (fail)
          go_wp2
          go_ret2
          exact ⟨fun n hn => by rw [HR2.out] at hn; injection hn with hn; subst hn; exact ⟨rfl, _, by rw [World.drewN_drewN]⟩, fun u n hn => by rw [HR2.out] at hn; cases hn⟩
        · have t0 : decide ((1 : Int) < m) = false := by simp; omega
          have t1 : decide ((128 : Int) ≤ m) = false := by simp; omega
          by_cases hm0 : m = 0
          · subst hm0
            have hr2 : getU (bs.drop k) = .error 2 := by rw [← HRX.out, rdU, HM.out, if_neg (by omega), if_neg (by omega), if_pos ⟨rfl, by omega⟩]
            have HR2 := Lib.hid hr2
            clear hr2
            go_wp2
            go_quiet (fail)
            go_wp2
            go_ret2
            exact ⟨fun n hn => by rw [HR2.out] at hn; injection hn with hn; subst hn; exact ⟨rfl, _, by rw [World.drewN_drewN]⟩, fun u n hn => by rw [HR2.out] at hn; cases hn⟩
          · have t2 : ((m : Int) == 0) = false := by simp; omega
            obtain ⟨o1, o2, o3⟩ := or_uv u 9 m hu hi hx256 (by omega) (fun e => by omega)
            rw [show (2 : Int) ^ (7 * 9) = 9223372036854775808 by decide] at o1
            have HO := Lib.hid o1
            have hr2 : getU (bs.drop k) = .ok (u + m % 128 * 2 ^ (7 * 9), 9 + 1) := by rw [← HRX.out, rdU, HM.out, if_neg (by omega), if_neg (by omega), if_neg (by omega)]
            have HR2 := Lib.hid hr2
            have hc0 := h.c0
            have hf := h.fz 0
            have HMV := Lib.hid ((h.drewN (d + d2 + nq)).move (k + (9 + 1)) (by omega))
            have HEF := Lib.hid (((Eff.refl (· = p) w).drewN (d + d2 + nq)).setCell (p := ⟨p, 0, none⟩) (fun _ => rfl) (.int .i64 ((k + (9 + 1) : Nat) : Int)))
            clear hr2 o1
            go_wp2
            go_ret2
            refine ⟨fun n hn => (by rw [HR2.out] at hn; cases hn), fun u' n hn => ?_⟩
            rw [HR2.out] at hn
            injection hn with hn
            injection hn with hn1 hn2
            subst hn1 hn2
            exact ⟨ret_num2 HO.out, HMV.out, HEF.out⟩
      · have h9 : ¬ (i = 9 ∧ 1 < m) := fun e => hi9 e.1
        have t0 : ((i : Int) == 9) = false := by simp; omega
        by_cases h128 : 128 ≤ m
        · have t1 : decide ((128 : Int) ≤ m) = true := by simp; omega
          obtain ⟨o1, o2, o3⟩ := or_uv u i m hu hi hx256 h9 (fun e => by omega)
          have HO := Lib.hid o1
          have hr2 : rdU (i + 1) (u + m % 128 * 2 ^ (7 * i)) (bs.drop (k + (i + 1))) = getU (bs.drop k) := by rw [← HRX.out, rdU, HM.out, if_neg h9, if_pos h128]
          have HR2 := Lib.hid hr2
          clear hr2 o1
          go_wp2
          go_roundw
          case rel => exact ⟨i + 1, _, _, by go_num, by rw [HO.out], by omega, by omega, o2, HR2.out, rfl⟩
          case measure => simp [intOf]; omega
        · have t1 : decide ((128 : Int) ≤ m) = false := by simp; omega
          by_cases hz : m = 0 ∧ 0 < i
          · obtain ⟨rfl, hi0⟩ := hz
            have t2 : decide ((0 : Int) < i) = true := by simp; omega
            have hr2 : getU (bs.drop k) = .error 2 := by rw [← HRX.out, rdU, HM.out, if_neg h9, if_neg h128, if_pos ⟨rfl, hi0⟩]
            have HR2 := Lib.hid hr2
            clear hr2
            go_wp2
            go_quiet (fail)
            go_wp2
            go_ret2
            exact ⟨fun n hn => by rw [HR2.out] at hn; injection hn with hn; subst hn; exact ⟨rfl, _, by rw [World.drewN_drewN]⟩, fun u n hn => by rw [HR2.out] at hn; cases hn⟩
          · obtain ⟨o1, o2, o3⟩ := or_uv u i m hu hi hx256 h9 (fun e => by omega)
            have HO := Lib.hid o1
            have hr2 : getU (bs.drop k) = .ok (u + m % 128 * 2 ^ (7 * i), i + 1) := by rw [← HRX.out, rdU, HM.out, if_neg h9, if_neg h128, if_neg hz]
            by_cases hm0 : m = 0
            · have hi0 : i = 0 := by omega
              subst hm0 hi0
              have HR2 := Lib.hid hr2
              have hc0 := h.c0
              have hf := h.fz 0
              have HMV := Lib.hid ((h.drewN (d + d2 + nq)).move (k + (0 + 1)) (by omega))
              have HEF := Lib.hid (((Eff.refl (· = p) w).drewN (d + d2 + nq)).setCell (p := ⟨p, 0, none⟩) (fun _ => rfl) (.int .i64 ((k + (0 + 1) : Nat) : Int)))
              clear hr2 o1
              go_wp2
              go_ret2
              refine ⟨fun n hn => (by rw [HR2.out] at hn; cases hn), fun u' n hn => ?_⟩
              rw [HR2.out] at hn
              injection hn with hn
              injection hn with hn1 hn2
              subst hn1 hn2
              exact ⟨ret_num2 HO.out, HMV.out, HEF.out⟩
            · have t2 : ((m : Int) == 0) = false := by simp; omega
              have HR2 := Lib.hid hr2
              have hc0 := h.c0
              have hf := h.fz 0
              have HMV := Lib.hid ((h.drewN (d + d2 + nq)).move (k + (i + 1)) (by omega))
              have HEF := Lib.hid (((Eff.refl (· = p) w).drewN (d + d2 + nq)).setCell (p := ⟨p, 0, none⟩) (fun _ => rfl) (.int .i64 ((k + (i + 1) : Nat) : Int)))
              clear hr2 o1
              go_wp2
              go_ret2
              refine ⟨fun n hn => (by rw [HR2.out] at hn; cases hn), fun u' n hn => ?_⟩
              rw [HR2.out] at hn
              injection hn with hn
              injection hn with hn1 hn2
              subst hn1 hn2
              exact ⟨ret_num2 HO.out, HMV.out, HEF.out⟩
    · have hr2 : getU (bs.drop k) = .error 1 := by rw [← HRES.out, List.drop_eq_nil_of_le (by omega)]; rfl
      have HR2 := Lib.hid hr2
      have q0 : decide ((bs.length : Int) - (k : Int) ≤ (i : Int)) = true := by simp; omega
      clear hr2 HRES
      go_wp2_with fail
      refine hq.mono ?_
      rintro e w' ⟨rfl, d2, rfl⟩
      rw [World.drewN_drewN]
      go_wp2
      go_quiet (fail)
      go_wp2
      go_ret2
      exact ⟨fun n hn => by rw [HR2.out] at hn; injection hn with hn; subst hn; exact ⟨rfl, _, by rw [World.drewN_drewN]⟩, fun u n hn => by rw [HR2.out] at hn; cases hn⟩
end Go.Proofs.YthnpbfadblcicaaDoor
