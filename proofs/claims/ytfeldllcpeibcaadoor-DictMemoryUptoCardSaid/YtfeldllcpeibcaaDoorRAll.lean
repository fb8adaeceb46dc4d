/- codec.Reader: Byte, Varint, Upto, Word32, Word64. -/
import Derived.Test.YtfeldllcpeibcaaDoorReader
import Derived.Test.YtfeldllcpeibcaaDoorRdP
import Derived.Test.YtfeldllcpeibcaaDoorNum
import Derived.Test.YtfeldllcpeibcaaDoorErr
namespace Go.Proofs.YtfeldllcpeibcaaDoor
set_option linter.unusedVariables false
open Go.ChangeShapes Go.WideShapes Go.ChangeAt Go.RowKit

/-- The errors that a Reader answers: EA k is the sentinel of number k. -/
structure RErr (w : World) (EA : Nat → Addr) : Prop where
  s : w.cell? ⟨3, 0, none⟩ = some (errV EA 1)
  v : w.cell? ⟨4, 0, none⟩ = some (errV EA 2)
  l : w.cell? ⟨1, 0, none⟩ = some (errV EA 3)
  o : w.cell? ⟨2, 0, none⟩ = some (errV EA 4)
  r : w.cell? ⟨8, 0, none⟩ = some (errV EA 8)
theorem RErr.drewN {w : World} {EA : Nat → Addr} (h : RErr w EA) (d : Nat) : RErr (w.drewN d) EA := ⟨h.s, h.v, h.l, h.o, h.r⟩
theorem RErr.below {w w' : World} {EA : Nat → Addr} {B : Nat} (h : RErr w EA) (hb : Below B w w') (hB : 3 < B ∧ 4 < B ∧ 1 < B ∧ 2 < B ∧ 8 < B) : RErr w' EA :=
  ⟨by rw [hb.cell hB.1]; exact h.s, by rw [hb.cell hB.2.1]; exact h.v, by rw [hb.cell hB.2.2.1]; exact h.l, by rw [hb.cell hB.2.2.2.1]; exact h.o, by rw [hb.cell hB.2.2.2.2]; exact h.r⟩
/-- All sentinels lie below base. -/
def GLow (base : Nat) : Prop := 3 < base ∧ 4 < base ∧ 1 < base ∧ 2 < base ∧ 8 < base
theorem RErr.eff {w w' : World} {EA : Nat → Addr} {F : Nat → Prop} {base : Nat} (h : RErr w EA) (he : Eff F w w') (hB : GLow base) (hF : ∀ k, F k → base ≤ k) : RErr w' EA :=
  ⟨he.cell (p := ⟨3, 0, none⟩) (fun f => by have h1 := hF _ f; have h2 := hB.1; simp only at h1; omega) h.s, he.cell (p := ⟨4, 0, none⟩) (fun f => by have h1 := hF _ f; have h2 := hB.2.1; simp only at h1; omega) h.v, he.cell (p := ⟨1, 0, none⟩) (fun f => by have h1 := hF _ f; have h2 := hB.2.2.1; simp only at h1; omega) h.l,
    he.cell (p := ⟨2, 0, none⟩) (fun f => by have h1 := hF _ f; have h2 := hB.2.2.2.1; simp only at h1; omega) h.o, he.cell (p := ⟨8, 0, none⟩) (fun f => by have h1 := hF _ f; have h2 := hB.2.2.2.2; simp only at h1; omega) h.r⟩
theorem RErr.lt {w : World} {EA : Nat → Addr} (h : RErr w EA) : 3 < w.heap.size ∧ 4 < w.heap.size ∧ 1 < w.heap.size ∧ 2 < w.heap.size ∧ 8 < w.heap.size :=
  ⟨World.block_lt_of_cell? w _ h.s, World.block_lt_of_cell? w _ h.v, World.block_lt_of_cell? w _ h.l, World.block_lt_of_cell? w _ h.o, World.block_lt_of_cell? w _ h.r⟩
/-- What a call that reads a plain value answers and leaves. -/
def ROut {α : Type} (w : World) (base p : Nat) (v : Value) (bs : List UInt8) (k : Nat) (EA : Nat → Addr) (zero : Value) (val : α → Value) (res : Except Nat (α × Nat)) (e : Ending) (w' : World) : Prop :=
  (∀ n, res = .error n → e = .returned (.tuple #[zero, errV EA n]) ∧ Rdr w' base p v bs k ∧ Eff (· = p) w w') ∧
  (∀ x n, res = .ok (x, n) → e = .returned (.tuple #[val x, .nilIface]) ∧ Rdr w' base p v bs (k + n) ∧ Eff (· = p) w w')
theorem ROut.err {α : Type} {w : World} {base p : Nat} {v : Value} {bs : List UInt8} {k : Nat} {EA : Nat → Addr} {zero : Value} {val : α → Value} {res : Except Nat (α × Nat)} {e : Ending} {w' : World} {n : Nat}
    (hr : res = .error n) (he : e = .returned (.tuple #[zero, errV EA n])) (h1 : Rdr w' base p v bs k) (h2 : Eff (· = p) w w') : ROut w base p v bs k EA zero val res e w' :=
  ⟨fun m hm => (by rw [hr] at hm; injection hm with hm; subst hm; exact ⟨he, h1, h2⟩), fun x m hm => (by rw [hr] at hm; cases hm)⟩
theorem ROut.ok {α : Type} {w : World} {base p : Nat} {v : Value} {bs : List UInt8} {k : Nat} {EA : Nat → Addr} {zero : Value} {val : α → Value} {res : Except Nat (α × Nat)} {e : Ending} {w' : World} {x : α} {n : Nat}
    (hr : res = .ok (x, n)) (he : e = .returned (.tuple #[val x, .nilIface])) (h1 : Rdr w' base p v bs (k + n)) (h2 : Eff (· = p) w w') : ROut w base p v bs k EA zero val res e w' :=
  ⟨fun m hm => (by rw [hr] at hm; cases hm), fun y m hm => (by rw [hr] at hm; injection hm with hm; injection hm with h3 h4; subst h3 h4; exact ⟨he, h1, h2⟩)⟩

theorem ruv_out (w : World) (base p : Nat) (v : Value) (bs : List UInt8) (k : Nat) (h : Rdr w base p v bs k) (EA : Nat → Addr) (hE : RErr w EA) :
    Calls Tryd.prog 85 #[.pointer (some ⟨p, 0, none⟩)] w (ROut w base p v bs k EA (.int .u64 0) (fun u : Nat => .int .u64 u) (getU (bs.drop k))) := by
  refine (ruv_any w base p v bs k h (errV EA) hE.s hE.v).mono ?_
  rintro e w' ⟨h1, h2⟩
  refine ⟨fun n hn => ?_, fun u n hn => h2 u n hn⟩
  obtain ⟨he, d, rfl⟩ := h1 n hn
  exact ⟨he, h.drewN d, (Eff.refl _ _).drewN d⟩

theorem ret_num1 {k : IntKind} {a b : Int} (h : a = b) : Ending.returned (.tuple #[.int k a, .nilIface]) = .returned (.tuple #[.int k b, .nilIface]) := by rw [h]
set_option maxRecDepth 100000 in
theorem rupto_out (w : World) (base p : Nat) (v : Value) (bs : List UInt8) (k : Nat) (h : Rdr w base p v bs k) (EA : Nat → Addr) (hE : RErr w EA) (hG : GLow base) (most : Int) (hm0 : -9223372036854775808 ≤ most) (hm1 : most ≤ 9223372036854775807) :
    Calls Tryd.prog 79 #[.pointer (some ⟨p, 0, none⟩), .int .i64 most] w (ROut w base p v bs k EA (.int .i64 0) (fun u : Nat => .int .i64 u) (getUpto most (bs.drop k))) := by
  have C1 := ruv_out w base p v bs k h EA hE
  have hc0 := h.c0
  have hle := h.le
  cases hres : getU (bs.drop k) with
  | error n =>
    have hup : getUpto most (bs.drop k) = .error n := by unfold getUpto; rw [hres]
    have HR := Lib.hid hres
    have HU := Lib.hid hup
    clear hres hup
    go_enter Tryd.func79, Tryd.ntmps79
    go_wp2_with fail
    refine C1.mono ?_
    rintro e w' ⟨h1, _⟩
    obtain ⟨rfl, hr, he⟩ := h1 n HR.out
    unfold errV
    go_wp2
    go_ret2
    exact ROut.err HU.out rfl hr he
  | ok x =>
    obtain ⟨u, n⟩ := x
    have hu := (getU_ok hres).1
    by_cases hgt : most < u
    · have hup : getUpto most (bs.drop k) = .error 3 := by unfold getUpto; rw [hres]; exact if_pos hgt
      have HR := Lib.hid hres
      have HU := Lib.hid hup
      clear hres hup
      have HE0 := Lib.hid hE
      have HG := Lib.hid hG
      have HC := Lib.hid C1
      have hp := h.hp
      clear hE hG C1
      have hq : most < 0 ∨ (0 ≤ most ∧ most < u) := by omega
      rcases hq with hq | ⟨hq0, hq⟩
      · have t1 : decide (most < 0) = true := decide_eq_true hq
        go_enter Tryd.func79, Tryd.ntmps79
        go_wp2_with fail
        refine HC.out.mono ?_
        rintro e w' ⟨_, h1⟩
        obtain ⟨rfl, hr, he⟩ := h1 u n HR.out
        have hl := (HE0.out.eff he HG.out (fun k hk => by subst hk; exact hp)).l
        have hf := hr.fz 0
        have hcc := hr.c0
        have hl2 : (w'.setCell ⟨p, 0, none⟩ (.int .i64 k)).cell? ⟨1, 0, none⟩ = some (errV EA 3) := by
          rw [World.cell?_of_block (Below.heap_setCell w' _ _ 1 (by have := HG.out.2.2.1; simp only; omega))]; exact hl
        have hmv := hr.move k hle
        have hef := he.setCell (p := ⟨p, 0, none⟩) (fun _ => rfl) (.int .i64 (k : Nat))
        have HM := Lib.hid hmv
        have HF := Lib.hid hef
        clear hmv hef hr he h1 hl
        unfold errV at hl2
        go_wp2
        go_quiet (fail)
        go_wp2
        go_ret2
        exact ROut.err HU.out rfl (HM.out.drewN _) (HF.out.drewN _)
      · have t1 : decide (most < 0) = false := decide_eq_false (by omega)
        have t2 : decide (most < (u : Int)) = true := decide_eq_true hq
        have q1 : IntKind.u64.wrap most = most := by rw [IntKind.wrap_u64]; omega
        go_enter Tryd.func79, Tryd.ntmps79
        go_wp2_with fail
        refine HC.out.mono ?_
        rintro e w' ⟨_, h1⟩
        obtain ⟨rfl, hr, he⟩ := h1 u n HR.out
        have hl := (HE0.out.eff he HG.out (fun k hk => by subst hk; exact hp)).l
        have hf := hr.fz 0
        have hcc := hr.c0
        have hl2 : (w'.setCell ⟨p, 0, none⟩ (.int .i64 k)).cell? ⟨1, 0, none⟩ = some (errV EA 3) := by
          rw [World.cell?_of_block (Below.heap_setCell w' _ _ 1 (by have := HG.out.2.2.1; simp only; omega))]; exact hl
        have hmv := hr.move k hle
        have hef := he.setCell (p := ⟨p, 0, none⟩) (fun _ => rfl) (.int .i64 (k : Nat))
        have HM := Lib.hid hmv
        have HF := Lib.hid hef
        clear hmv hef hr he h1 hl
        unfold errV at hl2
        go_wp2
        go_quiet (fail)
        go_wp2
        go_ret2
        exact ROut.err HU.out rfl (HM.out.drewN _) (HF.out.drewN _)
    · have hup : getUpto most (bs.drop k) = .ok (u, n) := by unfold getUpto; rw [hres]; exact if_neg hgt
      have HR := Lib.hid hres
      have HU := Lib.hid hup
      clear hres hup
      have t1 : decide (most < 0) = false := decide_eq_false (by omega)
      have q1 : IntKind.u64.wrap most = most := by rw [IntKind.wrap_u64]; omega
      have t2 : decide (most < (u : Int)) = false := decide_eq_false (by omega)
      go_enter Tryd.func79, Tryd.ntmps79
      go_wp2_with fail
      refine C1.mono ?_
      rintro e w' ⟨_, h1⟩
      obtain ⟨rfl, hr, he⟩ := h1 u n HR.out
      go_wp2
      go_ret2
      exact ROut.ok HU.out rfl hr he
end Go.Proofs.YtfeldllcpeibcaaDoor
