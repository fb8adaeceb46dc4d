/- Merged: RAll, RRaw. -/
import Derived.Test.YthnpbfadblcicaaDoorZReader
import Derived.Test.YthnpbfadblcicaaDoorZG5
import Derived.Test.YthnpbfadblcicaaDoorZG5
import Derived.Test.YthnpbfadblcicaaDoorZG1
/- codec.Reader: Byte, Varint, Upto, Word32, Word64. -/
namespace Go.Proofs.YthnpbfadblcicaaDoor
set_option linter.unusedVariables false
open Go.ChangeShapes Go.WideShapes Go.ChangeAt Go.RowKit

/-- The errors that a Reader answers: EA k is the sentinel of number k. -/
structure RErr (w : World) (EA : Nat → Addr) : Prop where
  s : w.cell? ⟨0, 0, none⟩ = some (errV EA 1)
  v : w.cell? ⟨1, 0, none⟩ = some (errV EA 2)
  l : w.cell? ⟨2, 0, none⟩ = some (errV EA 3)
  o : w.cell? ⟨3, 0, none⟩ = some (errV EA 4)
theorem RErr.drewN {w : World} {EA : Nat → Addr} (h : RErr w EA) (d : Nat) : RErr (w.drewN d) EA := ⟨h.s, h.v, h.l, h.o⟩
theorem RErr.below {w w' : World} {EA : Nat → Addr} {B : Nat} (h : RErr w EA) (hb : Below B w w') (hB : 0 < B ∧ 1 < B ∧ 2 < B ∧ 3 < B) : RErr w' EA :=
  ⟨by rw [hb.cell hB.1]; exact h.s, by rw [hb.cell hB.2.1]; exact h.v, by rw [hb.cell hB.2.2.1]; exact h.l, by rw [hb.cell hB.2.2.2]; exact h.o⟩
/-- All sentinels lie below base. -/
def GLow (base : Nat) : Prop := 0 < base ∧ 1 < base ∧ 2 < base ∧ 3 < base
theorem RErr.eff {w w' : World} {EA : Nat → Addr} {F : Nat → Prop} {base : Nat} (h : RErr w EA) (he : Eff F w w') (hB : GLow base) (hF : ∀ k, F k → base ≤ k) : RErr w' EA :=
  ⟨he.cell (p := ⟨0, 0, none⟩) (fun f => by have h1 := hF _ f; have h2 := hB.1; simp only at h1; omega) h.s, he.cell (p := ⟨1, 0, none⟩) (fun f => by have h1 := hF _ f; have h2 := hB.2.1; simp only at h1; omega) h.v, he.cell (p := ⟨2, 0, none⟩) (fun f => by have h1 := hF _ f; have h2 := hB.2.2.1; simp only at h1; omega) h.l,
    he.cell (p := ⟨3, 0, none⟩) (fun f => by have h1 := hF _ f; have h2 := hB.2.2.2; simp only at h1; omega) h.o⟩
theorem RErr.lt {w : World} {EA : Nat → Addr} (h : RErr w EA) : 0 < w.heap.size ∧ 1 < w.heap.size ∧ 2 < w.heap.size ∧ 3 < w.heap.size :=
  ⟨World.block_lt_of_cell? w _ h.s, World.block_lt_of_cell? w _ h.v, World.block_lt_of_cell? w _ h.l, World.block_lt_of_cell? w _ h.o⟩
/-- What a call that reads a plain value answers and leaves. -/
def ROut {α : Type} (w : World) (base p : Nat) (v : Value) (bs : List UInt8) (k : Nat) (EA : Nat → Addr) (zero : Value) (val : α → Value) (res : Except Nat (α × Nat)) (e : Ending) (w' : World) : Prop :=
  (∀ n, res = .error n → e = .returned (.tuple #[zero, errV EA n]) ∧ Rdr w' base p v bs k ∧ Eff (· = p) w w') ∧
  (∀ x n, res = .ok (x, n) → e = .returned (.tuple #[val x, .nilIface]) ∧ Rdr w' base p v bs (k + n) ∧ Eff (· = p) w w')
theorem ROut.err {α : Type} {w : World} {base p : Nat} {v : Value} {bs : List UInt8} {k : Nat} {EA : Nat → Addr} {zero : Value} {val : α → Value} {res : Except Nat (α × Nat)} {e : Ending} {w' : World} {n : Nat}
    (hr : res = .error n) (he : e = .returned (.tuple #[zero, errV EA n])) (h1 : Rdr w' base p v bs k) (h2 : Eff (· = p) w w') : ROut w base p v bs k EA zero val res e w' :=
  ⟨fun m hm => (by rw [hr] at hm; injection hm with hm; subst hm; exact ⟨he, h1, h2⟩), fun x m hm => (by rw [hr] at hm; cases hm)⟩
theorem ROut.ok {α : Type} {w : World} {base p : Nat} {v : Value} {bs : List UInt8} {k : Nat} {EA : Nat → Addr} {zero : Value} {val : α → Value} {res : Except Nat (α × Nat)} {e : Ending} {w' : World} {x : α} {n : Nat}
    (hr : res = .ok (x, n)) (he : e = .returned (.tuple #[val x, .nilIface])) (h1 : Rdr w' base p v bs (k + n)) (h2 : Eff (· = p) w w') : ROut w base p v bs k EA zero val res e w' :=
  ⟨fun m hm => (by rw [hr] at hm; cases hm), fun y m hm => (by rw [hr] at hm; injection hm with hm; injection hm with h3 h4; subst h3 h4; exact ⟨he, h1, h2⟩)⟩

theorem ruv_out (w : World) (base p : Nat) (v : Value) (bs : List UInt8) (k : Nat) (h : Rdr w base p v bs k) (EA : Nat → Addr) (hE : RErr w EA) :
    Calls Tryd.prog 58 #[.pointer (some ⟨p, 0, none⟩)] w (ROut w base p v bs k EA (.int .u64 0) (fun u : Nat => .int .u64 u) (getU (bs.drop k))) := by
  refine (ruv_any w base p v bs k h (errV EA) hE.s hE.v).mono ?_
  rintro e w' ⟨h1, h2⟩
  refine ⟨fun n hn => ?_, fun u n hn => h2 u n hn⟩
  obtain ⟨he, d, rfl⟩ := h1 n hn
  exact ⟨he, h.drewN d, (Eff.refl _ _).drewN d⟩

theorem rbyte_ok (w : World) (base p : Nat) (v : Value) (bs : List UInt8) (k : Nat) (h : Rdr w base p v bs k) (hk : k < bs.length) :
    Calls Tryd.prog 78 #[.pointer (some ⟨p, 0, none⟩)] w fun e w' => e = .returned (.tuple #[.int .u8 (bs[k].toNat : Nat), .nilIface]) ∧ Rdr w' base p v bs (k + 1) ∧ Eff (· = p) w w' := by
  have C1 := rleft_any w base p v bs k h
  have hsm := h.sm
  have t1 : ((bs.length : Int) - (k : Int) == 0) = false := by simp; omega
  go_enter Tryd.func78, Tryd.ntmps78
  go_wp2_with fail
  refine C1.mono ?_
  rintro e w' ⟨rfl, d, rfl⟩
  have hd := h.drewN d
  have hc0 := hd.c0
  have hf0 := hd.fz 0
  have hmv := hd.move (k + 1) (by omega)
  have hef : Eff (· = p) w ((w.drewN d).setCell ⟨p, 0, none⟩ (.int .i64 ((k + 1 : Nat) : Int))) := ((Eff.refl (· = p) w).drewN d).setCell (p := ⟨p, 0, none⟩) (fun _ => rfl) _
  obtain ⟨av, nv, cv, rfl⟩ := own_sl h.own
  obtain ⟨g, rfl, rfl, hcb⟩ := hmv.byte k hk
  have hk1 := hmv.c0
  have hk2 := hmv.c2
  have HM := Lib.hid hmv
  have HE := Lib.hid hef
  clear C1 hd hmv hef h
  rw [show ((k + 1 : Nat) : Int) = (k : Int) + 1 by omega] at HM HE hcb hk1 hk2
  have q1 : IntKind.i64.wrap ((k : Int) + 1 - 1) = (k : Int) := by rw [show (k : Int) + 1 - 1 = k by omega]; exact IntWalk.i64_in _ (by omega)
  have q2 : (k : Int) < (bs.length : Nat) := by omega
  go_wp2
  go_quiet (fail)
  go_wp2
  go_ret2
  exact ⟨rfl, HM.out.drewN _, HE.out.drewN _⟩
theorem rbyte_err (w : World) (base p : Nat) (v : Value) (bs : List UInt8) (k : Nat) (h : Rdr w base p v bs k) (EA : Nat → Addr) (hE : RErr w EA) (hk : ¬ k < bs.length) :
    Calls Tryd.prog 78 #[.pointer (some ⟨p, 0, none⟩)] w fun e w' => e = .returned (.tuple #[.int .u8 0, errV EA 1]) ∧ Rdr w' base p v bs k ∧ Eff (· = p) w w' := by
  have C1 := rleft_any w base p v bs k h
  have hsm := h.sm
  have hle := h.le
  have t1 : ((bs.length : Int) - (k : Int) == 0) = true := by simp; omega
  have hs := hE.s
  go_enter Tryd.func78, Tryd.ntmps78
  go_wp2_with fail
  refine C1.mono ?_
  rintro e w' ⟨rfl, d, rfl⟩
  have HM := Lib.hid (h.drewN d)
  clear C1 h
  go_wp2
  go_quiet (fail)
  go_wp2
  go_ret2
  exact ⟨rfl, HM.out.drewN _, ((Eff.refl _ _).drewN d).drewN _⟩

theorem ret_num1 {k : IntKind} {a b : Int} (h : a = b) : Ending.returned (.tuple #[.int k a, .nilIface]) = .returned (.tuple #[.int k b, .nilIface]) := by rw [h]
set_option maxRecDepth 100000 in
theorem rupto_out (w : World) (base p : Nat) (v : Value) (bs : List UInt8) (k : Nat) (h : Rdr w base p v bs k) (EA : Nat → Addr) (hE : RErr w EA) (hG : GLow base) (most : Int) (hm0 : -9223372036854775808 ≤ most) (hm1 : most ≤ 9223372036854775807) :
    Calls Tryd.prog 59 #[.pointer (some ⟨p, 0, none⟩), .int .i64 most] w (ROut w base p v bs k EA (.int .i64 0) (fun u : Nat => .int .i64 u) (getUpto most (bs.drop k))) := by
  have C1 := ruv_out w base p v bs k h EA hE
  have hc0 := h.c0
  have hle := h.le
  cases hres : getU (bs.drop k) with
  | error n =>
    have hup : getUpto most (bs.drop k) = .error n := by unfold getUpto; rw [hres]
    have HR := Lib.hid hres
    have HU := Lib.hid hup
    clear hres hup
    go_enter Tryd.func59, Tryd.ntmps59
    go_wp2_with fail
    refine C1.mono ?_
    rintro e w' ⟨h1, _⟩
    obtain ⟨rfl, hr, he⟩ := h1 n HR.out
    unfold errV
    go_wp2
    go_ret2
    exact ROut.err HU.out rfl hr he
  | ok x =>
    obtain ⟨u, n⟩ := x
    have hu := (getU_ok hres).1
    by_cases hgt : most < u
    · have hup : getUpto most (bs.drop k) = .error 3 := by unfold getUpto; rw [hres]; exact if_pos hgt
      have HR := Lib.hid hres
      have HU := Lib.hid hup
      clear hres hup
      have HE0 := Lib.hid hE
      have HG := Lib.hid hG
      have HC := Lib.hid C1
      have hp := h.hp
      clear hE hG C1
      have hq : most < 0 ∨ (0 ≤ most ∧ most < u) := by omega
      rcases hq with hq | ⟨hq0, hq⟩
      · have t1 : decide (most < 0) = true := decide_eq_true hq
        go_enter Tryd.func59, Tryd.ntmps59
        go_wp2_with fail
        refine HC.out.mono ?_
        rintro e w' ⟨_, h1⟩
        obtain ⟨rfl, hr, he⟩ := h1 u n HR.out
        have hl := (HE0.out.eff he HG.out (fun k hk => by subst hk; exact hp)).l
        have hf := hr.fz 0
        have hcc := hr.c0
        have hl2 : (w'.setCell ⟨p, 0, none⟩ (.int .i64 k)).cell? ⟨2, 0, none⟩ = some (errV EA 3) := by
          rw [World.cell?_of_block (Below.heap_setCell w' _ _ 2 (by have := HG.out.2.2.1; simp only; omega))]; exact hl
        have hmv := hr.move k hle
        have hef := he.setCell (p := ⟨p, 0, none⟩) (fun _ => rfl) (.int .i64 (k : Nat))
        have HM := Lib.hid hmv
        have HF := Lib.hid hef
        clear hmv hef hr he h1 hl
        unfold errV at hl2
        go_wp2
        go_quiet (fail)
        go_wp2
        go_ret2
        exact ROut.err HU.out rfl (HM.out.drewN _) (HF.out.drewN _)
      · have t1 : decide (most < 0) = false := decide_eq_false (by omega)
        have t2 : decide (most < (u : Int)) = true := decide_eq_true hq
        have q1 : IntKind.u64.wrap most = most := by rw [IntKind.wrap_u64]; omega
        go_enter Tryd.func59, Tryd.ntmps59
        go_wp2_with fail
        refine HC.out.mono ?_
        rintro e w' ⟨_, h1⟩
        obtain ⟨rfl, hr, he⟩ := h1 u n HR.out
        have hl := (HE0.out.eff he HG.out (fun k hk => by subst hk; exact hp)).l
        have hf := hr.fz 0
        have hcc := hr.c0
        have hl2 : (w'.setCell ⟨p, 0, none⟩ (.int .i64 k)).cell? ⟨2, 0, none⟩ = some (errV EA 3) := by
          rw [World.cell?_of_block (Below.heap_setCell w' _ _ 2 (by have := HG.out.2.2.1; simp only; omega))]; exact hl
        have hmv := hr.move k hle
        have hef := he.setCell (p := ⟨p, 0, none⟩) (fun _ => rfl) (.int .i64 (k : Nat))
        have HM := Lib.hid hmv
        have HF := Lib.hid hef
        clear hmv hef hr he h1 hl
        unfold errV at hl2
        go_wp2
        go_quiet (fail)
        go_wp2
        go_ret2
        exact ROut.err HU.out rfl (HM.out.drewN _) (HF.out.drewN _)
    · have hup : getUpto most (bs.drop k) = .ok (u, n) := by unfold getUpto; rw [hres]; exact if_neg hgt
      have HR := Lib.hid hres
      have HU := Lib.hid hup
      clear hres hup
      have t1 : decide (most < 0) = false := decide_eq_false (by omega)
      have q1 : IntKind.u64.wrap most = most := by rw [IntKind.wrap_u64]; omega
      have t2 : decide (most < (u : Int)) = false := decide_eq_false (by omega)
      go_enter Tryd.func59, Tryd.ntmps59
      go_wp2_with fail
      refine C1.mono ?_
      rintro e w' ⟨_, h1⟩
      obtain ⟨rfl, hr, he⟩ := h1 u n HR.out
      go_wp2
      go_ret2
      exact ROut.ok HU.out rfl hr he
end Go.Proofs.YthnpbfadblcicaaDoor

/- codec.Reader: Raw, Text, Word32, Word64. -/
namespace Go.Proofs.YthnpbfadblcicaaDoor
set_option linter.unusedVariables false
open Go.ChangeShapes Go.WideShapes Go.ChangeAt Go.RowKit

theorem Eff.setP {w w' : World} {p : Nat} (h : Eff (· = p) w w') (i : Nat) (u : Value) : Eff (· = p) w (w'.setCell ⟨p, i, none⟩ u) := h.setCell (p := ⟨p, i, none⟩) (fun _ => rfl) u

theorem splice_zer (n : Nat) (cs : List Value) (h : cs.length = n) : splice (zer n) 0 cs = cs := by
  unfold splice
  have e : (zer n).drop (0 + n) = [] := List.drop_eq_nil_of_le (by simp [zer])
  rw [List.take_zero, List.nil_append, h, e, List.append_nil]
theorem rraw_end {w w4 : World} {base p : Nat} {v : Value} {bs : List UInt8} {k n : Nat} (h : Rdr w base p v bs k) (hcl : ((bs.drop k).take n).length = n) (hn : k + n ≤ bs.length) (hb : Below w.heap.size w w4)
    (hg : w4.heap[w.heap.size]? = some (.cells (bytesV ((bs.drop k).take n)).toArray 5 (0, 0))) :
    Own (w4.setCell ⟨p, 0, none⟩ (.int .i64 ((k + n : Nat) : Int))) w.heap.size 5 (.slice (some ⟨w.heap.size, 0, none⟩) n n) (bytesV ((bs.drop k).take n)) ∧
    Rdr (w4.setCell ⟨p, 0, none⟩ (.int .i64 ((k + n : Nat) : Int))) base p v bs (k + n) ∧ Eff (· = p) w (w4.setCell ⟨p, 0, none⟩ (.int .i64 ((k + n : Nat) : Int))) := by
  have hsm := h.sm
  have hr4 := h.eff (Eff.of_below hb (fun _ => False)) (fun _ _ f => f)
  have hplt := lt_of_heap h.blk
  refine ⟨.inr ⟨w.heap.size, n, (bytesV ((bs.drop k).take n)).toArray, ?_, Nat.le_refl _, ?_, ?_, ?_, ?_, ?_⟩, hr4.move (k + n) hn, (Eff.of_below hb (· = p)).setP 0 _⟩
  · rw [bytesV_length, hcl]
  · rw [Below.heap_setCell w4 _ _ _ (by simp only; omega)]; exact hg
  · rw [bytesV_length, hcl]; exact Nat.le_refl _
  · simp [bytesV_length, hcl]
  · unfold maxLen; omega
  · simp

/-- What Raw answers. -/
def RawPost (w : World) (base p : Nat) (v : Value) (bs : List UInt8) (k : Nat) (EA : Nat → Addr) (n : Int) (e : Ending) (w' : World) : Prop :=
  (∀ m, getRaw n (bs.drop k) = .error m → e = .returned (.tuple #[.slice none 0 0, errV EA m]) ∧ Rdr w' base p v bs k ∧ Eff (· = p) w w') ∧
  (∀ x m, getRaw n (bs.drop k) = .ok (x, m) → ∃ v', e = .returned (.tuple #[v', .nilIface]) ∧ Own w' w.heap.size 5 v' (bytesV x) ∧ Rdr w' base p v bs (k + m) ∧ Eff (· = p) w w')
theorem rdone_any (w : World) (base p : Nat) (v : Value) (bs : List UInt8) (k : Nat) (h : Rdr w base p v bs k) (hk : k = bs.length) :
    Calls Tryd.prog 63 #[.pointer (some ⟨p, 0, none⟩)] w fun e w' => e = .returned .nilIface ∧ ∃ d, w' = w.drewN d := by
  have hc := h.c0
  have hd := h.c1
  have hs := h.sm
  have t1 : decide (k < bs.length) = false := decide_eq_false (by omega)
  clear hk
  go_enter Tryd.func63, Tryd.ntmps63
  go_wp2
  go_quiet (fail)
  go_wp2
  go_ret
  exact ⟨rfl, _, rfl⟩
end Go.Proofs.YthnpbfadblcicaaDoor
