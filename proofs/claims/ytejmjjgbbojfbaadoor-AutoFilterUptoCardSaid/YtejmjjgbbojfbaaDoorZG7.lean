/- Merged: RAll, DictB, RRaw. -/
import Derived.Test.YtejmjjgbbojfbaaDoorZG6
import Derived.Test.YtejmjjgbbojfbaaDoorZG2
import Derived.Test.YtejmjjgbbojfbaaDoorZG5
import Derived.Test.YtejmjjgbbojfbaaDoorZG1
import Derived.Test.YtejmjjgbbojfbaaDoorZG3
import Derived.WalkLawsBesides
/- codec.Reader: Byte, Varint, Upto, Word32, Word64. -/
namespace Go.Proofs.YtejmjjgbbojfbaaDoor
set_option linter.unusedVariables false
open Go.ChangeShapes Go.WideShapes Go.ChangeAt Go.RowKit

/-- The errors that a Reader answers: EA k is the sentinel of number k. -/
structure RErr (w : World) (EA : Nat → Addr) : Prop where
  s : w.cell? ⟨3, 0, none⟩ = some (errV EA 1)
  v : w.cell? ⟨4, 0, none⟩ = some (errV EA 2)
  l : w.cell? ⟨5, 0, none⟩ = some (errV EA 3)
  o : w.cell? ⟨6, 0, none⟩ = some (errV EA 4)
theorem RErr.drewN {w : World} {EA : Nat → Addr} (h : RErr w EA) (d : Nat) : RErr (w.drewN d) EA := ⟨h.s, h.v, h.l, h.o⟩
theorem RErr.below {w w' : World} {EA : Nat → Addr} {B : Nat} (h : RErr w EA) (hb : Below B w w') (hB : 3 < B ∧ 4 < B ∧ 5 < B ∧ 6 < B) : RErr w' EA :=
  ⟨by rw [hb.cell hB.1]; exact h.s, by rw [hb.cell hB.2.1]; exact h.v, by rw [hb.cell hB.2.2.1]; exact h.l, by rw [hb.cell hB.2.2.2]; exact h.o⟩
/-- All sentinels lie below base. -/
def GLow (base : Nat) : Prop := 3 < base ∧ 4 < base ∧ 5 < base ∧ 6 < base
theorem RErr.eff {w w' : World} {EA : Nat → Addr} {F : Nat → Prop} {base : Nat} (h : RErr w EA) (he : Eff F w w') (hB : GLow base) (hF : ∀ k, F k → base ≤ k) : RErr w' EA :=
  ⟨he.cell (p := ⟨3, 0, none⟩) (fun f => by have h1 := hF _ f; have h2 := hB.1; simp only at h1; omega) h.s, he.cell (p := ⟨4, 0, none⟩) (fun f => by have h1 := hF _ f; have h2 := hB.2.1; simp only at h1; omega) h.v, he.cell (p := ⟨5, 0, none⟩) (fun f => by have h1 := hF _ f; have h2 := hB.2.2.1; simp only at h1; omega) h.l,
    he.cell (p := ⟨6, 0, none⟩) (fun f => by have h1 := hF _ f; have h2 := hB.2.2.2; simp only at h1; omega) h.o⟩
theorem RErr.lt {w : World} {EA : Nat → Addr} (h : RErr w EA) : 3 < w.heap.size ∧ 4 < w.heap.size ∧ 5 < w.heap.size ∧ 6 < w.heap.size :=
  ⟨World.block_lt_of_cell? w _ h.s, World.block_lt_of_cell? w _ h.v, World.block_lt_of_cell? w _ h.l, World.block_lt_of_cell? w _ h.o⟩
/-- What a call that reads a plain value answers and leaves. -/
def ROut {α : Type} (w : World) (base p : Nat) (v : Value) (bs : List UInt8) (k : Nat) (EA : Nat → Addr) (zero : Value) (val : α → Value) (res : Except Nat (α × Nat)) (e : Ending) (w' : World) : Prop :=
  (∀ n, res = .error n → e = .returned (.tuple #[zero, errV EA n]) ∧ Rdr w' base p v bs k ∧ Eff (· = p) w w') ∧
  (∀ x n, res = .ok (x, n) → e = .returned (.tuple #[val x, .nilIface]) ∧ Rdr w' base p v bs (k + n) ∧ Eff (· = p) w w')
theorem ROut.err {α : Type} {w : World} {base p : Nat} {v : Value} {bs : List UInt8} {k : Nat} {EA : Nat → Addr} {zero : Value} {val : α → Value} {res : Except Nat (α × Nat)} {e : Ending} {w' : World} {n : Nat}
    (hr : res = .error n) (he : e = .returned (.tuple #[zero, errV EA n])) (h1 : Rdr w' base p v bs k) (h2 : Eff (· = p) w w') : ROut w base p v bs k EA zero val res e w' :=
  ⟨fun m hm => (by rw [hr] at hm; injection hm with hm; subst hm; exact ⟨he, h1, h2⟩), fun x m hm => (by rw [hr] at hm; cases hm)⟩
theorem ROut.ok {α : Type} {w : World} {base p : Nat} {v : Value} {bs : List UInt8} {k : Nat} {EA : Nat → Addr} {zero : Value} {val : α → Value} {res : Except Nat (α × Nat)} {e : Ending} {w' : World} {x : α} {n : Nat}
    (hr : res = .ok (x, n)) (he : e = .returned (.tuple #[val x, .nilIface])) (h1 : Rdr w' base p v bs (k + n)) (h2 : Eff (· = p) w w') : ROut w base p v bs k EA zero val res e w' :=
  ⟨fun m hm => (by rw [hr] at hm; cases hm), fun y m hm => (by rw [hr] at hm; injection hm with hm; injection hm with h3 h4; subst h3 h4; exact ⟨he, h1, h2⟩)⟩

theorem ruv_out (w : World) (base p : Nat) (v : Value) (bs : List UInt8) (k : Nat) (h : Rdr w base p v bs k) (EA : Nat → Addr) (hE : RErr w EA) :
    Calls Tryd.prog 94 #[.pointer (some ⟨p, 0, none⟩)] w (ROut w base p v bs k EA (.int .u64 0) (fun u : Nat => .int .u64 u) (getU (bs.drop k))) := by
  refine (ruv_any w base p v bs k h (errV EA) hE.s hE.v).mono ?_
  rintro e w' ⟨h1, h2⟩
  refine ⟨fun n hn => ?_, fun u n hn => h2 u n hn⟩
  obtain ⟨he, d, rfl⟩ := h1 n hn
  exact ⟨he, h.drewN d, (Eff.refl _ _).drewN d⟩

theorem ret_num1 {k : IntKind} {a b : Int} (h : a = b) : Ending.returned (.tuple #[.int k a, .nilIface]) = .returned (.tuple #[.int k b, .nilIface]) := by rw [h]
set_option maxRecDepth 100000 in
theorem rupto_out (w : World) (base p : Nat) (v : Value) (bs : List UInt8) (k : Nat) (h : Rdr w base p v bs k) (EA : Nat → Addr) (hE : RErr w EA) (hG : GLow base) (most : Int) (hm0 : -9223372036854775808 ≤ most) (hm1 : most ≤ 9223372036854775807) :
    Calls Tryd.prog 91 #[.pointer (some ⟨p, 0, none⟩), .int .i64 most] w (ROut w base p v bs k EA (.int .i64 0) (fun u : Nat => .int .i64 u) (getUpto most (bs.drop k))) := by
  have C1 := ruv_out w base p v bs k h EA hE
  have hc0 := h.c0
  have hle := h.le
  cases hres : getU (bs.drop k) with
  | error n =>
    have hup : getUpto most (bs.drop k) = .error n := by unfold getUpto; rw [hres]
    have HR := Lib.hid hres
    have HU := Lib.hid hup
    clear hres hup
    go_enter Tryd.func91, Tryd.ntmps91
    go_wp2_with fail
    refine C1.mono ?_
    rintro e w' ⟨h1, _⟩
    obtain ⟨rfl, hr, he⟩ := h1 n HR.out
    unfold errV
    go_wp2
    go_ret2
    exact ROut.err HU.out rfl hr he
  | ok x =>
    obtain ⟨u, n⟩ := x
    have hu := (getU_ok hres).1
    by_cases hgt : most < u
    · have hup : getUpto most (bs.drop k) = .error 3 := by unfold getUpto; rw [hres]; exact if_pos hgt
      have HR := Lib.hid hres
      have HU := Lib.hid hup
      clear hres hup
      have HE0 := Lib.hid hE
      have HG := Lib.hid hG
      have HC := Lib.hid C1
      have hp := h.hp
      clear hE hG C1
      have hq : most < 0 ∨ (0 ≤ most ∧ most < u) := by omega
      rcases hq with hq | ⟨hq0, hq⟩
      · have t1 : decide (most < 0) = true := decide_eq_true hq
        go_enter Tryd.func91, Tryd.ntmps91
        go_wp2_with fail
        refine HC.out.mono ?_
        rintro e w' ⟨_, h1⟩
        obtain ⟨rfl, hr, he⟩ := h1 u n HR.out
        have hl := (HE0.out.eff he HG.out (fun k hk => by subst hk; exact hp)).l
        have hf := hr.fz 0
        have hcc := hr.c0
        have hl2 : (w'.setCell ⟨p, 0, none⟩ (.int .i64 k)).cell? ⟨5, 0, none⟩ = some (errV EA 3) := by
          rw [World.cell?_of_block (Below.heap_setCell w' _ _ 5 (by have := HG.out.2.2.1; simp only; omega))]; exact hl
        have hmv := hr.move k hle
        have hef := he.setCell (p := ⟨p, 0, none⟩) (fun _ => rfl) (.int .i64 (k : Nat))
        have HM := Lib.hid hmv
        have HF := Lib.hid hef
        clear hmv hef hr he h1 hl
        unfold errV at hl2
        go_wp2
        go_quiet (fail)
        go_wp2
        go_ret2
        exact ROut.err HU.out rfl (HM.out.drewN _) (HF.out.drewN _)
      · have t1 : decide (most < 0) = false := decide_eq_false (by omega)
        have t2 : decide (most < (u : Int)) = true := decide_eq_true hq
        have q1 : IntKind.u64.wrap most = most := by rw [IntKind.wrap_u64]; omega
        go_enter Tryd.func91, Tryd.ntmps91
        go_wp2_with fail
        refine HC.out.mono ?_
        rintro e w' ⟨_, h1⟩
        obtain ⟨rfl, hr, he⟩ := h1 u n HR.out
        have hl := (HE0.out.eff he HG.out (fun k hk => by subst hk; exact hp)).l
        have hf := hr.fz 0
        have hcc := hr.c0
        have hl2 : (w'.setCell ⟨p, 0, none⟩ (.int .i64 k)).cell? ⟨5, 0, none⟩ = some (errV EA 3) := by
          rw [World.cell?_of_block (Below.heap_setCell w' _ _ 5 (by have := HG.out.2.2.1; simp only; omega))]; exact hl
        have hmv := hr.move k hle
        have hef := he.setCell (p := ⟨p, 0, none⟩) (fun _ => rfl) (.int .i64 (k : Nat))
        have HM := Lib.hid hmv
        have HF := Lib.hid hef
        clear hmv hef hr he h1 hl
        unfold errV at hl2
        go_wp2
        go_quiet (fail)
        go_wp2
        go_ret2
        exact ROut.err HU.out rfl (HM.out.drewN _) (HF.out.drewN _)
    · have hup : getUpto most (bs.drop k) = .ok (u, n) := by unfold getUpto; rw [hres]; exact if_neg hgt
      have HR := Lib.hid hres
      have HU := Lib.hid hup
      clear hres hup
      have t1 : decide (most < 0) = false := decide_eq_false (by omega)
      have q1 : IntKind.u64.wrap most = most := by rw [IntKind.wrap_u64]; omega
      have t2 : decide (most < (u : Int)) = false := decide_eq_false (by omega)
      go_enter Tryd.func91, Tryd.ntmps91
      go_wp2_with fail
      refine C1.mono ?_
      rintro e w' ⟨_, h1⟩
      obtain ⟨rfl, hr, he⟩ := h1 u n HR.out
      go_wp2
      go_ret2
      exact ROut.ok HU.out rfl hr he
end Go.Proofs.YtejmjjgbbojfbaaDoor

/- dict: what gives up (sure), a number read. -/
namespace Go.Proofs.YtejmjjgbbojfbaaDoor
set_option linter.unusedVariables false
open Go.ChangeShapes Go.WideShapes Go.ChangeAt Go.RowKit

/-- The panic of what gives up. -/
def gaveUp (EA : Nat → Addr) : Ending := .panicked [{ v := errV EA 10, recovered := false }]
/-- The errors that dict's reading meets. -/
structure DErr (w : World) (EA : Nat → Addr) : Prop where
  r : RErr w EA
  c : w.cell? ⟨11, 0, none⟩ = some (errV EA 10)
  t : w.cell? ⟨7, 0, none⟩ = some (errV EA 5)
def DLow (base : Nat) : Prop := GLow base ∧ 11 < base ∧ 7 < base
theorem DErr.lt {w : World} {EA : Nat → Addr} (h : DErr w EA) : DLow w.heap.size := ⟨h.r.lt, World.block_lt_of_cell? w _ h.c, World.block_lt_of_cell? w _ h.t⟩
theorem DErr.eff {w w' : World} {EA : Nat → Addr} {F : Nat → Prop} {base : Nat} (h : DErr w EA) (he : Eff F w w') (hB : DLow base) (hF : ∀ k, F k → base ≤ k) : DErr w' EA :=
  ⟨h.r.eff he hB.1 hF, he.cell (p := ⟨11, 0, none⟩) (fun f => by have h1 := hF _ f; have h2 := hB.2.1; simp only at h1; omega) h.c, he.cell (p := ⟨7, 0, none⟩) (fun f => by have h1 := hF _ f; have h2 := hB.2.2; simp only at h1; omega) h.t⟩
theorem DErr.drewN {w : World} {EA : Nat → Addr} (h : DErr w EA) (d : Nat) : DErr (w.drewN d) EA := ⟨h.r.drewN d, h.c, h.t⟩
theorem DErr.below {w w' : World} {EA : Nat → Addr} {B : Nat} (h : DErr w EA) (hb : Below B w w') (hB : DLow B) : DErr w' EA :=
  ⟨h.r.below hb hB.1, by rw [hb.cell hB.2.1]; exact h.c, by rw [hb.cell hB.2.2]; exact h.t⟩

set_option maxRecDepth 100000 in
theorem sure_ok (w : World) : Calls Tryd.prog 85 #[.bool true] w fun e w' => e = .returned (.tuple #[]) ∧ w = w' := by
  go_enter Tryd.func85, Tryd.ntmps85
  go_wp2
  go_end0
  exact ⟨rfl, rfl⟩
set_option maxRecDepth 100000 in
theorem sure_no (w : World) (EA : Nat → Addr) (hC : w.cell? ⟨11, 0, none⟩ = some (errV EA 10)) : Calls Tryd.prog 85 #[.bool false] w fun e w' => e = gaveUp EA ∧ w = w' := by
  unfold gaveUp
  unfold errV at *
  go_enter Tryd.func85, Tryd.ntmps85
  go_wp2
  exact ⟨rfl, rfl, rfl⟩

/-- What reading a plain value of dict's answers and leaves: the value, or it gives up. -/
def POut {α : Type} (w : World) (base p : Nat) (v : Value) (bs : List UInt8) (EA : Nat → Addr) (val : α → Value) (res : Option (α × List UInt8)) (e : Ending) (w' : World) : Prop :=
  (∀ x R, res = some (x, R) → ∃ k, R = bs.drop k ∧ e = .returned (val x) ∧ Rdr w' base p v bs k ∧ Eff (· = p) w w') ∧
  (res = none → e = gaveUp EA ∧ Eff (· = p) w w')
theorem POut.ok {α : Type} {w : World} {base p : Nat} {v : Value} {bs : List UInt8} {EA : Nat → Addr} {val : α → Value} {res : Option (α × List UInt8)} {e : Ending} {w' : World} {x : α} {k : Nat}
    (hr : res = some (x, bs.drop k)) (he : e = .returned (val x)) (h1 : Rdr w' base p v bs k) (h2 : Eff (· = p) w w') : POut w base p v bs EA val res e w' :=
  ⟨fun y R hy => by rw [hr] at hy; injection hy with hy; injection hy with e1 e2; subst e1 e2; exact ⟨k, rfl, he, h1, h2⟩, fun hn => by rw [hr] at hn; cases hn⟩
theorem POut.no {α : Type} {w : World} {base p : Nat} {v : Value} {bs : List UInt8} {EA : Nat → Addr} {val : α → Value} {res : Option (α × List UInt8)} {e : Ending} {w' : World}
    (hr : res = none) (he : e = gaveUp EA) (h2 : Eff (· = p) w w') : POut w base p v bs EA val res e w' :=
  ⟨fun y R hy => (by rw [hr] at hy; cases hy), fun _ => ⟨he, h2⟩⟩
theorem numP_ok {most : Int} {L : List UInt8} {u k : Nat} (h : getUpto most L = .ok (u, k)) : numP most L = some (u, L.drop k) := by unfold numP; rw [h]
theorem numP_no {most : Int} {L : List UInt8} {n : Nat} (h : getUpto most L = .error n) : numP most L = none := by unfold numP; rw [h]

set_option maxRecDepth 100000 in
theorem dnumber_any (w : World) (base p : Nat) (v : Value) (bs : List UInt8) (k : Nat) (h : Rdr w base p v bs k) (EA : Nat → Addr) (hE : DErr w EA) (hG : DLow base) (most : Int) (hm0 : -9223372036854775808 ≤ most) (hm1 : most ≤ 9223372036854775807) :
    Calls Tryd.prog 82 #[.pointer (some ⟨p, 0, none⟩), .int .i64 most] w (POut w base p v bs EA (fun u : Nat => .int .i64 u) (numP most (bs.drop k))) := by
  have C1 := rupto_out w base p v bs k h EA hE.r hG.1 most hm0 hm1
  have hp := h.hp
  have HG := Lib.hid hG
  have HE := Lib.hid hE
  clear hE hG
  go_enter Tryd.func82, Tryd.ntmps82
  go_wp2_with fail
  refine C1.mono ?_
  rintro e w1 ⟨hno, hyes⟩
  clear C1
  cases hres : getUpto most (bs.drop k) with
  | error n =>
    obtain ⟨rfl, hr1, he1⟩ := hno n hres
    have hn := numP_no hres
    have hE1 := HE.out.eff he1 HG.out (fun k hk => by subst hk; exact hp)
    have C2 := sure_no w1 EA hE1.c
    have HN := Lib.hid hn
    have HE1 := Lib.hid he1
    clear hno hyes hres hn he1 hE1
    unfold errV
    go_wp2_with fail
    refine C2.mono ?_
    rintro e w2 ⟨rfl, rfl⟩
    unfold gaveUp
    go_wp2
    exact ⟨rfl, POut.no HN.out rfl HE1.out⟩
  | ok y =>
    obtain ⟨u, j⟩ := y
    obtain ⟨rfl, hr1, he1⟩ := hyes u j hres
    have hn := numP_ok hres
    rw [List.drop_drop] at hn
    have HN := Lib.hid hn
    have HE1 := Lib.hid he1
    have HR1 := Lib.hid hr1
    clear hno hyes hres hn he1 hr1
    have C2 := sure_ok w1
    go_wp2_with fail
    refine C2.mono ?_
    rintro e w2 ⟨rfl, rfl⟩
    go_wp2
    go_ret
    exact POut.ok HN.out rfl HR1.out HE1.out
end Go.Proofs.YtejmjjgbbojfbaaDoor

/- codec.Reader: Raw, Text, Word32, Word64. -/
namespace Go.Proofs.YtejmjjgbbojfbaaDoor
set_option linter.unusedVariables false
open Go.ChangeShapes Go.WideShapes Go.ChangeAt Go.RowKit

theorem Eff.setP {w w' : World} {p : Nat} (h : Eff (· = p) w w') (i : Nat) (u : Value) : Eff (· = p) w (w'.setCell ⟨p, i, none⟩ u) := h.setCell (p := ⟨p, i, none⟩) (fun _ => rfl) u

theorem splice_zer (n : Nat) (cs : List Value) (h : cs.length = n) : splice (zer n) 0 cs = cs := by
  unfold splice
  have e : (zer n).drop (0 + n) = [] := List.drop_eq_nil_of_le (by simp [zer])
  rw [List.take_zero, List.nil_append, h, e, List.append_nil]
theorem rraw_end {w w4 : World} {base p : Nat} {v : Value} {bs : List UInt8} {k n : Nat} (h : Rdr w base p v bs k) (hcl : ((bs.drop k).take n).length = n) (hn : k + n ≤ bs.length) (hb : Below w.heap.size w w4)
    (hg : w4.heap[w.heap.size]? = some (.cells (bytesV ((bs.drop k).take n)).toArray 5 (0, 0))) :
    Own (w4.setCell ⟨p, 0, none⟩ (.int .i64 ((k + n : Nat) : Int))) w.heap.size 5 (.slice (some ⟨w.heap.size, 0, none⟩) n n) (bytesV ((bs.drop k).take n)) ∧
    Rdr (w4.setCell ⟨p, 0, none⟩ (.int .i64 ((k + n : Nat) : Int))) base p v bs (k + n) ∧ Eff (· = p) w (w4.setCell ⟨p, 0, none⟩ (.int .i64 ((k + n : Nat) : Int))) := by
  have hsm := h.sm
  have hr4 := h.eff (Eff.of_below hb (fun _ => False)) (fun _ _ f => f)
  have hplt := lt_of_heap h.blk
  refine ⟨.inr ⟨w.heap.size, n, (bytesV ((bs.drop k).take n)).toArray, ?_, Nat.le_refl _, ?_, ?_, ?_, ?_, ?_⟩, hr4.move (k + n) hn, (Eff.of_below hb (· = p)).setP 0 _⟩
  · rw [bytesV_length, hcl]
  · rw [Below.heap_setCell w4 _ _ _ (by simp only; omega)]; exact hg
  · rw [bytesV_length, hcl]; exact Nat.le_refl _
  · simp [bytesV_length, hcl]
  · unfold maxLen; omega
  · simp

/-- What Raw answers. -/
def RawPost (w : World) (base p : Nat) (v : Value) (bs : List UInt8) (k : Nat) (EA : Nat → Addr) (n : Int) (e : Ending) (w' : World) : Prop :=
  (∀ m, getRaw n (bs.drop k) = .error m → e = .returned (.tuple #[.slice none 0 0, errV EA m]) ∧ Rdr w' base p v bs k ∧ Eff (· = p) w w') ∧
  (∀ x m, getRaw n (bs.drop k) = .ok (x, m) → ∃ v', e = .returned (.tuple #[v', .nilIface]) ∧ Own w' w.heap.size 5 v' (bytesV x) ∧ Rdr w' base p v bs (k + m) ∧ Eff (· = p) w w')
theorem rdone_any (w : World) (base p : Nat) (v : Value) (bs : List UInt8) (k : Nat) (h : Rdr w base p v bs k) (hk : k = bs.length) :
    Calls Tryd.prog 87 #[.pointer (some ⟨p, 0, none⟩)] w fun e w' => e = .returned .nilIface ∧ ∃ d, w' = w.drewN d := by
  have hc := h.c0
  have hd := h.c1
  have hs := h.sm
  have t1 : decide (k < bs.length) = false := decide_eq_false (by omega)
  clear hk
  go_enter Tryd.func87, Tryd.ntmps87
  go_wp2
  go_quiet (fail)
  go_wp2
  go_ret
  exact ⟨rfl, _, rfl⟩
set_option maxRecDepth 100000 in
theorem rtext_any (w : World) (base p : Nat) (v : Value) (bs : List UInt8) (k : Nat) (h : Rdr w base p v bs k) (EA : Nat → Addr) (hE : RErr w EA) (hG : GLow base) (most : Int) (hm0 : -9223372036854775808 ≤ most) (hm1 : most ≤ 9223372036854775807) :
    Calls Tryd.prog 92 #[.pointer (some ⟨p, 0, none⟩), .int .i64 most] w (ROut w base p v bs k EA (.string ⟨#[]⟩) (fun s : List UInt8 => .string (strOf s)) (getText most (bs.drop k))) := by
  have C1 := rupto_out w base p v bs k h EA hE hG most hm0 hm1
  have hc0 := h.c0
  have hle := h.le
  have hsm := h.sm
  have hp := h.hp
  cases hres : getUpto most (bs.drop k) with
  | error n =>
    have hup : getText most (bs.drop k) = .error n := by unfold getText; rw [hres]
    have HR := Lib.hid hres
    have HU := Lib.hid hup
    clear hres hup
    go_enter Tryd.func92, Tryd.ntmps92
    go_wp2_with fail
    refine C1.mono ?_
    rintro e w' ⟨h1, _⟩
    obtain ⟨rfl, hr, he⟩ := h1 n HR.out
    unfold errV
    go_wp2
    go_ret2
    exact ROut.err HU.out rfl hr he
  | ok x =>
    obtain ⟨u, n⟩ := x
    obtain ⟨hgu, hum⟩ := getUpto_len hres
    have hlen := (getU_len hgu).1
    rw [List.length_drop] at hlen
    have hu := (getU_ok hgu).1
    have hkn : k + n ≤ bs.length := by omega
    have HR := Lib.hid hres
    have HC := Lib.hid C1
    clear C1
    by_cases hsh : bs.length < k + n + u
    · have hup : getText most (bs.drop k) = .error 1 := by unfold getText; rw [hres]; exact if_pos (by rw [List.drop_drop, List.length_drop]; omega)
      have HU := Lib.hid hup
      have HE0 := Lib.hid hE
      have HG := Lib.hid hG
      clear hres hup hgu hE hG
      go_enter Tryd.func92, Tryd.ntmps92
      go_wp2_with fail
      refine HC.out.mono ?_
      rintro e w' ⟨_, h1⟩
      obtain ⟨rfl, hr, he⟩ := h1 u n HR.out
      obtain ⟨K, hK⟩ : ∃ K, K = k + n := ⟨_, rfl⟩
      rw [← hK] at hr
      have C2 := rleft_any w' base p v bs _ hr
      have t2 : decide ((bs.length : Int) - (K : Int) < (u : Int)) = true := decide_eq_true (by omega)
      have hKb := hr.le
      clear h1 hK
      go_wp2_with fail
      refine C2.mono ?_
      rintro e w'' ⟨rfl, d, rfl⟩
      have hrd := hr.drewN d
      have hed := he.drewN d
      have hl := (HE0.out.eff hed HG.out (fun k hk => by subst hk; exact hp)).s
      have hf := hrd.fz 0
      have hcc := hrd.c0
      have hl2 : ((w'.drewN d).setCell ⟨p, 0, none⟩ (.int .i64 k)).cell? ⟨3, 0, none⟩ = some (errV EA 1) := by
        rw [World.cell?_of_block (Below.heap_setCell _ _ _ 3 (by have := HG.out.1; simp only; omega))]; exact hl
      have HM := Lib.hid (hrd.move k hle)
      have HF := Lib.hid (hed.setP 0 (.int .i64 (k : Nat)))
      clear hrd hed hl hr he C2
      unfold errV at hl2
      go_wp2
      go_quiet (fail)
      go_wp2
      go_ret2
      exact ROut.err HU.out rfl (HM.out.drewN _) (HF.out.drewN _)
    · have hup : getText most (bs.drop k) = .ok (((bs.drop k).drop n).take u, n + u) := by unfold getText; rw [hres]; exact if_neg (by rw [List.drop_drop, List.length_drop]; omega)
      have HU := Lib.hid hup
      clear hres hup hgu
      obtain ⟨av, nv, cv, rfl⟩ := own_sl h.own
      have hnv := h.own.len
      rw [bytesV_length] at hnv
      subst hnv
      have hcap := own_cap h.own
      go_enter Tryd.func92, Tryd.ntmps92
      go_wp2_with fail
      refine HC.out.mono ?_
      rintro e w' ⟨_, h1⟩
      obtain ⟨rfl, hr, he⟩ := h1 u n HR.out
      obtain ⟨K, hK⟩ : ∃ K, K = k + n := ⟨_, rfl⟩
      rw [← hK] at hr
      have C2 := rleft_any w' base p _ bs _ hr
      have t2 : decide ((bs.length : Int) - (K : Int) < (u : Int)) = false := decide_eq_false (by omega)
      have hKu : K + u ≤ bs.length := by omega
      have HK := Lib.hid hK
      have HDD := Lib.hid (show (bs.drop k).drop n = bs.drop K by rw [List.drop_drop, hK])
      clear h1 hK
      go_wp2_with fail
      refine C2.mono ?_
      rintro e w'' ⟨rfl, d, rfl⟩
      have hrd := hr.drewN d
      have hf := hrd.fz 0
      have hcc := hrd.c0
      have hmv := hrd.move (K + u) hKu
      have HF := Lib.hid ((he.drewN d).setP 0 (.int .i64 ((K + u : Nat) : Int)))
      have HM := Lib.hid hmv
      rw [Int.natCast_add K u] at HM HF hmv
      obtain ⟨W1, hW1⟩ : ∃ W1, W1 = (w'.drewN d).setCell ⟨p, 0, none⟩ (.int .i64 ((K : Int) + (u : Int))) := ⟨_, rfl⟩
      have hw1r : Rdr W1 base p (.slice av bs.length cv) bs (K + u) := by rw [hW1]; exact hmv
      have hcs : ((bs.drop K).take u).length = u := by rw [List.length_take, List.length_drop]; omega
      have c1 := hw1r.c0
      have c2 := hw1r.c2
      rw [Int.natCast_add K u] at c1
      have q1 : IntKind.i64.wrap ((K : Int) + (u : Int) - (u : Int)) = (K : Int) := by rw [show (K : Int) + (u : Int) - (u : Int) = (K : Int) by omega]; exact IntWalk.i64_in _ (by omega)
      have q2 : (K : Int) + (u : Int) ≤ (bs.length : Nat) := by omega
      have q3 : (bs.length : Int) ≤ (cv : Nat) := by omega
      have q4 : (cv : Int) ≤ 9223372036854775807 := by have := hcap.2; unfold maxLen at this; omega
      have q5 : (K : Int) + (u : Int) - (K : Int) = u := by omega
      rw [← hW1] at HF HM
      have hkc : K < cv ∨ K = cv := by omega
      rcases hkc with hkc | hkc
      · obtain ⟨g, rfl⟩ : ∃ g, av = some ⟨g, 0, none⟩ := by
          rcases hw1r.own.shape with ⟨e, _⟩ | ⟨g, c, e, _⟩
          · injection e with _ _ e; omega
          · injection e with e _ _; exact ⟨g, e⟩
        have hrd : ∀ d, Rd (W1.drewN d) (.slice (some ⟨g, K, none⟩) u (cv - K)) (bytesV ((bs.drop K).take u)) := fun d => by
          refine ⟨_, cv - K, by rw [bytesV_length, hcs], by rw [bytesV_length, hcs]; omega, fun _ => ⟨g, K, rfl, fun j x hx => ?_⟩⟩
          have hjn : j < u := by have := (List.getElem?_eq_some_iff.1 hx).1; rw [bytesV_length, hcs] at this; exact this
          have e : (bytesV bs)[K + j]? = some x := by
            rw [← hx]; unfold bytesV
            rw [List.getElem?_map, List.getElem?_map, List.getElem?_take, if_pos hjn, List.getElem?_drop]
          exact hw1r.own.get e
        have hrun := fun d => run_str (P := Tryd.prog) Tryd.underlying26 Tryd.underlying5 Tryd.underlying9 (hrd d)
        have hne : ¬ cv = K := by omega
        go_upto_region 9 with fail
        rw [← hW1]
        clear hrd hW1 hmv
        go_quiet (fail)
        go_wp2
        go_ret2
        exact ROut.ok HU.out (by rw [HDD.out]; rfl) (by rw [show k + (n + u) = K + u by have := HK.out; omega]; exact HM.out.drewN _) (HF.out.drewN _)
      · subst hkc
        have hu0 : u ≤ 0 := by omega
        have hrd : ∀ d, Rd (W1.drewN d) (.slice av u 0) (bytesV ((bs.drop K).take u)) := fun d =>
          ⟨_, 0, by rw [bytesV_length, hcs], by rw [bytesV_length, hcs]; omega, fun h0 => by rw [bytesV_length, hcs] at h0; omega⟩
        have hrun := fun d => run_str (P := Tryd.prog) Tryd.underlying26 Tryd.underlying5 Tryd.underlying9 (hrd d)
        clear hu0
        go_upto_region 9 with fail
        rw [← hW1]
        clear hrd hW1 hmv
        go_quiet (fail)
        go_wp2
        go_ret2
        exact ROut.ok HU.out (by rw [HDD.out]; rfl) (by rw [show k + (n + u) = K + u by have := HK.out; omega]; exact HM.out.drewN _) (HF.out.drewN _)
end Go.Proofs.YtejmjjgbbojfbaaDoor
