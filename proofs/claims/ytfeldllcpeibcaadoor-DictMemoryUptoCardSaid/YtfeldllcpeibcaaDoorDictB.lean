/- dict: what gives up (sure), a number read. -/
import Derived.Test.YtfeldllcpeibcaaDoorDictA
import Derived.Test.YtfeldllcpeibcaaDoorRAll
import Derived.WalkLawsBesides
namespace Go.Proofs.YtfeldllcpeibcaaDoor
set_option linter.unusedVariables false
open Go.ChangeShapes Go.WideShapes Go.ChangeAt Go.RowKit

/-- The panic of what gives up. -/
def gaveUp (EA : Nat → Addr) : Ending := .panicked [{ v := errV EA 10, recovered := false }]
/-- The errors that dict's reading meets. -/
structure DErr (w : World) (EA : Nat → Addr) : Prop where
  r : RErr w EA
  c : w.cell? ⟨0, 0, none⟩ = some (errV EA 10)
  t : w.cell? ⟨5, 0, none⟩ = some (errV EA 5)
def DLow (base : Nat) : Prop := GLow base ∧ 0 < base ∧ 5 < base
theorem DErr.lt {w : World} {EA : Nat → Addr} (h : DErr w EA) : DLow w.heap.size := ⟨h.r.lt, World.block_lt_of_cell? w _ h.c, World.block_lt_of_cell? w _ h.t⟩
theorem DErr.eff {w w' : World} {EA : Nat → Addr} {F : Nat → Prop} {base : Nat} (h : DErr w EA) (he : Eff F w w') (hB : DLow base) (hF : ∀ k, F k → base ≤ k) : DErr w' EA :=
  ⟨h.r.eff he hB.1 hF, he.cell (p := ⟨0, 0, none⟩) (fun f => by have h1 := hF _ f; have h2 := hB.2.1; simp only at h1; omega) h.c, he.cell (p := ⟨5, 0, none⟩) (fun f => by have h1 := hF _ f; have h2 := hB.2.2; simp only at h1; omega) h.t⟩
theorem DErr.drewN {w : World} {EA : Nat → Addr} (h : DErr w EA) (d : Nat) : DErr (w.drewN d) EA := ⟨h.r.drewN d, h.c, h.t⟩
theorem DErr.below {w w' : World} {EA : Nat → Addr} {B : Nat} (h : DErr w EA) (hb : Below B w w') (hB : DLow B) : DErr w' EA :=
  ⟨h.r.below hb hB.1, by rw [hb.cell hB.2.1]; exact h.c, by rw [hb.cell hB.2.2]; exact h.t⟩

set_option maxRecDepth 100000 in
theorem sure_ok (w : World) : Calls Tryd.prog 66 #[.bool true] w fun e w' => e = .returned (.tuple #[]) ∧ w = w' := by
  go_enter Tryd.func66, Tryd.ntmps66
  go_wp2
  go_end0
  exact ⟨rfl, rfl⟩
set_option maxRecDepth 100000 in
theorem sure_no (w : World) (EA : Nat → Addr) (hC : w.cell? ⟨0, 0, none⟩ = some (errV EA 10)) : Calls Tryd.prog 66 #[.bool false] w fun e w' => e = gaveUp EA ∧ w = w' := by
  unfold gaveUp
  unfold errV at *
  go_enter Tryd.func66, Tryd.ntmps66
  go_wp2
  exact ⟨rfl, rfl, rfl⟩

/-- What reading a plain value of dict's answers and leaves: the value, or it gives up. -/
def POut {α : Type} (w : World) (base p : Nat) (v : Value) (bs : List UInt8) (EA : Nat → Addr) (val : α → Value) (res : Option (α × List UInt8)) (e : Ending) (w' : World) : Prop :=
  (∀ x R, res = some (x, R) → ∃ k, R = bs.drop k ∧ e = .returned (val x) ∧ Rdr w' base p v bs k ∧ Eff (· = p) w w') ∧
  (res = none → e = gaveUp EA ∧ Eff (· = p) w w')
theorem POut.ok {α : Type} {w : World} {base p : Nat} {v : Value} {bs : List UInt8} {EA : Nat → Addr} {val : α → Value} {res : Option (α × List UInt8)} {e : Ending} {w' : World} {x : α} {k : Nat}
    (hr : res = some (x, bs.drop k)) (he : e = .returned (val x)) (h1 : Rdr w' base p v bs k) (h2 : Eff (· = p) w w') : POut w base p v bs EA val res e w' :=
  ⟨fun y R hy => by rw [hr] at hy; injection hy with hy; injection hy with e1 e2; subst e1 e2; exact ⟨k, rfl, he, h1, h2⟩, fun hn => by rw [hr] at hn; cases hn⟩
theorem POut.no {α : Type} {w : World} {base p : Nat} {v : Value} {bs : List UInt8} {EA : Nat → Addr} {val : α → Value} {res : Option (α × List UInt8)} {e : Ending} {w' : World}
    (hr : res = none) (he : e = gaveUp EA) (h2 : Eff (· = p) w w') : POut w base p v bs EA val res e w' :=
  ⟨fun y R hy => (by rw [hr] at hy; cases hy), fun _ => ⟨he, h2⟩⟩
theorem numP_ok {most : Int} {L : List UInt8} {u k : Nat} (h : getUpto most L = .ok (u, k)) : numP most L = some (u, L.drop k) := by unfold numP; rw [h]
theorem numP_no {most : Int} {L : List UInt8} {n : Nat} (h : getUpto most L = .error n) : numP most L = none := by unfold numP; rw [h]

set_option maxRecDepth 100000 in
theorem number_any (w : World) (base p : Nat) (v : Value) (bs : List UInt8) (k : Nat) (h : Rdr w base p v bs k) (EA : Nat → Addr) (hE : DErr w EA) (hG : DLow base) (most : Int) (hm0 : -9223372036854775808 ≤ most) (hm1 : most ≤ 9223372036854775807) :
    Calls Tryd.prog 63 #[.pointer (some ⟨p, 0, none⟩), .int .i64 most] w (POut w base p v bs EA (fun u : Nat => .int .i64 u) (numP most (bs.drop k))) := by
  have C1 := rupto_out w base p v bs k h EA hE.r hG.1 most hm0 hm1
  have hp := h.hp
  have HG := Lib.hid hG
  have HE := Lib.hid hE
  clear hE hG
  go_enter Tryd.func63, Tryd.ntmps63
  go_wp2_with fail
  refine C1.mono ?_
  rintro e w1 ⟨hno, hyes⟩
  clear C1
  cases hres : getUpto most (bs.drop k) with
  | error n =>
    obtain ⟨rfl, hr1, he1⟩ := hno n hres
    have hn := numP_no hres
    have hE1 := HE.out.eff he1 HG.out (fun k hk => by subst hk; exact hp)
    have C2 := sure_no w1 EA hE1.c
    have HN := Lib.hid hn
    have HE1 := Lib.hid he1
    clear hno hyes hres hn he1 hE1
    unfold errV
    go_wp2_with fail
    refine C2.mono ?_
    rintro e w2 ⟨rfl, rfl⟩
    unfold gaveUp
    go_wp2
    exact ⟨rfl, POut.no HN.out rfl HE1.out⟩
  | ok y =>
    obtain ⟨u, j⟩ := y
    obtain ⟨rfl, hr1, he1⟩ := hyes u j hres
    have hn := numP_ok hres
    rw [List.drop_drop] at hn
    have HN := Lib.hid hn
    have HE1 := Lib.hid he1
    have HR1 := Lib.hid hr1
    clear hno hyes hres hn he1 hr1
    have C2 := sure_ok w1
    go_wp2_with fail
    refine C2.mono ?_
    rintro e w2 ⟨rfl, rfl⟩
    go_wp2
    go_ret
    exact POut.ok HN.out rfl HR1.out HE1.out
end Go.Proofs.YtfeldllcpeibcaaDoor
