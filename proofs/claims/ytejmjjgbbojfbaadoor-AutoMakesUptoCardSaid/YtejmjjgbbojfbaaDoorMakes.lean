/- The walk of the law AutoMakes. -/
import Derived.Test.YtejmjjgbbojfbaaDoorMade
import Derived.Test.YtejmjjgbbojfbaaDoorRLit
import Derived.Deep.RegionHeld3
namespace Go.Proofs.YtejmjjgbbojfbaaDoor
set_option linter.unusedVariables false
open Go.ChangeShapes Go.WideShapes Go.ChangeAt Go.RowKit

theorem kept4 {w W W' : World} {B : Nat} {v : Value} (hB : B < W.heap.size) (hS : W.cell? ⟨B, 1, none⟩ = some v ∧ Below w.heap.size w W) (hb : Below W.heap.size W W') : W'.cell? ⟨B, 1, none⟩ = some v ∧ Below w.heap.size w W' :=
  ⟨by rw [hb.cell hB]; exact hS.1, hS.2.trans (hb.mono hS.2.size)⟩
set_option maxRecDepth 100000 in
set_option maxHeartbeats 4000000 in
theorem makes_walk (w : World) (o : OfV) (hos : o.s.size ≤ 1000000000) (EA : Nat → Addr) (hE : Sent w EA) :
    Calls Tryd.prog 7 #[.agg o.cells.toArray] w fun e w' => e = .returned (.bool true) ∧ Below w.heap.size w w' := by
  obtain ⟨ob, hob⟩ : ∃ ob, ob = Obj.cells o.cells.toArray 37 := ⟨_, rfl⟩
  have hb0 : Below w.heap.size w (w.alloc ob) := (Below.refl _ _).alloc (Nat.le_refl _) _
  have hz0 : (w.alloc ob).heap.size = w.heap.size + 1 := by simp
  have hcx : Cells9 (w.alloc ob) w.heap.size o := Cells9.of ((heap_alloc_new w ob).trans (congrArg some hob))
  have C0 := lives_any (w.alloc ob) _ (hE.below hb0).c14
  have HE := Lib.hid hE
  have HB0 := Lib.hid hb0
  have HZ0 := Lib.hid hz0
  have HCX := Lib.hid hcx
  have HOB := Lib.hid hob
  rw [hob] at C0
  clear hE hb0 hz0 hcx hob
  go_enter Tryd.func7, Tryd.ntmps7
  go_wp2_with fail
  refine C0.mono ?_
  rintro e w1 ⟨rfl, hb1⟩
  rw [← HOB.out] at hb1
  have hcx1 := HCX.out.below hb1 (by rw [HZ0.out]; omega)
  have hB1 := HB0.out.trans (hb1.mono (by rw [HZ0.out]; omega))
  have hz1 := hb1.size
  rw [HZ0.out] at hz1
  have C1 := made_any w1 o hos EA (HE.out.below hB1)
  have HCX1 := Lib.hid hcx1
  obtain ⟨d0, d1, d2, d3, d4, d5, d6, d7, d8⟩ := hcx1
  have HB1 := Lib.hid hB1
  clear C0 hb1 hB1
  go_wp2_with fail
  refine C1.mono ?_
  rintro e w2 hp
  clear C1 d0 d1 d2 d3 d4 d5 d6 d7 d8
  obtain ⟨pv, rfl, hb2⟩ : ∃ pv : Option Addr, e = .returned (.tuple #[.pointer pv, .bool true]) ∧ Below w1.heap.size w1 w2 := by
    by_cases hbad : o.bad = 0
    · obtain ⟨p, h1, _, _, h2⟩ := hp.1 hbad; exact ⟨_, h1, h2⟩
    · obtain ⟨h1, h2⟩ := hp.2 hbad; exact ⟨_, h1, h2⟩
  have hc2 : w2.cell? ⟨w.heap.size, 1, none⟩ = some (.string o.s) := (HCX1.out.below hb2 (by omega)).c1
  have hB2 : Below w.heap.size w w2 := HB1.out.trans (hb2.mono HB1.out.size)
  have hS2 : w2.drew.cell? ⟨w.heap.size, 1, none⟩ = some (.string o.s) ∧ Below w.heap.size w w2.drew := ⟨hc2, below_drewN hB2 1⟩
  have hlow : ∀ W : World, W.cell? ⟨w.heap.size, 1, none⟩ = some (.string o.s) → w.heap.size < W.heap.size := fun W h => World.block_lt_of_cell? W _ h
  have K1 : ∀ W : World, W.cell? ⟨w.heap.size, 1, none⟩ = some (.string o.s) ∧ Below w.heap.size w W → Calls Tryd.prog 24 #[.string o.s] W fun e W' => e = .returned (.bool (elems o.s.data.toList).isSome) ∧ (W'.cell? ⟨w.heap.size, 1, none⟩ = some (.string o.s) ∧ Below w.heap.size w W') :=
    fun W hS => (good_any W o.s (by omega)).mono fun e W' ⟨h1, h2⟩ => ⟨h1, kept4 (hlow W hS.1) hS h2⟩
  have K2 : ∀ W : World, W.cell? ⟨w.heap.size, 1, none⟩ = some (.string o.s) ∧ Below w.heap.size w W → Calls Tryd.prog 25 #[.string o.s] W fun e W' => e = .returned (.bool (elems o.s.data.toList).isSome) ∧ (W'.cell? ⟨w.heap.size, 1, none⟩ = some (.string o.s) ∧ Below w.heap.size w W') :=
    fun W hS => (rgood_any W o.s (by omega)).mono fun e W' ⟨h1, h2⟩ => ⟨h1, kept4 (hlow W hS.1) hS h2⟩
  have K3 : ∀ W : World, W.cell? ⟨w.heap.size, 1, none⟩ = some (.string o.s) ∧ Below w.heap.size w W → Calls Tryd.prog 22 #[.string o.s] W fun e W' => e = .returned (.string (strOf (litB o.s.data.toList))) ∧ (W'.cell? ⟨w.heap.size, 1, none⟩ = some (.string o.s) ∧ Below w.heap.size w W') :=
    fun W hS => (literal_any W o.s (by omega)).mono fun e W' ⟨h1, h2⟩ => ⟨h1, kept4 (hlow W hS.1) hS h2⟩
  have K4 : ∀ W : World, W.cell? ⟨w.heap.size, 1, none⟩ = some (.string o.s) ∧ Below w.heap.size w W → Calls Tryd.prog 26 #[.string o.s] W fun e W' => e = .returned (.string (strOf (litB o.s.data.toList))) ∧ (W'.cell? ⟨w.heap.size, 1, none⟩ = some (.string o.s) ∧ Below w.heap.size w W') :=
    fun W hS => (rliteral_any W o.s (by omega)).mono fun e W' ⟨h1, h2⟩ => ⟨h1, kept4 (hlow W hS.1) hS h2⟩
  have HK1 := Lib.hid K1
  have HK2 := Lib.hid K2
  have HK3 := Lib.hid K3
  have HK4 := Lib.hid K4
  generalize strOf (litB o.s.data.toList) = T at HK3 HK4
  generalize (elems o.s.data.toList).isSome = r at HK1 HK2
  obtain ⟨a0, ha0⟩ : ∃ a0 : Addr, a0 = ⟨w.heap.size, 1, none⟩ := ⟨_, rfl⟩
  clear K1 K2 K3 K4 hp hb2 hB2 hlow ha0 a0
  cases r
  all_goals
    go_wp2
    go_region_held3 (fun w' => w'.cell? ⟨w.heap.size, 1, none⟩ = some (.string o.s) ∧ Below w.heap.size w w') (assumption)
      (first | (go_at_call 24; refine (HK1.out _ (by assumption)).mono ?_; rintro e w' ⟨rfl, hS'⟩) | (go_at_call 25; refine (HK2.out _ (by assumption)).mono ?_; rintro e w' ⟨rfl, hS'⟩) | (go_at_call 22; refine (HK3.out _ (by assumption)).mono ?_; rintro e w' ⟨rfl, hS'⟩) | (go_at_call 26; refine (HK4.out _ (by assumption)).mono ?_; rintro e w' ⟨rfl, hS'⟩))
    all_goals
      go_wp2
      go_ret
      exact ⟨rfl, by first | exact hS'.2 | (rename_i h; exact h.2)⟩
end Go.Proofs.YtejmjjgbbojfbaaDoor
