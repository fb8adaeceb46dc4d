/- made: the automaton of an Of, and that the document agrees. -/
import Derived.Test.YtejmjjgbbojfbaaDoorMake
namespace Go.Proofs.YtejmjjgbbojfbaaDoor
set_option linter.unusedVariables false
open Go.ChangeShapes Go.WideShapes Go.ChangeAt Go.RowKit

/-- The nine cells of an Of at block B. -/
structure Cells9 (w : World) (B : Nat) (o : OfV) : Prop where
  c0 : w.cell? ⟨B, 0, none⟩ = some (.int .i64 o.k)
  c1 : w.cell? ⟨B, 1, none⟩ = some (.string o.s)
  c2 : w.cell? ⟨B, 2, none⟩ = some (.int .i64 o.n)
  c3 : w.cell? ⟨B, 3, none⟩ = some (.bool o.lop)
  c4 : w.cell? ⟨B, 4, none⟩ = some (.bool o.lin)
  c5 : w.cell? ⟨B, 5, none⟩ = some (.string o.ls)
  c6 : w.cell? ⟨B, 6, none⟩ = some (.bool o.hop)
  c7 : w.cell? ⟨B, 7, none⟩ = some (.bool o.hin)
  c8 : w.cell? ⟨B, 8, none⟩ = some (.string o.hs)
theorem Cells9.of {w : World} {B : Nat} {o : OfV} {t : TypeId} {fr : Nat × Nat} (h : w.heap[B]? = some (.cells o.cells.toArray t fr)) : Cells9 w B o :=
  ⟨blk_cell h 0, blk_cell h 1, blk_cell h 2, blk_cell h 3, blk_cell h 4, blk_cell h 5, blk_cell h 6, blk_cell h 7, blk_cell h 8⟩
theorem Cells9.below {w w' : World} {B b : Nat} {o : OfV} (h : Cells9 w b o) (hb : Below B w w') (hB : b < B) : Cells9 w' b o :=
  ⟨by rw [hb.cell hB]; exact h.c0, by rw [hb.cell hB]; exact h.c1, by rw [hb.cell hB]; exact h.c2, by rw [hb.cell hB]; exact h.c3, by rw [hb.cell hB]; exact h.c4, by rw [hb.cell hB]; exact h.c5, by rw [hb.cell hB]; exact h.c6, by rw [hb.cell hB]; exact h.c7, by rw [hb.cell hB]; exact h.c8⟩
/-- What made answers. -/
def MadePost (w : World) (o : OfV) (e : Ending) (w' : World) : Prop :=
  (o.bad = 0 → ∃ p, e = .returned (.tuple #[.pointer (some ⟨p, 0, none⟩), .bool true]) ∧ w.heap.size ≤ p ∧ AutoAt w' p o ∧ Below w.heap.size w w') ∧
  (o.bad ≠ 0 → e = .returned (.tuple #[.pointer none, .bool true]) ∧ Below w.heap.size w w')
/-- The document's look at what was told is the look at o. -/
theorem rmake_told (w : World) (o : OfV) (hs : o.s.size ≤ 1000000000) :
    Calls Tryd.prog 45 #[.agg (rCellsOf o).toArray] w fun e w' => e = .returned (.int .i64 (o.bad : Nat)) ∧ Below w.heap.size w w' := by
  unfold rCellsOf
  split
  · next h =>
    have hb : o.bad = 0 := by unfold OfV.bad; rw [if_neg (fun h2 => by have := h2.1; omega), if_neg (fun h2 => by have := h2.1; omega)]
    have h1 := rmake_any w 1 0 o.s false false false false ⟨#[]⟩ ⟨#[]⟩ hs
    have hb1 : OfV.bad ⟨1, o.s, 0, false, false, ⟨#[]⟩, false, false, ⟨#[]⟩⟩ = 0 := by unfold OfV.bad; rw [if_neg (fun h2 => absurd h2.1 (by show ¬ (1 : Int) = 3; decide)), if_neg (fun h2 => absurd h2.1 (by show ¬ (1 : Int) = 4; decide))]
    rw [hb1] at h1
    rw [hb]; exact h1
  · exact rmake_any w o.k o.n o.s o.lop o.lin o.hop o.hin o.ls o.hs hs
set_option maxRecDepth 100000 in
set_option maxHeartbeats 2000000 in
theorem made_any (w : World) (o : OfV) (hs : o.s.size ≤ 1000000000) (EA : Nat → Addr) (hE : Sent w EA) :
    Calls Tryd.prog 17 #[.agg o.cells.toArray] w (MadePost w o) := by
  obtain ⟨ob, hob⟩ : ∃ ob, ob = Obj.cells o.cells.toArray 37 := ⟨_, rfl⟩
  have hb0 : Below w.heap.size w (w.alloc ob) := (Below.refl _ _).alloc (Nat.le_refl _) _
  have hz0 : (w.alloc ob).heap.size = w.heap.size + 1 := by simp
  have hcx : Cells9 (w.alloc ob) w.heap.size o := Cells9.of ((heap_alloc_new w ob).trans (congrArg some hob))
  have C1 := make1_any (w.alloc ob) o hs EA (hE.below hb0)
  have HE := Lib.hid hE
  have HB0 := Lib.hid hb0
  have HZ0 := Lib.hid hz0
  have HCX := Lib.hid hcx
  have hcx2 := hcx
  rw [hob] at C1 hcx2
  obtain ⟨d0, d1, d2, d3, d4, d5, d6, d7, d8⟩ := hcx2
  have HOB := Lib.hid hob
  clear hob hb0 hz0 hcx hE
  go_enter Tryd.func17, Tryd.ntmps17
  go_wp2_with fail
  refine C1.mono ?_
  rintro e w1 ⟨h1, h2⟩
  rw [← HOB.out] at h1 h2
  clear C1 d0 d1 d2 d3 d4 d5 d6 d7 d8
  by_cases hbad : o.bad = 0
  · obtain ⟨p, rfl, hp, ha, hb1⟩ := h1 hbad
    have hcx1 := HCX.out.below hb1 (by rw [HZ0.out]; omega)
    obtain ⟨d0, d1, d2, d3, d4, d5, d6, d7, d8⟩ := hcx1
    have C2 := told_any w1 o
    have hB1 := HB0.out.trans (hb1.mono (by rw [HZ0.out]; omega))
    have hz1 := hb1.size
    rw [HZ0.out] at hp hz1
    have HA := Lib.hid ha
    have HB1 := Lib.hid hB1
    have HBAD := Lib.hid hbad
    clear h1 h2 ha hb1 hB1
    go_wp2_with fail
    refine C2.mono ?_
    rintro e w2 ⟨rfl, hb2⟩
    have C3 := rmake_told w2 o hs
    rw [hbad] at C3
    have hA2 := HA.out.below hb2
    have hB2 := HB1.out.trans (hb2.mono HB1.out.size)
    have HA2 := Lib.hid hA2
    have HB2 := Lib.hid hB2
    clear C2 hb2 hA2 hB2 d0 d1 d2 d3 d4 d5 d6 d7 d8 hbad
    go_wp2_with fail
    refine C3.mono ?_
    rintro e w3 ⟨rfl, hb3⟩
    have C4 := num_nil w3
    have HA3 := Lib.hid (HA2.out.below hb3)
    have HB3 := Lib.hid (HB2.out.trans (hb3.mono HB2.out.size))
    clear C3 hb3
    go_wp2_with fail
    refine C4.mono ?_
    rintro e w4 ⟨rfl, rfl⟩
    clear C4
    go_wp2
    go_ret2
    exact ⟨fun _ => ⟨p, rfl, by omega, HA3.out, HB3.out⟩, fun h => absurd HBAD.out h⟩
  · obtain ⟨rfl, hb1⟩ := h2 hbad
    have hcx1 := HCX.out.below hb1 (by rw [HZ0.out]; omega)
    obtain ⟨d0, d1, d2, d3, d4, d5, d6, d7, d8⟩ := hcx1
    have C2 := told_any w1 o
    have hB1 := HB0.out.trans (hb1.mono (by rw [HZ0.out]; omega))
    have hz1 := hb1.size
    rw [HZ0.out] at hz1
    have HB1 := Lib.hid hB1
    have HBAD := Lib.hid hbad
    clear h1 h2 hb1 hB1
    unfold errV
    go_wp2_with fail
    refine C2.mono ?_
    rintro e w2 ⟨rfl, hb2⟩
    have C3 := rmake_told w2 o hs
    have hB2 := HB1.out.trans (hb2.mono HB1.out.size)
    have HB2 := Lib.hid hB2
    clear C2 hb2 hB2 d0 d1 d2 d3 d4 d5 d6 d7 d8
    go_wp2_with fail
    refine C3.mono ?_
    rintro e w3 ⟨rfl, hb3⟩
    have hB3 := HB2.out.trans (hb3.mono HB2.out.size)
    have C4 : Calls Tryd.prog 33 #[errV EA o.bad] w3 fun e w' => e = .returned (.int .i64 (o.bad : Nat)) ∧ w3 = w' := by
      have h : o.bad = 14 ∨ o.bad = 8 := by unfold OfV.bad at hbad ⊢; split at hbad <;> simp_all
      rcases h with h | h <;> rw [h]
      · exact num_Pattern w3 EA (HE.out.below hB3)
      · exact num_Range w3 EA (HE.out.below hB3)
    unfold errV at C4
    have HB3 := Lib.hid hB3
    have t1 : ((o.bad : Int) == 0) = false := by simp; omega
    clear C3 hb3 hB3 hbad
    go_wp2_with fail
    refine C4.mono ?_
    rintro e w4 ⟨rfl, rfl⟩
    clear C4
    go_wp2
    go_ret2
    exact ⟨fun h => absurd h HBAD.out, fun _ => ⟨by simp; exact HBAD.out, HB3.out⟩⟩
end Go.Proofs.YtejmjjgbbojfbaaDoor
