/- Merged: Made, Whole. -/
import Derived.Test.YtejmjjgbbojfbaaDoorZMake
import Derived.Test.YtejmjjgbbojfbaaDoorZTabS
/- made: the automaton of an Of, and that the document agrees. -/
namespace Go.Proofs.YtejmjjgbbojfbaaDoor
set_option linter.unusedVariables false
open Go.ChangeShapes Go.WideShapes Go.ChangeAt Go.RowKit

/-- The nine cells of an Of at block B. -/
structure Cells9 (w : World) (B : Nat) (o : OfV) : Prop where
  c0 : w.cell? ⟨B, 0, none⟩ = some (.int .i64 o.k)
  c1 : w.cell? ⟨B, 1, none⟩ = some (.string o.s)
  c2 : w.cell? ⟨B, 2, none⟩ = some (.int .i64 o.n)
  c3 : w.cell? ⟨B, 3, none⟩ = some (.bool o.lop)
  c4 : w.cell? ⟨B, 4, none⟩ = some (.bool o.lin)
  c5 : w.cell? ⟨B, 5, none⟩ = some (.string o.ls)
  c6 : w.cell? ⟨B, 6, none⟩ = some (.bool o.hop)
  c7 : w.cell? ⟨B, 7, none⟩ = some (.bool o.hin)
  c8 : w.cell? ⟨B, 8, none⟩ = some (.string o.hs)
theorem Cells9.of {w : World} {B : Nat} {o : OfV} {t : TypeId} {fr : Nat × Nat} (h : w.heap[B]? = some (.cells o.cells.toArray t fr)) : Cells9 w B o :=
  ⟨blk_cell h 0, blk_cell h 1, blk_cell h 2, blk_cell h 3, blk_cell h 4, blk_cell h 5, blk_cell h 6, blk_cell h 7, blk_cell h 8⟩
theorem Cells9.below {w w' : World} {B b : Nat} {o : OfV} (h : Cells9 w b o) (hb : Below B w w') (hB : b < B) : Cells9 w' b o :=
  ⟨by rw [hb.cell hB]; exact h.c0, by rw [hb.cell hB]; exact h.c1, by rw [hb.cell hB]; exact h.c2, by rw [hb.cell hB]; exact h.c3, by rw [hb.cell hB]; exact h.c4, by rw [hb.cell hB]; exact h.c5, by rw [hb.cell hB]; exact h.c6, by rw [hb.cell hB]; exact h.c7, by rw [hb.cell hB]; exact h.c8⟩
/-- What made answers. -/
def MadePost (w : World) (o : OfV) (e : Ending) (w' : World) : Prop :=
  (o.bad = 0 → ∃ p, e = .returned (.tuple #[.pointer (some ⟨p, 0, none⟩), .bool true]) ∧ w.heap.size ≤ p ∧ AutoAt w' p o ∧ Below w.heap.size w w') ∧
  (o.bad ≠ 0 → e = .returned (.tuple #[.pointer none, .bool true]) ∧ Below w.heap.size w w')
/-- The document's look at what was told is the look at o. -/
theorem rmake_told (w : World) (o : OfV) (hs : o.s.size ≤ 1000000000) :
    Calls Tryd.prog 45 #[.agg (rCellsOf o).toArray] w fun e w' => e = .returned (.int .i64 (o.bad : Nat)) ∧ Below w.heap.size w w' := by
  unfold rCellsOf
  split
  · next h =>
    have hb : o.bad = 0 := by unfold OfV.bad; rw [if_neg (fun h2 => by have := h2.1; omega), if_neg (fun h2 => by have := h2.1; omega)]
    have h1 := rmake_any w 1 0 o.s false false false false ⟨#[]⟩ ⟨#[]⟩ hs
    have hb1 : OfV.bad ⟨1, o.s, 0, false, false, ⟨#[]⟩, false, false, ⟨#[]⟩⟩ = 0 := by unfold OfV.bad; rw [if_neg (fun h2 => absurd h2.1 (by show ¬ (1 : Int) = 3; decide)), if_neg (fun h2 => absurd h2.1 (by show ¬ (1 : Int) = 4; decide))]
    rw [hb1] at h1
    rw [hb]; exact h1
  · exact rmake_any w o.k o.n o.s o.lop o.lin o.hop o.hin o.ls o.hs hs
set_option maxRecDepth 100000 in
set_option maxHeartbeats 2000000 in
theorem made_any (w : World) (o : OfV) (hs : o.s.size ≤ 1000000000) (EA : Nat → Addr) (hE : Sent w EA) :
    Calls Tryd.prog 17 #[.agg o.cells.toArray] w (MadePost w o) := by
  obtain ⟨ob, hob⟩ : ∃ ob, ob = Obj.cells o.cells.toArray 37 := ⟨_, rfl⟩
  have hb0 : Below w.heap.size w (w.alloc ob) := (Below.refl _ _).alloc (Nat.le_refl _) _
  have hz0 : (w.alloc ob).heap.size = w.heap.size + 1 := by simp
  have hcx : Cells9 (w.alloc ob) w.heap.size o := Cells9.of ((heap_alloc_new w ob).trans (congrArg some hob))
  have C1 := make1_any (w.alloc ob) o hs EA (hE.below hb0)
  have HE := Lib.hid hE
  have HB0 := Lib.hid hb0
  have HZ0 := Lib.hid hz0
  have HCX := Lib.hid hcx
  have hcx2 := hcx
  rw [hob] at C1 hcx2
  obtain ⟨d0, d1, d2, d3, d4, d5, d6, d7, d8⟩ := hcx2
  have HOB := Lib.hid hob
  clear hob hb0 hz0 hcx hE
  go_enter Tryd.func17, Tryd.ntmps17
  go_wp2_with fail
  refine C1.mono ?_
  rintro e w1 ⟨h1, h2⟩
  rw [← HOB.out] at h1 h2
  clear C1 d0 d1 d2 d3 d4 d5 d6 d7 d8
  by_cases hbad : o.bad = 0
  · obtain ⟨p, rfl, hp, ha, hb1⟩ := h1 hbad
    have hcx1 := HCX.out.below hb1 (by rw [HZ0.out]; omega)
    obtain ⟨d0, d1, d2, d3, d4, d5, d6, d7, d8⟩ := hcx1
    have C2 := told_any w1 o
    have hB1 := HB0.out.trans (hb1.mono (by rw [HZ0.out]; omega))
    have hz1 := hb1.size
    rw [HZ0.out] at hp hz1
    have HA := Lib.hid ha
    have HB1 := Lib.hid hB1
    have HBAD := Lib.hid hbad
    clear h1 h2 ha hb1 hB1
    go_wp2_with fail
    refine C2.mono ?_
    rintro e w2 ⟨rfl, hb2⟩
    have C3 := rmake_told w2 o hs
    rw [hbad] at C3
    have hA2 := HA.out.below hb2
    have hB2 := HB1.out.trans (hb2.mono HB1.out.size)
    have HA2 := Lib.hid hA2
    have HB2 := Lib.hid hB2
    clear C2 hb2 hA2 hB2 d0 d1 d2 d3 d4 d5 d6 d7 d8 hbad
    go_wp2_with fail
    refine C3.mono ?_
    rintro e w3 ⟨rfl, hb3⟩
    have C4 := num_nil w3
    have HA3 := Lib.hid (HA2.out.below hb3)
    have HB3 := Lib.hid (HB2.out.trans (hb3.mono HB2.out.size))
    clear C3 hb3
    go_wp2_with fail
    refine C4.mono ?_
    rintro e w4 ⟨rfl, rfl⟩
    clear C4
    go_wp2
    go_ret2
    exact ⟨fun _ => ⟨p, rfl, by omega, HA3.out, HB3.out⟩, fun h => absurd HBAD.out h⟩
  · obtain ⟨rfl, hb1⟩ := h2 hbad
    have hcx1 := HCX.out.below hb1 (by rw [HZ0.out]; omega)
    obtain ⟨d0, d1, d2, d3, d4, d5, d6, d7, d8⟩ := hcx1
    have C2 := told_any w1 o
    have hB1 := HB0.out.trans (hb1.mono (by rw [HZ0.out]; omega))
    have hz1 := hb1.size
    rw [HZ0.out] at hz1
    have HB1 := Lib.hid hB1
    have HBAD := Lib.hid hbad
    clear h1 h2 hb1 hB1
    unfold errV
    go_wp2_with fail
    refine C2.mono ?_
    rintro e w2 ⟨rfl, hb2⟩
    have C3 := rmake_told w2 o hs
    have hB2 := HB1.out.trans (hb2.mono HB1.out.size)
    have HB2 := Lib.hid hB2
    clear C2 hb2 hB2 d0 d1 d2 d3 d4 d5 d6 d7 d8
    go_wp2_with fail
    refine C3.mono ?_
    rintro e w3 ⟨rfl, hb3⟩
    have hB3 := HB2.out.trans (hb3.mono HB2.out.size)
    have C4 : Calls Tryd.prog 33 #[errV EA o.bad] w3 fun e w' => e = .returned (.int .i64 (o.bad : Nat)) ∧ w3 = w' := by
      have h : o.bad = 14 ∨ o.bad = 8 := by unfold OfV.bad at hbad ⊢; split at hbad <;> simp_all
      rcases h with h | h <;> rw [h]
      · exact num_Pattern w3 EA (HE.out.below hB3)
      · exact num_Range w3 EA (HE.out.below hB3)
    unfold errV at C4
    have HB3 := Lib.hid hB3
    have t1 : ((o.bad : Int) == 0) = false := by simp; omega
    clear C3 hb3 hB3 hbad
    go_wp2_with fail
    refine C4.mono ?_
    rintro e w4 ⟨rfl, rfl⟩
    clear C4
    go_wp2
    go_ret2
    exact ⟨fun h => absurd h HBAD.out, fun _ => ⟨by simp; exact HBAD.out, HB3.out⟩⟩
end Go.Proofs.YtejmjjgbbojfbaaDoor

/- AutoLeast: whole, fits. -/
namespace Go.Proofs.YtejmjjgbbojfbaaDoor
set_option linter.unusedVariables false
open Go.ChangeShapes Go.WideShapes Go.ChangeAt Go.RowKit

/-- The numbers of a table, its bools, as cells. -/
theorem TabAt.nxAt {w : World} {B : Nat} {A X : Option Addr} {ca cx : Nat} {T : Tab} (h : TabAt w B A X ca cx T) (hn : 0 < T.n) : ∃ b, X = some ⟨b, 0, none⟩ ∧ b < w.heap.size ∧ 256 * T.n ≤ cx ∧ ∀ j, j < 256 * T.n → w.cell? ⟨b, j, none⟩ = some (.int .i64 ((T.nx (j / 256) (j % 256) : Nat) : Int)) := by
  obtain ⟨b, rfl⟩ := h.nx.someAt (by omega)
  exact ⟨b, rfl, (h.nx.lt b rfl).2, (own_cap h.nx).1, fun j hj => h.nx.get (intsV_get _ _ _ hj)⟩
theorem TabAt.accAt {w : World} {B : Nat} {A X : Option Addr} {ca cx : Nat} {T : Tab} (h : TabAt w B A X ca cx T) (hn : 0 < T.n) : ∃ b, A = some ⟨b, 0, none⟩ ∧ b < w.heap.size ∧ T.n ≤ ca ∧ ∀ j, j < T.n → w.cell? ⟨b, j, none⟩ = some (.bool (T.acc j)) := by
  obtain ⟨b, rfl⟩ := h.acc.someAt hn
  exact ⟨b, rfl, (h.acc.lt b rfl).2, (own_cap h.acc).1, fun j hj => h.acc.get (by simp [hj])⟩
set_option maxRecDepth 100000 in
set_option maxHeartbeats 2000000 in
theorem whole_any (w : World) (B : Nat) (A X : Option Addr) (ca cx : Nat) (T : Tab) (h : TabAt w B A X ca cx T) (hn : 0 < T.n) (hn2 : T.n ≤ 1024) (hr : ∀ s c, s < T.n → c < 256 → T.nx s c < T.n) :
    Calls Tryd.prog 36 #[.agg #[.int .i64 0, .slice A T.n ca, .slice X (256 * T.n) cx]] w fun e w' => e = .returned (.bool true) ∧ Below w.heap.size w w' := by
  obtain ⟨xb, rfl, hxl, hxc, hx⟩ := h.nxAt hn
  obtain ⟨o, ho⟩ : ∃ o, o = Obj.cells #[.int .i64 0, .slice A T.n ca, .slice (some ⟨xb, 0, none⟩) (256 * T.n) cx] 54 := ⟨_, rfl⟩
  have hb0 : Below w.heap.size w (w.alloc o) := (Below.refl _ _).alloc (Nat.le_refl _) _
  have hblk := (heap_alloc_new w o).trans (congrArg some ho)
  have c0 : (w.alloc o).cell? ⟨w.heap.size, 0, none⟩ = some (.int .i64 0) := blk_cell hblk 0
  have c1 : (w.alloc o).cell? ⟨w.heap.size, 1, none⟩ = some (.slice A T.n ca) := blk_cell hblk 1
  have c2 : (w.alloc o).cell? ⟨w.heap.size, 2, none⟩ = some (.slice (some ⟨xb, 0, none⟩) (256 * T.n) cx) := blk_cell hblk 2
  have HX := Lib.hid (show ∀ j, j < 256 * T.n → (w.alloc o).cell? ⟨xb, j, none⟩ = some (.int .i64 ((T.nx (j / 256) (j % 256) : Nat) : Int)) from fun j hj => (hb0.cell (p := ⟨xb, j, none⟩) hxl).trans (hx j hj))
  have HR := Lib.hid hr
  have HB0 := Lib.hid hb0
  have HO := Lib.hid ho
  have n1 : ¬ ((T.n : Int) ≤ 0) := by omega
  have n2 : (((256 * T.n : Nat) : Int) != 256 * (T.n : Int)) = false := by simp
  have n3 : IntKind.i64.wrap (256 * (T.n : Int)) = 256 * (T.n : Int) := by rw [IntKind.wrap_i64]; omega
  clear h hx hr hblk hb0 ho
  go_enter Tryd.func36, Tryd.ntmps36
  go_upto_region 1 with fail
  rw [← HO.out]
  generalize w.alloc o = W at c0 c1 c2 HX HB0 ⊢
  generalize w.heap.size = z0 at c0 c1 c2 ⊢
  go_wp2
  go_loopw [29] (fun s29 wr => W = wr ∧ ∃ j : Nat, s29 = .int .i64 (j : Nat) ∧ j ≤ 256 * T.n) (fun s29 _ => 256 * T.n - (intOf s29).toNat)
  case atStart => exact ⟨rfl, 0, rfl, Nat.zero_le _⟩
  case round =>
    obtain ⟨rfl, j, rfl, hj⟩ := hrel
    by_cases hlt : j < 256 * T.n
    · have x1 := HX.out j hlt
      have hv := HR.out (j / 256) (j % 256) (by omega) (by omega)
      obtain ⟨v, hve⟩ : ∃ v, T.nx (j / 256) (j % 256) = v := ⟨_, rfl⟩
      rw [hve] at x1 hv
      clear hve
      have i1 : (j : Int) < ((256 * T.n : Nat) : Int) := by omega
      have i2 : ¬ ((v : Int) < 0) := by omega
      have i3 : decide (T.n ≤ v) = false := decide_eq_false (by omega)
      go_wp2
      go_roundw
      case rel => exact ⟨trivial, j + 1, by go_num, by omega⟩
      case measure => simp [intOf]; omega
    · obtain rfl : j = 256 * T.n := by omega
      go_wp2
      go_ret
      exact ⟨rfl, HB0.out⟩
end Go.Proofs.YtejmjjgbbojfbaaDoor
