/- Merged: Made, Dead. -/
import Derived.Test.YtejmjjgbbojfbaaDoorZMake
import Derived.Test.YtejmjjgbbojfbaaDoorZG22
import Derived.Test.YtejmjjgbbojfbaaDoorZExact
import Derived.Test.YtejmjjgbbojfbaaDoorZG17
import Derived.Test.YtejmjjgbbojfbaaDoorZG21
/- made: the automaton of an Of, and that the document agrees. -/
namespace Go.Proofs.YtejmjjgbbojfbaaDoor
set_option linter.unusedVariables false
open Go.ChangeShapes Go.WideShapes Go.ChangeAt Go.RowKit

/-- The nine cells of an Of at block B. -/
structure Cells9 (w : World) (B : Nat) (o : OfV) : Prop where
  c0 : w.cell? ⟨B, 0, none⟩ = some (.int .i64 o.k)
  c1 : w.cell? ⟨B, 1, none⟩ = some (.string o.s)
  c2 : w.cell? ⟨B, 2, none⟩ = some (.int .i64 o.n)
  c3 : w.cell? ⟨B, 3, none⟩ = some (.bool o.lop)
  c4 : w.cell? ⟨B, 4, none⟩ = some (.bool o.lin)
  c5 : w.cell? ⟨B, 5, none⟩ = some (.string o.ls)
  c6 : w.cell? ⟨B, 6, none⟩ = some (.bool o.hop)
  c7 : w.cell? ⟨B, 7, none⟩ = some (.bool o.hin)
  c8 : w.cell? ⟨B, 8, none⟩ = some (.string o.hs)
theorem Cells9.of {w : World} {B : Nat} {o : OfV} {t : TypeId} {fr : Nat × Nat} (h : w.heap[B]? = some (.cells o.cells.toArray t fr)) : Cells9 w B o :=
  ⟨blk_cell h 0, blk_cell h 1, blk_cell h 2, blk_cell h 3, blk_cell h 4, blk_cell h 5, blk_cell h 6, blk_cell h 7, blk_cell h 8⟩
theorem Cells9.below {w w' : World} {B b : Nat} {o : OfV} (h : Cells9 w b o) (hb : Below B w w') (hB : b < B) : Cells9 w' b o :=
  ⟨by rw [hb.cell hB]; exact h.c0, by rw [hb.cell hB]; exact h.c1, by rw [hb.cell hB]; exact h.c2, by rw [hb.cell hB]; exact h.c3, by rw [hb.cell hB]; exact h.c4, by rw [hb.cell hB]; exact h.c5, by rw [hb.cell hB]; exact h.c6, by rw [hb.cell hB]; exact h.c7, by rw [hb.cell hB]; exact h.c8⟩
/-- What made answers. -/
def MadePost (w : World) (o : OfV) (e : Ending) (w' : World) : Prop :=
  (o.bad = 0 → ∃ p, e = .returned (.tuple #[.pointer (some ⟨p, 0, none⟩), .bool true]) ∧ w.heap.size ≤ p ∧ AutoAt w' p o ∧ Below w.heap.size w w') ∧
  (o.bad ≠ 0 → e = .returned (.tuple #[.pointer none, .bool true]) ∧ Below w.heap.size w w')
/-- The document's look at what was told is the look at o. -/
theorem rmake_told (w : World) (o : OfV) (hs : o.s.size ≤ 1000000000) :
    Calls Tryd.prog 45 #[.agg (rCellsOf o).toArray] w fun e w' => e = .returned (.int .i64 (o.bad : Nat)) ∧ Below w.heap.size w w' := by
  unfold rCellsOf
  split
  · next h =>
    have hb : o.bad = 0 := by unfold OfV.bad; rw [if_neg (fun h2 => by have := h2.1; omega), if_neg (fun h2 => by have := h2.1; omega)]
    have h1 := rmake_any w 1 0 o.s false false false false ⟨#[]⟩ ⟨#[]⟩ hs
    have hb1 : OfV.bad ⟨1, o.s, 0, false, false, ⟨#[]⟩, false, false, ⟨#[]⟩⟩ = 0 := by unfold OfV.bad; rw [if_neg (fun h2 => absurd h2.1 (by show ¬ (1 : Int) = 3; decide)), if_neg (fun h2 => absurd h2.1 (by show ¬ (1 : Int) = 4; decide))]
    rw [hb1] at h1
    rw [hb]; exact h1
  · exact rmake_any w o.k o.n o.s o.lop o.lin o.hop o.hin o.ls o.hs hs
set_option maxRecDepth 100000 in
set_option maxHeartbeats 2000000 in
theorem made_any (w : World) (o : OfV) (hs : o.s.size ≤ 1000000000) (EA : Nat → Addr) (hE : Sent w EA) :
    Calls Tryd.prog 17 #[.agg o.cells.toArray] w (MadePost w o) := by
  obtain ⟨ob, hob⟩ : ∃ ob, ob = Obj.cells o.cells.toArray 37 := ⟨_, rfl⟩
  have hb0 : Below w.heap.size w (w.alloc ob) := (Below.refl _ _).alloc (Nat.le_refl _) _
  have hz0 : (w.alloc ob).heap.size = w.heap.size + 1 := by simp
  have hcx : Cells9 (w.alloc ob) w.heap.size o := Cells9.of ((heap_alloc_new w ob).trans (congrArg some hob))
  have C1 := make1_any (w.alloc ob) o hs EA (hE.below hb0)
  have HE := Lib.hid hE
  have HB0 := Lib.hid hb0
  have HZ0 := Lib.hid hz0
  have HCX := Lib.hid hcx
  have hcx2 := hcx
  rw [hob] at C1 hcx2
  obtain ⟨d0, d1, d2, d3, d4, d5, d6, d7, d8⟩ := hcx2
  have HOB := Lib.hid hob
  clear hob hb0 hz0 hcx hE
  go_enter Tryd.func17, Tryd.ntmps17
  go_wp2_with fail
  refine C1.mono ?_
  rintro e w1 ⟨h1, h2⟩
  rw [← HOB.out] at h1 h2
  clear C1 d0 d1 d2 d3 d4 d5 d6 d7 d8
  by_cases hbad : o.bad = 0
  · obtain ⟨p, rfl, hp, ha, hb1⟩ := h1 hbad
    have hcx1 := HCX.out.below hb1 (by rw [HZ0.out]; omega)
    obtain ⟨d0, d1, d2, d3, d4, d5, d6, d7, d8⟩ := hcx1
    have C2 := told_any w1 o
    have hB1 := HB0.out.trans (hb1.mono (by rw [HZ0.out]; omega))
    have hz1 := hb1.size
    rw [HZ0.out] at hp hz1
    have HA := Lib.hid ha
    have HB1 := Lib.hid hB1
    have HBAD := Lib.hid hbad
    clear h1 h2 ha hb1 hB1
    go_wp2_with fail
    refine C2.mono ?_
    rintro e w2 ⟨rfl, hb2⟩
    have C3 := rmake_told w2 o hs
    rw [hbad] at C3
    have hA2 := HA.out.below hb2
    have hB2 := HB1.out.trans (hb2.mono HB1.out.size)
    have HA2 := Lib.hid hA2
    have HB2 := Lib.hid hB2
    clear C2 hb2 hA2 hB2 d0 d1 d2 d3 d4 d5 d6 d7 d8 hbad
    go_wp2_with fail
    refine C3.mono ?_
    rintro e w3 ⟨rfl, hb3⟩
    have C4 := num_nil w3
    have HA3 := Lib.hid (HA2.out.below hb3)
    have HB3 := Lib.hid (HB2.out.trans (hb3.mono HB2.out.size))
    clear C3 hb3
    go_wp2_with fail
    refine C4.mono ?_
    rintro e w4 ⟨rfl, rfl⟩
    clear C4
    go_wp2
    go_ret2
    exact ⟨fun _ => ⟨p, rfl, by omega, HA3.out, HB3.out⟩, fun h => absurd HBAD.out h⟩
  · obtain ⟨rfl, hb1⟩ := h2 hbad
    have hcx1 := HCX.out.below hb1 (by rw [HZ0.out]; omega)
    obtain ⟨d0, d1, d2, d3, d4, d5, d6, d7, d8⟩ := hcx1
    have C2 := told_any w1 o
    have hB1 := HB0.out.trans (hb1.mono (by rw [HZ0.out]; omega))
    have hz1 := hb1.size
    rw [HZ0.out] at hz1
    have HB1 := Lib.hid hB1
    have HBAD := Lib.hid hbad
    clear h1 h2 hb1 hB1
    unfold errV
    go_wp2_with fail
    refine C2.mono ?_
    rintro e w2 ⟨rfl, hb2⟩
    have C3 := rmake_told w2 o hs
    have hB2 := HB1.out.trans (hb2.mono HB1.out.size)
    have HB2 := Lib.hid hB2
    clear C2 hb2 hB2 d0 d1 d2 d3 d4 d5 d6 d7 d8
    go_wp2_with fail
    refine C3.mono ?_
    rintro e w3 ⟨rfl, hb3⟩
    have hB3 := HB2.out.trans (hb3.mono HB2.out.size)
    have C4 : Calls Tryd.prog 33 #[errV EA o.bad] w3 fun e w' => e = .returned (.int .i64 (o.bad : Nat)) ∧ w3 = w' := by
      have h : o.bad = 14 ∨ o.bad = 8 := by unfold OfV.bad at hbad ⊢; split at hbad <;> simp_all
      rcases h with h | h <;> rw [h]
      · exact num_Pattern w3 EA (HE.out.below hB3)
      · exact num_Range w3 EA (HE.out.below hB3)
    unfold errV at C4
    have HB3 := Lib.hid hB3
    have t1 : ((o.bad : Int) == 0) = false := by simp; omega
    clear C3 hb3 hB3 hbad
    go_wp2_with fail
    refine C4.mono ?_
    rintro e w4 ⟨rfl, rfl⟩
    clear C4
    go_wp2
    go_ret2
    exact ⟨fun h => absurd h HBAD.out, fun _ => ⟨by simp; exact HBAD.out, HB3.out⟩⟩
end Go.Proofs.YtejmjjgbbojfbaaDoor

/- The walk of the law AutoDead. -/
namespace Go.Proofs.YtejmjjgbbojfbaaDoor
set_option linter.unusedVariables false
open Go.ChangeShapes Go.WideShapes Go.ChangeAt Go.RowKit

/-- Whatever was made is a machine. -/
theorem auto_at {w : World} {p : Nat} {o : OfV} (h : AutoAt w p o) (hs : o.s.size ≤ 1000000000) (hl : o.ls.size ≤ 1000000000) (hh : o.hs.size ≤ 1000000000) : ∃ M, IsAuto w p M := by
  obtain ⟨h0, h3, h4, h2, h5, h1⟩ := h
  by_cases k3 : o.k = 3
  · obtain ⟨es, _, ha⟩ := h3 k3; exact ⟨_, ha⟩
  by_cases k4 : o.k = 4
  · exact ⟨_, h4 k4⟩
  by_cases k2 : o.k = 2
  · exact ⟨_, prefixM_auto hs (h2 k2)⟩
  by_cases k5 : o.k = 5
  · exact ⟨_, spanM_auto hl hh (h5 k5)⟩
  exact ⟨_, exactM_auto hs (h1 k2 k3 k4 k5)⟩
theorem acc_alive {M : Mach} {s : List UInt8} (h : aliveM M s = false) : accM M s = false := by
  unfold accM; unfold aliveM at h; rw [h]; rfl
theorem alive_app {M : Mach} {s t : List UInt8} (h : aliveM M s = false) : aliveM M (s ++ t) = false := by
  unfold aliveM at h ⊢
  have h1 : runM M s = ⟨#[]⟩ := by simpa using h
  rw [runM_dead M s t h1]; rfl
set_option maxRecDepth 100000 in
set_option maxHeartbeats 2000000 in
theorem dead_walk (w : World) (o : OfV) (s : ByteArray) (a : Option Addr) (n c : Nat) (ls : List ByteArray) (hr : Rd w (.slice a n c) (strsV ls))
    (hn : ls.length ≤ 1000000000) (hz : ∀ b ∈ ls, b.size ≤ 1000000000) (hos : o.s.size ≤ 1000000000) (hol : o.ls.size ≤ 1000000000) (hoh : o.hs.size ≤ 1000000000) (hss : s.size ≤ 1000000000) (EA : Nat → Addr) (hE : Sent w EA) :
    Calls Tryd.prog 5 #[.agg o.cells.toArray, .string s, .slice a n c] w fun e w' => e = .returned (.bool true) ∧ Below w.heap.size w w' := by
  obtain ⟨ob, hob⟩ : ∃ ob, ob = Obj.cells o.cells.toArray 37 := ⟨_, rfl⟩
  have hb0 : Below w.heap.size w (w.alloc ob) := (Below.refl _ _).alloc (Nat.le_refl _) _
  have hz0 : (w.alloc ob).heap.size = w.heap.size + 1 := by simp
  have hcx : Cells9 (w.alloc ob) w.heap.size o := Cells9.of ((heap_alloc_new w ob).trans (congrArg some hob))
  have C0 := lives_any (w.alloc ob) _ (hE.below hb0).c14
  obtain rfl := (rd_strs hr).1
  have HR := Lib.hid hr
  have HZ := Lib.hid hz
  have HE := Lib.hid hE
  have HB0 := Lib.hid hb0
  have HZ0 := Lib.hid hz0
  have HCX := Lib.hid hcx
  have HOB := Lib.hid hob
  rw [hob] at C0
  clear hr hz hE hb0 hz0 hcx hob
  go_enter Tryd.func5, Tryd.ntmps5
  go_wp2_with fail
  refine C0.mono ?_
  rintro e w1 ⟨rfl, hb1⟩
  rw [← HOB.out] at hb1
  have hcx1 := HCX.out.below hb1 (by rw [HZ0.out]; omega)
  have hB1 := HB0.out.trans (hb1.mono (by rw [HZ0.out]; omega))
  have hz1 := hb1.size
  rw [HZ0.out] at hz1
  have C1 := made_any w1 o hos EA (HE.out.below hB1)
  obtain ⟨d0, d1, d2, d3, d4, d5, d6, d7, d8⟩ := hcx1
  have HB1 := Lib.hid hB1
  clear C0 hb1 hB1
  by_cases h1 : 2000 < o.s.size
  · go_wp2
    go_ret
    exact ⟨rfl, HB1.out⟩
  by_cases h2 : 2000 < s.size
  · go_wp2
    go_ret
    exact ⟨rfl, HB1.out⟩
  go_wp2_with fail
  refine C1.mono ?_
  rintro e w2 ⟨g1, g2⟩
  clear C1 d0 d1 d2 d3 d4 d5 d6 d7 d8
  by_cases hbad : o.bad = 0
  · obtain ⟨p, rfl, hp, ha, hb2⟩ := g1 hbad
    obtain ⟨M, hM⟩ := auto_at ha hos hol hoh
    have hB2 := HB1.out.trans (hb2.mono HB1.out.size)
    have C2 := alive_any w2 p M hM s (by omega)
    have HM := Lib.hid hM
    have HB2 := Lib.hid hB2
    clear g1 g2 hbad ha hM hb2 hB2
    cases hal : aliveM M s.data.toList with
    | true =>
      rw [hal] at C2
      go_wp2_with fail
      refine C2.mono ?_
      rintro e w3 ⟨rfl, hb3⟩
      have hM := HM.out.below hb3
      have hB3 := HB2.out.trans (hb3.mono HB2.out.size)
      have C3 := accepts_any w3 p M hM s (by omega)
      have HB3 := Lib.hid hB3
      clear C2 hb3 hM hB3 hal
      obtain ⟨r, hre⟩ : ∃ r, accM M s.data.toList = r := ⟨_, rfl⟩
      rw [hre] at C3
      clear hre
      go_wp2_with fail
      refine C3.mono ?_
      rintro e w4 ⟨rfl, hb4⟩
      have HB4 := Lib.hid (HB3.out.trans (hb4.mono HB3.out.size))
      clear C3 hb4
      cases r
      all_goals
        go_wp2
        go_loopw [51] (fun s51 wr => ∃ (i : Nat), s51 = .int .i64 i ∧ i ≤ ls.length ∧ Below w.heap.size w wr) (fun s51 _ => ls.length - (intOf s51).toNat)
        case atStart => exact ⟨0, rfl, Nat.zero_le _, HB4.out⟩
        case round =>
          clear HB4 HB3 HB2 HB1
          obtain ⟨i, rfl, hi, hb⟩ := hrel
          by_cases hlt : i < ls.length
          · obtain ⟨b, q, rfl, hc⟩ := (rd_strs (HR.out.below hb (Nat.le_refl _))).2 i hlt
            have HB := Lib.hid hb
            clear hb
            obtain ⟨l, hl⟩ : ∃ l, ls[i] = l := ⟨_, rfl⟩
            rw [hl] at hc
            clear hl
            go_wp2
            go_roundw
            case rel => exact ⟨i + 1, by go_num, by omega, HB.out⟩
            case measure => simp [intOf]; omega
          · obtain rfl : i = ls.length := by omega
            have HB := Lib.hid hb
            clear hb
            go_wp2
            go_ret
            exact ⟨rfl, HB.out⟩
    | false =>
      rw [hal] at C2
      have hac := acc_alive hal
      go_wp2_with fail
      refine C2.mono ?_
      rintro e w3 ⟨rfl, hb3⟩
      have hM := HM.out.below hb3
      have hB3 := HB2.out.trans (hb3.mono HB2.out.size)
      have C3 := accepts_any w3 p M hM s (by omega)
      rw [hac] at C3
      have HM3 := Lib.hid hM
      have HB3 := Lib.hid hB3
      have HAL := Lib.hid hal
      clear C2 hb3 hM hB3 hal hac
      go_wp2_with fail
      refine C3.mono ?_
      rintro e w4 ⟨rfl, hb4⟩
      have HM4 := Lib.hid (HM3.out.below hb4)
      have HB4 := Lib.hid (HB3.out.trans (hb4.mono HB3.out.size))
      clear C3 hb4
      go_wp2
      go_loopw [51] (fun s51 wr => ∃ (i : Nat), s51 = .int .i64 i ∧ i ≤ ls.length ∧ Below w.heap.size w wr ∧ IsAuto wr p M) (fun s51 _ => ls.length - (intOf s51).toNat)
      case atStart => exact ⟨0, rfl, Nat.zero_le _, HB4.out, HM4.out⟩
      case round =>
        clear HB4 HB3 HB2 HB1 HM4 HM3 HM
        obtain ⟨i, rfl, hi, hb, hm⟩ := hrel
        by_cases hlt : i < ls.length
        · obtain ⟨b, q, rfl, hc⟩ := (rd_strs (HR.out.below hb (Nat.le_refl _))).2 i hlt
          have hlz := HZ.out ls[i] (List.getElem_mem hlt)
          obtain ⟨l, hl⟩ : ∃ l, ls[i] = l := ⟨_, rfl⟩
          rw [hl] at hc hlz
          clear hl
          by_cases h20 : l.size ≤ 2000
          · have t1 : decide ((l.size : Int) ≤ 2000) = true := decide_eq_true (by omega)
            have hsum : s.size + l.size ≤ 9223372036854775807 := by omega
            have hal2 : aliveM M (s ++ l).data.toList = false := by rw [show (s ++ l).data.toList = s.data.toList ++ l.data.toList by simp]; exact alive_app HAL.out
            have hz2 : (s ++ l).size ≤ 1000000000000 := by rw [ByteArray.size_append]; omega
            have C4 := accepts_any wr p M hm (s ++ l) hz2
            rw [acc_alive hal2] at C4
            have HM := Lib.hid hm
            have HB := Lib.hid hb
            have HAL2 := Lib.hid hal2
            have HZ2 := Lib.hid hz2
            clear hb hm hal2 hz2
            go_wp2_with fail
            refine C4.mono ?_
            rintro e w5 ⟨rfl, hb5⟩
            have hM5 := HM.out.below hb5
            have C5 := alive_any w5 p M hM5 (s ++ l) HZ2.out
            rw [HAL2.out] at C5
            have HM5 := Lib.hid hM5
            have HB5 := Lib.hid (HB.out.trans (hb5.mono HB.out.size))
            clear C4 hb5 hM5
            go_wp2_with fail
            refine C5.mono ?_
            rintro e w6 ⟨rfl, hb6⟩
            have HM6 := Lib.hid (HM5.out.below hb6)
            have HB6 := Lib.hid (HB5.out.trans (hb6.mono HB5.out.size))
            clear C5 hb6
            go_wp2
            go_roundw
            case rel => exact ⟨i + 1, by go_num, by omega, HB6.out, HM6.out⟩
            case measure => simp [intOf]; omega
          · have t1 : decide ((l.size : Int) ≤ 2000) = false := decide_eq_false (by omega)
            have HM := Lib.hid hm
            have HB := Lib.hid hb
            clear hb hm
            go_wp2
            go_roundw
            case rel => exact ⟨i + 1, by go_num, by omega, HB.out, HM.out⟩
            case measure => simp [intOf]; omega
        · obtain rfl : i = ls.length := by omega
          have HB := Lib.hid hb
          clear hb hm
          go_wp2
          go_ret
          exact ⟨rfl, HB.out⟩
  · obtain ⟨rfl, hb2⟩ := g2 hbad
    have HB2 := Lib.hid (HB1.out.trans (hb2.mono HB1.out.size))
    clear g1 g2 hbad hb2
    go_wp2
    go_ret
    exact ⟨rfl, HB2.out⟩
end Go.Proofs.YtejmjjgbbojfbaaDoor
