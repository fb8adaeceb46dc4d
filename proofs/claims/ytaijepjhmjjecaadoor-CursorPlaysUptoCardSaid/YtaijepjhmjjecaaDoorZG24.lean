/- Merged: CurFix, DocC. -/
import Derived.Test.YtaijepjhmjjecaaDoorZG16
import Derived.Test.YtaijepjhmjjecaaDoorZG23
import Derived.Test.YtaijepjhmjjecaaDoorZG23
import Derived.Test.YtaijepjhmjjecaaDoorZG23
import Derived.Test.YtaijepjhmjjecaaDoorZPhW
import Derived.Test.YtaijepjhmjjecaaDoorZG20
import Derived.Test.YtaijepjhmjjecaaDoorZG2
/- cursor: the law's fixed calls. -/
namespace Go.Proofs.YtaijepjhmjjecaaDoor
set_option linter.unusedVariables false
open Go.ChangeShapes Go.WideShapes Go.ChangeAt Go.RowKit

theorem tw_ok : okV (-1) (twentyV 20) := by show checkV (-1) (twentyV 20) = 0; decide +kernel
theorem tw_fit : FitP (twentyV 20) := by
  intro p hp
  simp only [twentyV, List.mem_map, List.mem_range] at hp
  obtain ⟨i, hi, rfl⟩ := hp
  refine ⟨by show _ ∧ 10 * (i : Int) ≤ _; constructor; show _ ≤ 10 * (i : Int); omega; omega, ?_, by show 1 ≤ 1048576; omega⟩
  intro x hx
  simp at hx; subst hx; decide
theorem tw_total : totalV (twentyV 20) ≤ 20000000 := by decide +kernel
theorem tw_image : (imageV (twentyV 20)).length ≤ 1000000000 := by decide +kernel
theorem tw_next : (if 0 = (twentyV 20).length + 1 then 0 else 0 + 1) = 1 ∧ (if 0 = (twentyV 20).length + 1 then 0 else 0 + costU 0 0 (twentyV 20).length) = 1 ∧ docU (twentyV 20) 1 = 0 := by decide +kernel
theorem tw_adv : ¬ stayU (twentyV 20) 1 165 ∧ firstU (twentyV 20) 1 165 = 17 ∧ 1 + costU 1 17 (twentyV 20).length = 4 ∧ docU (twentyV 20) 18 = 170 ∧ (posU (twentyV 20) 18).length = 1 := by decide +kernel
theorem tw_end : ¬ stayU (twentyV 20) 18 1000 ∧ firstU (twentyV 20) 18 1000 = 20 ∧ docU (twentyV 20) 21 = 2147483647 := by decide +kernel
theorem tw_ph : phV [[1, 5, 9], [2, 10]] [0, 1] 0 = 2 := by decide +kernel
/-- The lists of the law's phrase. -/
def phW (w : World) : World := (((w.alloc (.cells #[.int .i64 1, .int .i64 5, .int .i64 9] 3)).alloc (.cells #[.int .i64 2, .int .i64 10] 3)).alloc (.cells #[.slice (some ⟨w.heap.size, 0, none⟩) 3 3, .slice (some ⟨w.heap.size + 1, 0, none⟩) 2 2] 23)).alloc (.cells #[.int .i64 0, .int .i64 1] 3)
theorem phW_of (w : World) : RdLL (phW w) (some ⟨w.heap.size + 2, 0, none⟩) 2 [[1, 5, 9], [2, 10]] ∧ Rd (phW w) (.slice (some ⟨w.heap.size + 3, 0, none⟩) 2 2) (intL [0, 1]) ∧ Below w.heap.size w (phW w) := by
  unfold phW
  have o1 := own_lit w 0 3 [.int .i64 1, .int .i64 5, .int .i64 9] (Nat.zero_le _) (by decide)
  have b0 := (Below.refl w.heap.size w).alloc (Nat.le_refl _) (.cells #[.int .i64 1, .int .i64 5, .int .i64 9] 3)
  have z1 : (w.alloc (.cells #[.int .i64 1, .int .i64 5, .int .i64 9] 3)).heap.size = w.heap.size + 1 := by simp
  change Own (w.alloc (.cells #[.int .i64 1, .int .i64 5, .int .i64 9] 3)) 0 3 (.slice (some ⟨w.heap.size, 0, none⟩) 3 3) _ at o1
  generalize w.alloc (.cells #[.int .i64 1, .int .i64 5, .int .i64 9] 3) = w1 at o1 b0 z1 ⊢
  have o2 := own_lit w1 0 3 [.int .i64 2, .int .i64 10] (Nat.zero_le _) (by decide)
  have b1 := (Below.refl w1.heap.size w1).alloc (Nat.le_refl _) (.cells #[.int .i64 2, .int .i64 10] 3)
  have z2 : (w1.alloc (.cells #[.int .i64 2, .int .i64 10] 3)).heap.size = w.heap.size + 2 := by simp; omega
  change Own (w1.alloc (.cells #[.int .i64 2, .int .i64 10] 3)) 0 3 (.slice (some ⟨w1.heap.size, 0, none⟩) 2 2) _ at o2
  rw [z1] at o2
  generalize w1.alloc (.cells #[.int .i64 2, .int .i64 10] 3) = w2 at o2 b1 z2 ⊢
  have o1' := o1.below b1 (Nat.le_refl _)
  have b2 := (Below.refl w2.heap.size w2).alloc (Nat.le_refl _) (.cells #[.slice (some ⟨w.heap.size, 0, none⟩) 3 3, .slice (some ⟨w.heap.size + 1, 0, none⟩) 2 2] 23)
  have h3 := heap_alloc_new w2 (.cells #[.slice (some ⟨w.heap.size, 0, none⟩) 3 3, .slice (some ⟨w.heap.size + 1, 0, none⟩) 2 2] 23)
  have z3 : (w2.alloc (.cells #[.slice (some ⟨w.heap.size, 0, none⟩) 3 3, .slice (some ⟨w.heap.size + 1, 0, none⟩) 2 2] 23)).heap.size = w.heap.size + 3 := by simp; omega
  rw [z2] at h3
  generalize w2.alloc (.cells #[.slice (some ⟨w.heap.size, 0, none⟩) 3 3, .slice (some ⟨w.heap.size + 1, 0, none⟩) 2 2] 23) = w3 at b2 h3 z3 ⊢
  have o1'' := o1'.below b2 (Nat.le_refl _)
  have o2' := o2.below b2 (Nat.le_refl _)
  have o4 := own_lit w3 0 3 [.int .i64 0, .int .i64 1] (Nat.zero_le _) (by decide)
  have b3 := (Below.refl w3.heap.size w3).alloc (Nat.le_refl _) (.cells #[.int .i64 0, .int .i64 1] 3)
  change Own (w3.alloc (.cells #[.int .i64 0, .int .i64 1] 3)) 0 3 (.slice (some ⟨w3.heap.size, 0, none⟩) 2 2) _ at o4
  rw [z3] at o4
  have h4 : (w3.alloc (.cells #[.int .i64 0, .int .i64 1] 3)).heap[w.heap.size + 2]? = _ := (Below.heap_alloc _ _ _ (by omega)).trans h3
  generalize w3.alloc (.cells #[.int .i64 0, .int .i64 1] 3) = w4 at o4 b3 h4 ⊢
  have o1''' := o1''.below b3 (Nat.le_refl _)
  have o2'' := o2'.below b3 (Nat.le_refl _)
  refine ⟨⟨rfl, fun _ => ⟨_, 0, rfl, fun i hi => ?_⟩⟩, o4.rd, ?_⟩
  · match i, hi with
    | 0, _ => exact ⟨_, 3, blk_cell h4 0, o1'''.rd⟩
    | 1, _ => exact ⟨_, 2, blk_cell h4 1, o2''.rd⟩
  · exact ((b0.trans (b1.mono (by omega))).trans (b2.mono (by omega))).trans (b3.mono (by omega))
set_option maxRecDepth 100000 in
set_option maxHeartbeats 4000000 in
theorem fixed_any (w : World) (EA : Nat → Addr) (hS : Sent6 w EA) : Calls Tryd.prog 9 #[] w fun e w' => e = .returned (.bool true) ∧ Below w.heap.size w w' := by
  have C1 := twenty_any w
  have HS := Lib.hid hS
  clear hS
  go_enter Tryd.func9, Tryd.ntmps9
  go_wp2_with fail
  with_reducible refine C1.mono ?_
  rintro e w1 ⟨A1, N1, rfl, ⟨hl1, vs1, hr1⟩, hb1⟩
  clear C1
  have hn1 : 20 ≤ N1 := by
    obtain ⟨_, _, he1, hn1, _⟩ := hr1.sl
    injection he1 with _ e1 e2
    rw [e2]; omega
  have C2 := renc_any w1 A1 20 N1 (twentyV 20) hr1.rd hn1 tw_fit (by rw [twentyV_length]; omega) tw_total EA (HS.out.below hb1)
  have HB1 := Lib.hid hb1
  clear hl1 hr1 hb1 hn1
  go_wp2_with fail
  with_reducible refine C2.mono ?_
  rintro e w2 ⟨h2, -⟩
  clear C2
  obtain ⟨A2, N2, K2, rfl, ho2, hb2⟩ := h2 tw_ok
  clear h2
  have HB2 := Lib.hid (HB1.out.trans (hb2.mono HB1.out.size))
  have hrd := ho2.rd
  have C3 := copen_ok w2 A2 N2 K2 (twentyV 20) tw_ok tw_fit (by rw [twentyV_length]; omega) tw_total tw_image hrd EA (HS.out.below HB2.out)
  have HC3 := Lib.hid C3
  clear ho2 hb2 hrd HB1 C3
  go_wp2_with fail
  with_reducible refine HC3.out.mono ?_
  rintro e w3 ⟨q, pl, rfl, h3, hb3⟩
  have HBT := Lib.hid (HB2.out.trans (hb3.mono HB2.out.size))
  have hz3 := hb3.size
  obtain ⟨B, hB⟩ : ∃ B, w2.heap.size = B := ⟨_, rfl⟩
  rw [hB] at h3 hz3
  have hwB : w.heap.size ≤ B := by have := HB2.out.size; omega
  have hq : B ≤ q := by obtain ⟨_, _, h⟩ := h3; exact h.hq
  have hlo : Low6 B := by obtain ⟨_, _, h⟩ := h3; exact h.lo
  have HLO := Lib.hid hlo
  obtain ⟨bk, rv, h3b⟩ := id h3
  have C4 := docB_any w3 B q _ _ _ _ 0 0 false bk rv h3b
  rw [docU_zero] at C4
  have HS3 := Lib.hid (HS.out.below HBT.out)
  have C5 := next_any w3 B q _ _ _ 0 0 false h3 hz3 (by omega) EA HS3.out
  rw [tw_next.1, tw_next.2.1, tw_next.2.2, ite_self] at C5
  have HC5 := Lib.hid C5
  clear h3 hb3 h3b hlo C5 hB HC3
  go_wp2_with fail
  with_reducible refine C4.mono ?_
  rintro e wx ⟨rfl, rfl⟩
  clear C4
  go_wp2_with fail
  with_reducible refine HC5.out.mono ?_
  rintro e w4 ⟨rfl, h4, he4⟩
  have C6 := adv_any w4 B q _ _ _ 1 1 false h4 (Nat.le_trans hz3 he4.size) (by omega) 165 EA (HS3.out.effq he4 HLO.out hq)
  rw [if_neg tw_adv.1, if_neg tw_adv.1, if_neg tw_adv.1, tw_adv.2.1, tw_adv.2.2.1, tw_adv.2.2.2.1] at C6
  have HE4 := Lib.hid he4
  have HC6 := Lib.hid C6
  clear h4 he4 C6 HC5
  go_wp2_with fail
  with_reducible refine HC6.out.mono ?_
  rintro e w5 ⟨rfl, h5, he5⟩
  have HE5 := Lib.hid (HE4.out.trans he5 (fun i hi _ => hi))
  obtain ⟨bk5, rv5, h5b⟩ := id h5
  have C7 := movB_any w5 B q _ _ _ _ 18 4 false bk5 rv5 h5b
  have C8 := freq_any w5 B q _ _ _ 18 4 false h5 (Nat.le_trans hz3 HE5.out.size) EA (HS3.out.effq HE5.out HLO.out hq)
  rw [tw_adv.2.2.2.2] at C8
  have HC8 := Lib.hid C8
  clear h5 h5b he5 C8 HC6 HE4
  go_wp2_with fail
  with_reducible refine C7.mono ?_
  rintro e wx ⟨rfl, rfl⟩
  clear C7
  go_wp2_with fail
  with_reducible refine HC8.out.mono ?_
  rintro e w6 ⟨rfl, h6, he6⟩
  have HE6 := Lib.hid (HE5.out.trans he6 (fun i hi _ => hi))
  have H6 := Lib.hid h6
  clear h6 he6 HC8 HE5
  have z6 : ∀ (o1 o2 o3 : Obj), (w6.alloc o1).heap.size = w6.heap.size + 1 ∧ ((w6.alloc o1).alloc o2).heap.size = w6.heap.size + 2 ∧ (((w6.alloc o1).alloc o2).alloc o3).heap.size = w6.heap.size + 3 := fun _ _ _ => ⟨by simp, by simp, by simp⟩
  obtain ⟨k1, k2, k3⟩ := phW_of w6
  have C9 := ph_any (phW w6) _ 2 2 _ k1 _ 2 2 [0, 1] k2 0 (by decide) (by decide) (by decide)
  rw [tw_ph] at C9
  have HB9 := Lib.hid k3
  unfold phW at C9
  have HC9 := Lib.hid C9
  clear k1 k2 k3 C9 z6
  go_wp2_with fail
  with_reducible refine HC9.out.mono ?_
  rintro e w7 ⟨rfl, hb7⟩
  have hbb := HB9.out.trans (show Below w6.heap.size (phW w6) w7 from hb7.mono HB9.out.size)
  have H7 := H6.out.below hbb (Nat.le_refl _)
  have HB7 := Lib.hid hbb
  have hzz : B ≤ w7.heap.size := Nat.le_trans (Nat.le_trans hz3 HE6.out.size) hbb.size
  have S7 := (HS3.out.effq HE6.out HLO.out hq).below hbb
  have C10 := adv_any w7 B q _ _ _ 18 4 false H7 hzz (by omega) 1000 EA S7
  rw [if_neg tw_end.1, if_neg tw_end.1, if_neg tw_end.1, tw_end.2.1, tw_end.2.2] at C10
  have HC10 := Lib.hid C10
  clear hb7 hbb H7 S7 C10 HC9
  go_wp2_with fail
  with_reducible refine HC10.out.mono ?_
  rintro e w8 ⟨rfl, -, he8⟩
  have hfin : Below w.heap.size w w8 := by
    have e1 := HB7.out.mono (show w.heap.size ≤ w6.heap.size from Nat.le_trans hwB (Nat.le_trans hz3 HE6.out.size))
    have f1 := HE6.out
    have f2 : Below w.heap.size w3 w6 := ⟨f1.os, f1.tape, f1.output, f1.size, fun k hk => f1.block k (by omega) (by omega)⟩
    have f3 : Below w.heap.size w7 w8 := ⟨he8.os, he8.tape, he8.output, he8.size, fun k hk => he8.block k (by omega) (by omega)⟩
    exact ((HBT.out.trans f2).trans e1).trans f3
  have HF := Lib.hid hfin
  clear he8 hfin
  go_wp2
  go_ret
  exact ⟨rfl, HF.out⟩
end Go.Proofs.YtaijepjhmjjecaaDoor

/- cursor: the document's cursor: Doc, Docs, Total, Here, cost. -/
namespace Go.Proofs.YtaijepjhmjjecaaDoor
set_option linter.unusedVariables false
open Go.ChangeShapes Go.WideShapes Go.ChangeAt Go.RowKit

/-- The document's cursor: its cells. -/
def rcC (a : Option Addr) (n c : Nat) (pl : Int) (mv : Nat) (told : Bool) : Array Value := #[.slice a n c, .int .i64 pl, .int .i64 (mv : Nat), .bool told]
/-- A block of one. -/
structure RcB (w : World) (z : Nat) (a : Option Addr) (n c : Nat) (pl : Int) (mv : Nat) (told : Bool) : Prop where
  blk : w.heap[z]? = some (.cells #[.slice a n c, .int .i64 pl, .int .i64 (mv : Nat), .bool told] 57 (0, 0))
theorem RcB.c0 {w : World} {z : Nat} {a : Option Addr} {n c : Nat} {pl : Int} {mv : Nat} {told : Bool} (h : RcB w z a n c pl mv told) : w.cell? ⟨z, 0, none⟩ = some (.slice a n c) := blk_cell h.blk 0
theorem RcB.c1 {w : World} {z : Nat} {a : Option Addr} {n c : Nat} {pl : Int} {mv : Nat} {told : Bool} (h : RcB w z a n c pl mv told) : w.cell? ⟨z, 1, none⟩ = some (.int .i64 pl) := blk_cell h.blk 1
theorem RcB.c2 {w : World} {z : Nat} {a : Option Addr} {n c : Nat} {pl : Int} {mv : Nat} {told : Bool} (h : RcB w z a n c pl mv told) : w.cell? ⟨z, 2, none⟩ = some (.int .i64 (mv : Nat)) := blk_cell h.blk 2
theorem RcB.c3 {w : World} {z : Nat} {a : Option Addr} {n c : Nat} {pl : Int} {mv : Nat} {told : Bool} (h : RcB w z a n c pl mv told) : w.cell? ⟨z, 3, none⟩ = some (.bool told) := blk_cell h.blk 3
theorem RcB.below {B : Nat} {w w' : World} {z : Nat} {a : Option Addr} {n c : Nat} {pl : Int} {mv : Nat} {told : Bool} (h : RcB w z a n c pl mv told) (hb : Below B w w') (hB : z < B) : RcB w' z a n c pl mv told := ⟨(hb.block z hB).trans h.blk⟩
/-- What a function knows behind its parameter has been laid. -/
structure BoxW (w w1 : World) (z : Nat) (a : Option Addr) (n c : Nat) (pl : Int) (mv : Nat) (told : Bool) : Prop where
  box : RcB w1 z a n c pl mv told
  bel : Below z w w1
  size : w1.heap.size = z + 1
theorem boxW_of (w : World) (a : Option Addr) (n c : Nat) (pl : Int) (mv : Nat) (told : Bool) : BoxW w (w.alloc (.cells #[.slice a n c, .int .i64 pl, .int .i64 (mv : Nat), .bool told] 57)) w.heap.size a n c pl mv told :=
  ⟨⟨heap_alloc_new w _⟩, (Below.refl _ w).alloc (Nat.le_refl _) _, by simp⟩
theorem RdPost.at2 {w : World} {a : Option Addr} {n : Nat} {ps : List PostV} (h : RdPost w a n ps) {i : Nat} (hi : i < ps.length) : ∃ b o A C, a = some ⟨b, o, none⟩ ∧ w.cell? ⟨b, o + i * 2, none⟩ = some (.int .i64 ps[i].doc) ∧ w.cell? ⟨b, o + i * 2 + 1, none⟩ = some (.slice A ps[i].pos.length C) ∧ Rd w (.slice A ps[i].pos.length C) (intL ps[i].pos) := by
  obtain ⟨b, o, e, hg⟩ := h.2 (by omega)
  obtain ⟨h1, A, C, h2, h3⟩ := hg i hi
  exact ⟨b, o, A, C, e, h1, h2, h3⟩
set_option maxRecDepth 100000 in
theorem rdoc_any (w : World) (a : Option Addr) (n c : Nat) (ps : List PostV) (hr : RdPost w a n ps) (hl : ps.length ≤ 2000000) (u : Nat) (hu : u ≤ ps.length + 1) (pl : Int) (hpl : (u : Int) - 1 = pl) (mv : Nat) (told : Bool) :
    Calls Tryd.prog 31 #[.agg #[.slice a n c, .int .i64 pl, .int .i64 (mv : Nat), .bool told]] w fun e w' => e = .returned (.int .i64 (docU ps u)) ∧ Below w.heap.size w w' := by
  obtain rfl := hr.1
  have HW := Lib.hid (boxW_of w a ps.length c pl mv told)
  have hz : w.heap.size = w.heap.size := rfl
  by_cases h0 : u = 0
  · subst h0
    have t1 : decide (pl < 0) = true := decide_eq_true (by omega)
    rw [docU_zero]
    clear hpl hu hr
    go_enter Tryd.func31, Tryd.ntmps31
    go_upto_region 1 with fail
    generalize w.alloc (.cells #[.slice a ps.length c, .int .i64 pl, .int .i64 (mv : Nat), .bool told] 57) = w1 at HW ⊢
    obtain ⟨z, hz⟩ : ∃ z, w.heap.size = z := ⟨_, rfl⟩
    rw [hz] at HW ⊢
    have HZ := Lib.hid hz
    clear hz
    have c1 := HW.out.box.c1
    go_wp2
    go_ret
    exact ⟨rfl, by first | exact HW.out.bel | (rw [HZ.out]; exact HW.out.bel)⟩
  · obtain ⟨p, rfl⟩ : ∃ p, u = p + 1 := ⟨u - 1, by omega⟩
    obtain rfl : pl = (p : Int) := by omega
    have t1 : decide ((p : Int) < 0) = false := decide_eq_false (by omega)
    by_cases hp : p < ps.length
    · have t2 : decide (ps.length ≤ p) = false := decide_eq_false (by omega)
      rw [docU_at hp]
      have hrb := hr.below (boxW_of w a ps.length c p mv told).bel (Nat.le_refl _)
      obtain ⟨b, o, A, C, rfl, x0, -⟩ := hrb.at2 hp
      obtain ⟨d, hd⟩ : ∃ d, ps[p].doc = d := ⟨_, rfl⟩
      rw [hd] at x0 ⊢
      have i1 : (p : Int) < (ps.length : Int) := by omega
      clear hpl hu hr hrb hd h0
      go_enter Tryd.func31, Tryd.ntmps31
      go_upto_region 1 with fail
      generalize w.alloc (.cells #[.slice (some ⟨b, o, none⟩) ps.length c, .int .i64 (p : Int), .int .i64 (mv : Nat), .bool told] 57) = w1 at HW x0 ⊢
      obtain ⟨z, hz⟩ : ∃ z, w.heap.size = z := ⟨_, rfl⟩
      rw [hz] at HW ⊢
      have HZ := Lib.hid hz
      clear hz
      have c1 := HW.out.box.c1
      have c0 := HW.out.box.c0
      go_wp2
      go_ret
      exact ⟨rfl, by first | exact HW.out.bel | (rw [HZ.out]; exact HW.out.bel)⟩
    · obtain rfl : p = ps.length := by omega
      have t2 : decide (ps.length ≤ ps.length) = true := decide_eq_true (Nat.le_refl _)
      rw [docU_end (by omega)]
      clear hpl hu hr h0
      go_enter Tryd.func31, Tryd.ntmps31
      go_upto_region 1 with fail
      generalize w.alloc (.cells #[.slice a ps.length c, .int .i64 (ps.length : Int), .int .i64 (mv : Nat), .bool told] 57) = w1 at HW ⊢
      obtain ⟨z, hz⟩ : ∃ z, w.heap.size = z := ⟨_, rfl⟩
      rw [hz] at HW ⊢
      have HZ := Lib.hid hz
      clear hz
      have c1 := HW.out.box.c1
      have c0 := HW.out.box.c0
      go_wp2
      go_ret
      exact ⟨rfl, by first | exact HW.out.bel | (rw [HZ.out]; exact HW.out.bel)⟩
theorem rdocs_any (w : World) (a : Option Addr) (n c : Nat) (pl : Int) (mv : Nat) (told : Bool) :
    Calls Tryd.prog 60 #[.agg #[.slice a n c, .int .i64 pl, .int .i64 (mv : Nat), .bool told]] w fun e w' => e = .returned (.int .i64 (n : Nat)) ∧ Below w.heap.size w w' := by
  have HW := Lib.hid (boxW_of w a n c pl mv told)
  go_enter Tryd.func60, Tryd.ntmps60
  go_upto_region 1 with fail
  generalize w.alloc (.cells #[.slice a n c, .int .i64 pl, .int .i64 (mv : Nat), .bool told] 57) = w1 at HW ⊢
  obtain ⟨z, hz⟩ : ∃ z, w.heap.size = z := ⟨_, rfl⟩
  rw [hz] at HW ⊢
  have HZ := Lib.hid hz
  clear hz
  have c0 := HW.out.box.c0
  go_wp2
  go_ret
  exact ⟨rfl, by first | exact HW.out.bel | (rw [HZ.out]; exact HW.out.bel)⟩
set_option maxRecDepth 100000 in
theorem rtotC_any (w : World) (a : Option Addr) (n c : Nat) (ps : List PostV) (hr : RdPost w a n ps) (hl : ps.length ≤ 2000000) (hT : totalV ps ≤ 20000000) (pl : Int) (mv : Nat) (told : Bool) :
    Calls Tryd.prog 61 #[.agg #[.slice a n c, .int .i64 pl, .int .i64 (mv : Nat), .bool told]] w fun e w' => e = .returned (.int .i64 (totalV ps : Nat)) ∧ Below w.heap.size w w' := by
  obtain rfl := hr.1
  have HW := Lib.hid (boxW_of w a ps.length c pl mv told)
  have HR := Lib.hid (hr.below (boxW_of w a ps.length c pl mv told).bel (Nat.le_refl _))
  clear hr
  go_enter Tryd.func61, Tryd.ntmps61
  go_upto_region 1 with fail
  generalize w.alloc (.cells #[.slice a ps.length c, .int .i64 pl, .int .i64 (mv : Nat), .bool told] 57) = w1 at HW HR ⊢
  obtain ⟨z, hz⟩ : ∃ z, w.heap.size = z := ⟨_, rfl⟩
  rw [hz] at HW ⊢
  have HZ := Lib.hid hz
  clear hz
  have c0 := HW.out.box.c0
  go_wp2
  go_loopw [3, 4] (fun s3 s4 wr => ∃ i : Nat, s3 = .int .i64 (totalV (ps.take i) : Nat) ∧ s4 = .int .i64 i ∧ i ≤ ps.length ∧ wr = w1) (fun _ s4 _ => ps.length - (intOf s4).toNat)
  case atStart => exact ⟨0, by simp [totalV], rfl, Nat.zero_le _, rfl⟩
  case round =>
    obtain ⟨i, rfl, rfl, hi, rfl⟩ := hrel
    by_cases hlt : i < ps.length
    · obtain ⟨b, o, A, C, rfl, -, x1, -⟩ := HR.out.at2 hlt
      have h1 := totalV_take ps i hlt
      have h2 := totalV_split ps (i + 1)
      obtain ⟨m, hm⟩ : ∃ m, ps[i].pos.length = m := ⟨_, rfl⟩
      obtain ⟨T0, hT0⟩ : ∃ m, totalV (ps.take i) = m := ⟨_, rfl⟩
      rw [hm] at h1 x1
      rw [hT0] at h1 ⊢
      have HT := Lib.hid h1
      have i1 : (i : Int) < (ps.length : Int) := by omega
      have s1 : IntKind.i64.wrap ((T0 : Int) + (m : Int)) = ((T0 + m : Nat) : Int) := by rw [IntKind.wrap_i64]; omega
      clear hm hT0 h1 h2 hlt
      go_wp2
      go_roundw
      case rel => exact ⟨i + 1, by rw [HT.out] <;> first | rfl | go_num, by go_num, by omega, by first | rfl | trivial⟩
      case measure => simp [intOf]; omega
    · obtain rfl : i = ps.length := by omega
      have i1 : ¬ ((ps.length : Int) < (ps.length : Int)) := by omega
      rw [List.take_length]
      clear hlt
      go_wp2
      go_ret
      exact ⟨rfl, by first | exact HW.out.bel | (rw [HZ.out]; exact HW.out.bel)⟩
set_option maxRecDepth 100000 in
theorem rhere_any (w0 w : World) (hw : Below w0.heap.size w0 w) (a : Option Addr) (n c : Nat) (ps : List PostV) (hr : RdPost w0 a n ps) (hl : ps.length ≤ 2000000) (u : Nat) (hu : u ≤ ps.length + 1) (pl : Int) (hpl : (u : Int) - 1 = pl) (mv : Nat) (told : Bool) :
    Calls Tryd.prog 58 #[.agg #[.slice a n c, .int .i64 pl, .int .i64 (mv : Nat), .bool told]] w fun e w' => ∃ A C, e = .returned (.slice A (posU ps u).length C) ∧ Rd w0 (.slice A (posU ps u).length C) (intL (posU ps u)) ∧ Below w.heap.size w w' := by
  obtain rfl := hr.1
  have HW := Lib.hid (boxW_of w a ps.length c pl mv told)
  by_cases h0 : u = 0
  · subst h0
    have t1 : decide (pl < 0) = true := decide_eq_true (by omega)
    rw [posU_out (.inl rfl)]
    clear hpl hu hr
    go_enter Tryd.func58, Tryd.ntmps58
    go_upto_region 1 with fail
    generalize w.alloc (.cells #[.slice a ps.length c, .int .i64 pl, .int .i64 (mv : Nat), .bool told] 57) = w1 at HW ⊢
    obtain ⟨z, hz⟩ : ∃ z, w.heap.size = z := ⟨_, rfl⟩
    rw [hz] at HW ⊢
    have HZ := Lib.hid hz
    clear hz
    have c1 := HW.out.box.c1
    go_wp2
    go_ret
    exact ⟨none, 0, rfl, (own_nil w0 0 3).rd, by first | exact HW.out.bel | (rw [HZ.out]; exact HW.out.bel)⟩
  · obtain ⟨p, rfl⟩ : ∃ p, u = p + 1 := ⟨u - 1, by omega⟩
    obtain rfl : pl = (p : Int) := by omega
    have t1 : decide ((p : Int) < 0) = false := decide_eq_false (by omega)
    by_cases hp : p < ps.length
    · have t2 : decide (ps.length ≤ p) = false := decide_eq_false (by omega)
      rw [posU_at hp]
      obtain ⟨b, o, A, C, rfl, -, x1, x2⟩ := hr.at2 hp
      have x0 := (hw.cell (World.block_lt_of_cell? w0 _ x1)).trans x1
      have x1 := (boxW_of w (some ⟨b, o, none⟩) ps.length c p mv told).bel.cell (World.block_lt_of_cell? w _ x0) |>.trans x0
      obtain ⟨d, hd⟩ : ∃ d, ps[p].pos = d := ⟨_, rfl⟩
      rw [hd] at x1 x2 ⊢
      have i1 : (p : Int) < (ps.length : Int) := by omega
      have HX := Lib.hid x2
      clear hpl hu hr hd h0 x2 x0
      go_enter Tryd.func58, Tryd.ntmps58
      go_upto_region 1 with fail
      generalize w.alloc (.cells #[.slice (some ⟨b, o, none⟩) ps.length c, .int .i64 (p : Int), .int .i64 (mv : Nat), .bool told] 57) = w1 at HW x1 ⊢
      obtain ⟨z, hz⟩ : ∃ z, w.heap.size = z := ⟨_, rfl⟩
      rw [hz] at HW ⊢
      have HZ := Lib.hid hz
      clear hz
      have c1 := HW.out.box.c1
      have c0 := HW.out.box.c0
      go_wp2
      go_ret
      exact ⟨_, _, rfl, HX.out, by first | exact HW.out.bel | (rw [HZ.out]; exact HW.out.bel)⟩
    · obtain rfl : p = ps.length := by omega
      have t2 : decide (ps.length ≤ ps.length) = true := decide_eq_true (Nat.le_refl _)
      rw [posU_out (.inr (by omega))]
      clear hpl hu hr h0
      go_enter Tryd.func58, Tryd.ntmps58
      go_upto_region 1 with fail
      generalize w.alloc (.cells #[.slice a ps.length c, .int .i64 (ps.length : Int), .int .i64 (mv : Nat), .bool told] 57) = w1 at HW ⊢
      obtain ⟨z, hz⟩ : ∃ z, w.heap.size = z := ⟨_, rfl⟩
      rw [hz] at HW ⊢
      have HZ := Lib.hid hz
      clear hz
      have c1 := HW.out.box.c1
      have c0 := HW.out.box.c0
      go_wp2
      go_ret
      exact ⟨none, 0, rfl, (own_nil w0 0 3).rd, by first | exact HW.out.bel | (rw [HZ.out]; exact HW.out.bel)⟩
set_option maxRecDepth 100000 in
theorem cost_any (w : World) (n u q : Nat) (hn : n ≤ 2000000) (hu : u ≤ q) (hq : q ≤ n) (pl : Int) (hpl : (u : Int) - 1 = pl) :
    Calls Tryd.prog 111 #[.int .i64 pl, .int .i64 (q : Nat), .int .i64 (n : Nat)] w fun e w' => e = .returned (.int .i64 (costU u q n : Nat)) ∧ w = w' := by
  have s1 : IntKind.i64.wrap (pl + 1) = (u : Int) := by rw [IntKind.wrap_i64]; omega
  by_cases h1 : q = n
  · subst h1
    have t1 : ((q : Int) == (q : Int)) = true := by simp
    by_cases h2 : u = q
    · subst h2
      have t2 : ((u : Int) == (u : Int)) = true := by simp
      have e : costU u u u = 1 := by unfold costU; rw [if_pos rfl, if_pos rfl]
      rw [e]
      clear e hu hq hpl
      go_enter Tryd.func111, Tryd.ntmps111
      go_wp2
      go_ret
      exact ⟨rfl, rfl⟩
    · have t2 : ((u : Int) == (q : Int)) = false := beq_false_of_ne (by omega)
      have e : costU u q q = (q + 15) / 16 - u / 16 + 1 := by unfold costU; rw [if_pos rfl, if_neg h2]
      rw [e]
      have HU := Lib.hid hu
      clear e h2 hu hq hpl
      go_enter Tryd.func111, Tryd.ntmps111
      go_wp2
      clear s1 t1 t2
      go_ret
      have hu := HU.out
      exact ⟨congrArg (fun x => Ending.returned (Value.int IntKind.i64 x)) (by unfold wrap64; omega), rfl⟩
  · have t1 : ((q : Int) == (n : Int)) = false := beq_false_of_ne (by omega)
    obtain ⟨A, hA⟩ : ∃ A, q / 16 = A := ⟨_, rfl⟩
    obtain ⟨B, hB⟩ : ∃ B, u / 16 = B := ⟨_, rfl⟩
    have s4 : IntKind.i64.wrap ((q : Int) / 16) = (A : Int) := by rw [IntKind.wrap_i64]; omega
    have s5 : IntKind.i64.wrap ((u : Int) / 16) = (B : Int) := by rw [IntKind.wrap_i64]; omega
    have HA := Lib.hid hA
    have HB := Lib.hid hB
    have HU := Lib.hid hu
    have HP := Lib.hid hpl
    have HN := Lib.hid hn
    have HQ := Lib.hid hq
    by_cases h2 : u / 16 = q / 16
    · have t2 : ((B : Int) == (A : Int)) = true := by rw [← hA, ← hB, h2]; simp
      have t3 : B = A := by omega
      have e : costU u q n = q + 1 - u := by unfold costU; rw [if_neg h1, if_pos h2]
      rw [e]
      subst t3
      clear e h1 h2 hu hq hpl hA hB
      go_enter Tryd.func111, Tryd.ntmps111
      go_wp2
      clear s1 s4 s5 t1 t2
      go_ret
      have hu := HU.out
      have hp := HP.out
      have hq := HQ.out
      exact ⟨congrArg (fun x => Ending.returned (Value.int IntKind.i64 x)) (by unfold wrap64; omega), rfl⟩
    · have t2 : ((B : Int) == (A : Int)) = false := beq_false_of_ne (by omega)
      have t3 : ¬ B = A := by omega
      have e : costU u q n = q / 16 - u / 16 + q % 16 + 1 := by unfold costU; rw [if_neg h1, if_neg h2]
      rw [e]
      clear e h1 h2 hu hq hpl hA hB
      go_enter Tryd.func111, Tryd.ntmps111
      go_wp2
      clear s1 s4 s5 t1 t2 t3
      go_ret
      have hu := HU.out
      have hq := HQ.out
      have hA := HA.out
      have hB := HB.out
      exact ⟨congrArg (fun x => Ending.returned (Value.int IntKind.i64 x)) (by unfold wrap64; omega), rfl⟩
end Go.Proofs.YtaijepjhmjjecaaDoor
