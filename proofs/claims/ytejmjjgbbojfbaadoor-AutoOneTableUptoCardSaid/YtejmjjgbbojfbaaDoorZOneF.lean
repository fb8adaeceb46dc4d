/- The walk of the law AutoOneTable (printed by wip/gen_one.py). -/
import Derived.Test.YtejmjjgbbojfbaaDoorZOneS
import Derived.Test.YtejmjjgbbojfbaaDoorZLit
import Derived.Test.YtejmjjgbbojfbaaDoorZG9
import Derived.Test.YtejmjjgbbojfbaaDoorZG6
namespace Go.Proofs.YtejmjjgbbojfbaaDoor
set_option linter.unusedVariables false
open Go.ChangeShapes Go.WideShapes Go.ChangeAt Go.RowKit

theorem lang_wild (w : List UInt8) (hw : w.length ≤ 40) : ∀ s, langM (wildM (lsE w 0)) s = langM (exactM w) s := fun s => by
  unfold langM; rw [acc_wild0, acc_exact w (by omega)]
theorem lang_fuzz (w : List UInt8) (hw : w.length ≤ 40) : ∀ s, langM (fuzzM w 0) s = langM (exactM w) s := fun s => by
  unfold langM; rw [acc_fuzz0, acc_exact w (by omega)]
theorem lang_same (s : ByteArray) (hs : s.size ≤ 40) (hl : s.data.toList.length ≤ 40) : ∀ x, langM (spanM false true s false true s) x = langM (exactM s.data.toList) x := fun x => by
  unfold langM; rw [acc_same s (by omega), acc_exact _ (by omega)]
theorem lang_head (h : List UInt8) (hw : h.length ≤ 40) (k : Nat) : ∀ s, langM (wildM (lsE h (k + 1))) s = langM (prefixM h) s := fun s => by
  unfold langM; rw [acc_wildS, acc_prefix h (by omega)]
theorem lang_open : ∀ s, langM (spanM true false ⟨#[]⟩ true false ⟨#[]⟩) s = langM (prefixM []) s := fun s => by
  unfold langM; rw [acc_open _ _ _ _ (by decide) (by decide), acc_every]
theorem lang_from : ∀ s, langM (spanM false true ⟨#[]⟩ true false ⟨#[]⟩) s = langM (prefixM []) s := fun s => by
  unfold langM; rw [acc_from _ _ (by decide), acc_every]
theorem lang_none (s : ByteArray) (hs : s.size ≤ 40) : ∀ x, langM (spanM false true s false false s) x = langM (spanM true false ⟨#[]⟩ false false ⟨#[]⟩) x := fun x => by
  unfold langM; rw [acc_none_same _ _ (by omega), acc_none_up _ _ _ (by decide)]
set_option maxRecDepth 100000 in
set_option maxHeartbeats 8000000 in
theorem onetable_walk (w : World) (s h : ByteArray) (EA : Nat → Addr) (hE : w.cell? ⟨0, 0, none⟩ = some (errV EA 15)) (hs : s.size ≤ 40) (hh : h.size ≤ 40) :
    Calls Tryd.prog 8 #[.string s, .string h] w fun e w' => e = .returned (.bool true) ∧ Below w.heap.size w w' := by
  have hsl : s.data.toList.length ≤ 40 := by rw [show s.data.toList.length = s.size from Array.length_toList (xs := s.data)]; exact hs
  have hhl : h.data.toList.length ≤ 40 := by rw [show h.data.toList.length = h.size from Array.length_toList (xs := h.data)]; exact hh
  have HE := Lib.hid (show ∀ X, Below w.heap.size w X → X.cell? ⟨0, 0, none⟩ = some (errV EA 15) from fun X e => (e.cell (World.block_lt_of_cell? w _ hE)).trans hE)
  have HB : RowKit.Hid (Below w.heap.size w w) := Lib.hid (Below.refl _ _)
  obtain ⟨L1, hL1⟩ : ∃ L, ∀ x, langM (exactM s.data.toList) x = L x := ⟨langM (exactM s.data.toList), fun _ => rfl⟩
  obtain ⟨L2, hL2⟩ : ∃ L, ∀ x, langM (prefixM h.data.toList) x = L x := ⟨langM (prefixM h.data.toList), fun _ => rfl⟩
  have HL1 := Lib.hid hL1
  have HL2 := Lib.hid hL2
  have HS := Lib.hid hs
  have HH := Lib.hid hh
  have HSL := Lib.hid hsl
  have HHL := Lib.hid hhl
  have i1 : ¬ (40 : Int) < (s.size : Int) := by omega
  have i2 : ¬ (40 : Int) < (h.size : Int) := by omega
  clear hE hL1 hL2 hsl hhl hs hh
  go_enter Tryd.func8, Tryd.ntmps8
  go_upto_region 3 with fail
  clear i1 i2
  have C := exact_m w s (by have := HS.out; omega)
  go_wp2_with fail
  refine C.mono ?_
  rintro e w1 ⟨p, rfl, ha, hb⟩
  clear C
  replace HB := Lib.hid (HB.out.trans (hb.mono HB.out.size))
  clear hb
  have C := tof_any w1 p _ ha (few_exact HSL.out) EA (HE.out _ HB.out)
  clear ha
  have HS0 := Lib.hid HB.out.size
  go_wp2_with fail
  refine C.mono ?_
  rintro e w2 ⟨A5, X5, ca5, cx5, T5, rfl, htab, hcan, hn, hn2, hb⟩
  clear C
  replace HB := Lib.hid (HB.out.trans (hb.mono HB.out.size))
  clear hb
  have hL := HL1.out
  have hv := tvar_of (w := w) (L := L1) htab hcan hn hn2 hL HS0.out HB.out.size
  have hb : Below w2.heap.size w2 (w2.alloc (.cells #[.int .i64 0, .slice A5 T5.n ca5, .slice X5 (256 * T5.n) cx5] 54)) := (Below.refl _ _).alloc (Nat.le_refl _) _
  replace HB := Lib.hid (HB.out.trans (hb.mono HB.out.size))
  clear hb htab hcan hn hn2 hL HS0
  go_upto_region 4 with fail
  generalize w2.alloc (.cells #[.int .i64 0, .slice A5 T5.n ca5, .slice X5 (256 * T5.n) cx5] 54) = w3 at hv HB ⊢
  generalize w2.heap.size = b5 at hv  ⊢
  have V5 := Lib.hid hv
  clear hv
  go_upto_region 6 with fail
  have C := literal_any w3 s (by have := HS.out; omega)
  go_wp2_with fail
  refine C.mono ?_
  rintro e w4 ⟨rfl, hb⟩
  clear C
  replace V5 := Lib.hid (V5.out.below hb)
  replace HB := Lib.hid (HB.out.trans (hb.mono HB.out.size))
  clear hb
  have C := wild_m w4 (strOf (litB s.data.toList)) s.data.toList 0 (by unfold strOf; rw [List.toList_toArray, List.replicate_zero, List.append_nil]) HSL.out (by decide)
  go_wp2_with fail
  refine C.mono ?_
  rintro e w5 ⟨pa, rfl, ha, hb⟩
  clear C
  replace V5 := Lib.hid (V5.out.below hb)
  replace HB := Lib.hid (HB.out.trans (hb.mono HB.out.size))
  clear hb
  have Wa := Lib.hid ha
  clear ha
  have C := fuzzy_ok w5 s 0 (by have := HS.out; omega) (by decide)
  go_wp2_with fail
  refine C.mono ?_
  rintro e w6 ⟨pf, rfl, -, ha, hb⟩
  clear C
  replace V5 := Lib.hid (V5.out.below hb)
  replace Wa := Lib.hid (Wa.out.below hb)
  replace HB := Lib.hid (HB.out.trans (hb.mono HB.out.size))
  clear hb
  have Wf := Lib.hid ha
  clear ha
  go_upto_region 9 with fail
  have hb : Below w6.heap.size w6 (w6.alloc (.cells #[.bool false, .bool true, .string s] 35)) := (Below.refl _ _).alloc (Nat.le_refl _) _
  have Bb : RowKit.Hid (BVar w (w6.alloc (.cells #[.bool false, .bool true, .string s] 35)) w6.heap.size false true s) := Lib.hid ⟨heap_alloc_new w6 _, HB.out.size⟩
  replace V5 := Lib.hid (V5.out.below hb)
  replace Wa := Lib.hid (Wa.out.below hb)
  replace Wf := Lib.hid (Wf.out.below hb)
  replace HB := Lib.hid (HB.out.trans (hb.mono HB.out.size))
  clear hb
  generalize w6.alloc (.cells #[.bool false, .bool true, .string s] 35) = w7 at Bb HB V5 Wa Wf ⊢
  generalize w6.heap.size = bb at Bb ⊢
  have ha := Wa.out.auto
  clear Wa
  have C := tof_any w7 pa _ ha (few_wild HSL.out) EA (HE.out _ HB.out)
  clear ha
  have HS0 := Lib.hid HB.out.size
  go_wp2_with fail
  refine C.mono ?_
  rintro e w8 ⟨A12, X12, ca12, cx12, T12, rfl, htab, hcan, hn, hn2, hb⟩
  clear C
  replace V5 := Lib.hid (V5.out.below hb)
  replace Bb := Lib.hid (Bb.out.below hb)
  replace Wf := Lib.hid (Wf.out.below hb)
  replace HB := Lib.hid (HB.out.trans (hb.mono HB.out.size))
  clear hb
  have hL : ∀ x, langM _ x = L1 x := fun x => (lang_wild _ HSL.out x).trans (HL1.out x)
  have hv := tvar_of (w := w) (L := L1) htab hcan hn hn2 hL HS0.out HB.out.size
  have hb : Below w8.heap.size w8 (w8.alloc (.cells #[.int .i64 0, .slice A12 T12.n ca12, .slice X12 (256 * T12.n) cx12] 54)) := (Below.refl _ _).alloc (Nat.le_refl _) _
  have N5_12 : RowKit.Hid (b5 ≠ w8.heap.size) := Lib.hid (Nat.ne_of_lt (lt_of_heap V5.out.blk))
  replace V5 := Lib.hid (V5.out.below hb)
  replace Bb := Lib.hid (Bb.out.below hb)
  replace Wf := Lib.hid (Wf.out.below hb)
  replace HB := Lib.hid (HB.out.trans (hb.mono HB.out.size))
  clear hb htab hcan hn hn2 hL HS0
  go_upto_region 10 with fail
  generalize w8.alloc (.cells #[.int .i64 0, .slice A12 T12.n ca12, .slice X12 (256 * T12.n) cx12] 54) = w9 at hv HB V5 Bb Wf ⊢
  generalize w8.heap.size = b12 at hv N5_12 ⊢
  have V12 := Lib.hid hv
  clear hv
  have ha := Wf.out
  clear Wf
  have C := tof_any w9 pf _ ha (few_fuzz HSL.out) EA (HE.out _ HB.out)
  clear ha
  have HS0 := Lib.hid HB.out.size
  go_wp2_with fail
  refine C.mono ?_
  rintro e w10 ⟨A14, X14, ca14, cx14, T14, rfl, htab, hcan, hn, hn2, hb⟩
  clear C
  replace V5 := Lib.hid (V5.out.below hb)
  replace V12 := Lib.hid (V12.out.below hb)
  replace Bb := Lib.hid (Bb.out.below hb)
  replace HB := Lib.hid (HB.out.trans (hb.mono HB.out.size))
  clear hb
  have hL : ∀ x, langM _ x = L1 x := fun x => (lang_fuzz _ HSL.out x).trans (HL1.out x)
  have hv := tvar_of (w := w) (L := L1) htab hcan hn hn2 hL HS0.out HB.out.size
  have hb : Below w10.heap.size w10 (w10.alloc (.cells #[.int .i64 0, .slice A14 T14.n ca14, .slice X14 (256 * T14.n) cx14] 54)) := (Below.refl _ _).alloc (Nat.le_refl _) _
  have N5_14 : RowKit.Hid (b5 ≠ w10.heap.size) := Lib.hid (Nat.ne_of_lt (lt_of_heap V5.out.blk))
  have N12_14 : RowKit.Hid (b12 ≠ w10.heap.size) := Lib.hid (Nat.ne_of_lt (lt_of_heap V12.out.blk))
  replace V5 := Lib.hid (V5.out.below hb)
  replace V12 := Lib.hid (V12.out.below hb)
  replace Bb := Lib.hid (Bb.out.below hb)
  replace HB := Lib.hid (HB.out.trans (hb.mono HB.out.size))
  clear hb htab hcan hn hn2 hL HS0
  go_upto_region 11 with fail
  generalize w10.alloc (.cells #[.int .i64 0, .slice A14 T14.n ca14, .slice X14 (256 * T14.n) cx14] 54) = w11 at hv HB V5 V12 Bb ⊢
  generalize w10.heap.size = b14 at hv N5_14 N12_14 ⊢
  have V14 := Lib.hid hv
  clear hv
  obtain ⟨c0, c1, c2⟩ := Bb.out.cells
  have C := span_m w11 false true s false true s (by have := HS.out; omega) (by have := HS.out; omega)
  go_wp2_with fail
  refine C.mono ?_
  rintro e w12 ⟨p, rfl, ha, hb⟩
  clear C
  replace V5 := Lib.hid (V5.out.below hb)
  replace V12 := Lib.hid (V12.out.below hb)
  replace V14 := Lib.hid (V14.out.below hb)
  replace Bb := Lib.hid (Bb.out.below hb)
  replace HB := Lib.hid (HB.out.trans (hb.mono HB.out.size))
  clear hb
  clear c0 c1 c2
  have C := tof_any w12 p _ ha (few_span _ _ _ _ _ _ HS.out HS.out) EA (HE.out _ HB.out)
  clear ha
  have HS0 := Lib.hid HB.out.size
  go_wp2_with fail
  refine C.mono ?_
  rintro e w13 ⟨A16, X16, ca16, cx16, T16, rfl, htab, hcan, hn, hn2, hb⟩
  clear C
  replace V5 := Lib.hid (V5.out.below hb)
  replace V12 := Lib.hid (V12.out.below hb)
  replace V14 := Lib.hid (V14.out.below hb)
  replace Bb := Lib.hid (Bb.out.below hb)
  replace HB := Lib.hid (HB.out.trans (hb.mono HB.out.size))
  clear hb
  have hL : ∀ x, langM _ x = L1 x := fun x => (lang_same s HS.out HSL.out x).trans (HL1.out x)
  have hv := tvar_of (w := w) (L := L1) htab hcan hn hn2 hL HS0.out HB.out.size
  have hb : Below w13.heap.size w13 (w13.alloc (.cells #[.int .i64 0, .slice A16 T16.n ca16, .slice X16 (256 * T16.n) cx16] 54)) := (Below.refl _ _).alloc (Nat.le_refl _) _
  have N5_16 : RowKit.Hid (b5 ≠ w13.heap.size) := Lib.hid (Nat.ne_of_lt (lt_of_heap V5.out.blk))
  have N12_16 : RowKit.Hid (b12 ≠ w13.heap.size) := Lib.hid (Nat.ne_of_lt (lt_of_heap V12.out.blk))
  have N14_16 : RowKit.Hid (b14 ≠ w13.heap.size) := Lib.hid (Nat.ne_of_lt (lt_of_heap V14.out.blk))
  replace V5 := Lib.hid (V5.out.below hb)
  replace V12 := Lib.hid (V12.out.below hb)
  replace V14 := Lib.hid (V14.out.below hb)
  replace Bb := Lib.hid (Bb.out.below hb)
  replace HB := Lib.hid (HB.out.trans (hb.mono HB.out.size))
  clear hb htab hcan hn hn2 hL HS0
  go_upto_region 12 with fail
  generalize w13.alloc (.cells #[.int .i64 0, .slice A16 T16.n ca16, .slice X16 (256 * T16.n) cx16] 54) = w14 at hv HB V5 V12 V14 Bb ⊢
  generalize w13.heap.size = b16 at hv N5_16 N12_16 N14_16 ⊢
  have V16 := Lib.hid hv
  clear hv
  obtain ⟨c0, c1, c2⟩ := V12.out.cells
  obtain ⟨d0, d1, d2⟩ := V5.out.cells
  have C := samet_v V12.out V5.out
  go_wp2_with fail
  refine C.mono ?_
  rintro e w15 ⟨rfl, hb⟩
  clear C c0 c1 c2 d0 d1 d2
  replace V5 := Lib.hid (V5.out.below hb)
  replace V12 := Lib.hid (V12.out.below hb)
  replace V14 := Lib.hid (V14.out.below hb)
  replace V16 := Lib.hid (V16.out.below hb)
  replace Bb := Lib.hid (Bb.out.below hb)
  replace HB := Lib.hid (HB.out.trans (hb.mono HB.out.size))
  clear hb
  obtain ⟨c0, c1, c2⟩ := V14.out.cells
  obtain ⟨d0, d1, d2⟩ := V5.out.cells
  have C := samet_v V14.out V5.out
  go_wp2_with fail
  refine C.mono ?_
  rintro e w16 ⟨rfl, hb⟩
  clear C c0 c1 c2 d0 d1 d2
  replace V5 := Lib.hid (V5.out.below hb)
  replace V12 := Lib.hid (V12.out.below hb)
  replace V14 := Lib.hid (V14.out.below hb)
  replace V16 := Lib.hid (V16.out.below hb)
  replace Bb := Lib.hid (Bb.out.below hb)
  replace HB := Lib.hid (HB.out.trans (hb.mono HB.out.size))
  clear hb
  obtain ⟨c0, c1, c2⟩ := V16.out.cells
  obtain ⟨d0, d1, d2⟩ := V5.out.cells
  have C := samet_v V16.out V5.out
  go_wp2_with fail
  refine C.mono ?_
  rintro e w17 ⟨rfl, hb⟩
  clear C c0 c1 c2 d0 d1 d2
  replace V5 := Lib.hid (V5.out.below hb)
  replace V12 := Lib.hid (V12.out.below hb)
  replace V14 := Lib.hid (V14.out.below hb)
  replace V16 := Lib.hid (V16.out.below hb)
  replace Bb := Lib.hid (Bb.out.below hb)
  replace HB := Lib.hid (HB.out.trans (hb.mono HB.out.size))
  clear hb
  clear V5
  clear N5_12 N5_14 N5_16
  go_upto_region 14 with fail
  have hb : Below w17.heap.size w17 (w17.alloc (.cells #[.bool true, .bool false, .string ⟨#[]⟩] 35)) := (Below.refl _ _).alloc (Nat.le_refl _) _
  have Ball : RowKit.Hid (BVar w (w17.alloc (.cells #[.bool true, .bool false, .string ⟨#[]⟩] 35)) w17.heap.size true false ⟨#[]⟩) := Lib.hid ⟨heap_alloc_new w17 _, HB.out.size⟩
  replace V12 := Lib.hid (V12.out.below hb)
  replace V14 := Lib.hid (V14.out.below hb)
  replace V16 := Lib.hid (V16.out.below hb)
  replace Bb := Lib.hid (Bb.out.below hb)
  replace HB := Lib.hid (HB.out.trans (hb.mono HB.out.size))
  clear hb
  go_upto_region 15 with fail
  generalize w17.alloc (.cells #[.bool true, .bool false, .string ⟨#[]⟩] 35) = w18 at Ball HB V12 V14 V16 Bb ⊢
  generalize w17.heap.size = ball at Ball ⊢
  have C := prefix_m w18 h (by have := HH.out; omega)
  go_wp2_with fail
  refine C.mono ?_
  rintro e w19 ⟨p, rfl, ha, hb⟩
  clear C
  replace V12 := Lib.hid (V12.out.below hb)
  replace V14 := Lib.hid (V14.out.below hb)
  replace V16 := Lib.hid (V16.out.below hb)
  replace Bb := Lib.hid (Bb.out.below hb)
  replace Ball := Lib.hid (Ball.out.below hb)
  replace HB := Lib.hid (HB.out.trans (hb.mono HB.out.size))
  clear hb
  have C := tof_any w19 p _ ha (few_prefix HHL.out) EA (HE.out _ HB.out)
  clear ha
  have HS0 := Lib.hid HB.out.size
  go_wp2_with fail
  refine C.mono ?_
  rintro e w20 ⟨A19, X19, ca19, cx19, T19, rfl, htab, hcan, hn, hn2, hb⟩
  clear C
  replace V12 := Lib.hid (V12.out.below hb)
  replace V14 := Lib.hid (V14.out.below hb)
  replace V16 := Lib.hid (V16.out.below hb)
  replace Bb := Lib.hid (Bb.out.below hb)
  replace Ball := Lib.hid (Ball.out.below hb)
  replace HB := Lib.hid (HB.out.trans (hb.mono HB.out.size))
  clear hb
  have hL := HL2.out
  have hv := tvar_of (w := w) (L := L2) htab hcan hn hn2 hL HS0.out HB.out.size
  have hb : Below w20.heap.size w20 (w20.alloc (.cells #[.int .i64 0, .slice A19 T19.n ca19, .slice X19 (256 * T19.n) cx19] 54)) := (Below.refl _ _).alloc (Nat.le_refl _) _
  have N12_19 : RowKit.Hid (b12 ≠ w20.heap.size) := Lib.hid (Nat.ne_of_lt (lt_of_heap V12.out.blk))
  have N14_19 : RowKit.Hid (b14 ≠ w20.heap.size) := Lib.hid (Nat.ne_of_lt (lt_of_heap V14.out.blk))
  have N16_19 : RowKit.Hid (b16 ≠ w20.heap.size) := Lib.hid (Nat.ne_of_lt (lt_of_heap V16.out.blk))
  replace V12 := Lib.hid (V12.out.below hb)
  replace V14 := Lib.hid (V14.out.below hb)
  replace V16 := Lib.hid (V16.out.below hb)
  replace Bb := Lib.hid (Bb.out.below hb)
  replace Ball := Lib.hid (Ball.out.below hb)
  replace HB := Lib.hid (HB.out.trans (hb.mono HB.out.size))
  clear hb htab hcan hn hn2 hL HS0
  go_upto_region 16 with fail
  generalize w20.alloc (.cells #[.int .i64 0, .slice A19 T19.n ca19, .slice X19 (256 * T19.n) cx19] 54) = w21 at hv HB V12 V14 V16 Bb Ball ⊢
  generalize w20.heap.size = b19 at hv N12_19 N14_19 N16_19 ⊢
  have V19 := Lib.hid hv
  clear hv
  have C := literal_any w21 h (by have := HH.out; omega)
  go_wp2_with fail
  refine C.mono ?_
  rintro e w22 ⟨rfl, hb⟩
  clear C
  replace V12 := Lib.hid (V12.out.below hb)
  replace V14 := Lib.hid (V14.out.below hb)
  replace V16 := Lib.hid (V16.out.below hb)
  replace V19 := Lib.hid (V19.out.below hb)
  replace Bb := Lib.hid (Bb.out.below hb)
  replace Ball := Lib.hid (Ball.out.below hb)
  replace HB := Lib.hid (HB.out.trans (hb.mono HB.out.size))
  clear hb
  have q9 : (strOf (litB h.data.toList)).size + (⟨#[42]⟩ : ByteArray).size ≤ 9223372036854775807 := by have h1 := litB_len h.data.toList; have h2 := HHL.out; rw [strOf_size, show (⟨#[42]⟩ : ByteArray).size = 1 from rfl]; omega
  have C := wild_m w22 (strOf (litB h.data.toList) ++ ⟨#[42]⟩) h.data.toList 1 (by unfold strOf; rw [ByteArray.data_append, Array.toList_append, List.toList_toArray]; rfl) HHL.out (by decide)
  go_wp2_with fail
  refine C.mono ?_
  rintro e w23 ⟨pc, rfl, ha, hb⟩
  clear C
  replace V12 := Lib.hid (V12.out.below hb)
  replace V14 := Lib.hid (V14.out.below hb)
  replace V16 := Lib.hid (V16.out.below hb)
  replace V19 := Lib.hid (V19.out.below hb)
  replace Bb := Lib.hid (Bb.out.below hb)
  replace Ball := Lib.hid (Ball.out.below hb)
  replace HB := Lib.hid (HB.out.trans (hb.mono HB.out.size))
  clear hb
  have Wc := Lib.hid ha
  clear ha
  clear q9
  have C := literal_any w23 h (by have := HH.out; omega)
  go_wp2_with fail
  refine C.mono ?_
  rintro e w24 ⟨rfl, hb⟩
  clear C
  replace V12 := Lib.hid (V12.out.below hb)
  replace V14 := Lib.hid (V14.out.below hb)
  replace V16 := Lib.hid (V16.out.below hb)
  replace V19 := Lib.hid (V19.out.below hb)
  replace Bb := Lib.hid (Bb.out.below hb)
  replace Ball := Lib.hid (Ball.out.below hb)
  replace Wc := Lib.hid (Wc.out.below hb)
  replace HB := Lib.hid (HB.out.trans (hb.mono HB.out.size))
  clear hb
  have q9 : (strOf (litB h.data.toList)).size + (⟨#[42, 42, 42]⟩ : ByteArray).size ≤ 9223372036854775807 := by have h1 := litB_len h.data.toList; have h2 := HHL.out; rw [strOf_size, show (⟨#[42, 42, 42]⟩ : ByteArray).size = 3 from rfl]; omega
  have Wdlo : RowKit.Hid (b12 < w24.heap.size) := Lib.hid (lt_of_heap V12.out.blk)
  have C := wild_m w24 (strOf (litB h.data.toList) ++ ⟨#[42, 42, 42]⟩) h.data.toList 3 (by unfold strOf; rw [ByteArray.data_append, Array.toList_append, List.toList_toArray]; rfl) HHL.out (by decide)
  go_wp2_with fail
  refine C.mono ?_
  rintro e w25 ⟨pd, rfl, ha, hb⟩
  clear C
  replace V12 := Lib.hid (V12.out.below hb)
  replace V14 := Lib.hid (V14.out.below hb)
  replace V16 := Lib.hid (V16.out.below hb)
  replace V19 := Lib.hid (V19.out.below hb)
  replace Bb := Lib.hid (Bb.out.below hb)
  replace Ball := Lib.hid (Ball.out.below hb)
  replace Wc := Lib.hid (Wc.out.below hb)
  replace HB := Lib.hid (HB.out.trans (hb.mono HB.out.size))
  clear hb
  have Wd := Lib.hid ha
  clear ha
  clear q9
  have ha := Wc.out.auto
  clear Wc
  have C := tof_any w25 pc _ ha (few_wild HHL.out) EA (HE.out _ HB.out)
  clear ha
  have HS0 := Lib.hid HB.out.size
  go_wp2_with fail
  refine C.mono ?_
  rintro e w26 ⟨Ac, Xc, cac, cxc, Tc, rfl, htab, hcan, hn, hn2, hb⟩
  clear C
  replace V12 := Lib.hid (V12.out.below hb)
  replace V14 := Lib.hid (V14.out.below hb)
  replace V16 := Lib.hid (V16.out.below hb)
  replace V19 := Lib.hid (V19.out.below hb)
  replace Bb := Lib.hid (Bb.out.below hb)
  replace Ball := Lib.hid (Ball.out.below hb)
  replace Wd := Lib.hid (Wd.out.below hb)
  replace HB := Lib.hid (HB.out.trans (hb.mono HB.out.size))
  clear hb
  have hL : ∀ x, langM _ x = L2 x := fun x => (lang_head _ HHL.out 0 x).trans (HL2.out x)
  obtain ⟨r0, r1, r2, f0, f1, f2⟩ := V12.out.ahead
  obtain ⟨w27, hZ⟩ : ∃ Z, Z = put3 w26 b12 (.int .i64 0) (.slice Ac Tc.n cac) (.slice Xc (256 * Tc.n) cxc) := ⟨_, rfl⟩
  have V14' := Lib.hid (V14.out.put3 V12.out.blk (fun e => N12_14.out e.symm) (.int .i64 0) (.slice Ac Tc.n cac) (.slice Xc (256 * Tc.n) cxc))
  have V16' := Lib.hid (V16.out.put3 V12.out.blk (fun e => N12_16.out e.symm) (.int .i64 0) (.slice Ac Tc.n cac) (.slice Xc (256 * Tc.n) cxc))
  have V19' := Lib.hid (V19.out.put3 V12.out.blk (fun e => N12_19.out e.symm) (.int .i64 0) (.slice Ac Tc.n cac) (.slice Xc (256 * Tc.n) cxc))
  have Bb' := Lib.hid (Bb.out.put3 V12.out.blk (.int .i64 0) (.slice Ac Tc.n cac) (.slice Xc (256 * Tc.n) cxc))
  have Ball' := Lib.hid (Ball.out.put3 V12.out.blk (.int .i64 0) (.slice Ac Tc.n cac) (.slice Xc (256 * Tc.n) cxc))
  have Wd' := Lib.hid (Wd.out.put3 Wdlo.out (.int .i64 0) (.slice Ac Tc.n cac) (.slice Xc (256 * Tc.n) cxc))
  have HB' : RowKit.Hid (Below w.heap.size w (put3 w26 b12 (.int .i64 0) (.slice Ac Tc.n cac) (.slice Xc (256 * Tc.n) cxc))) := Lib.hid (put3_below (c0 := .bool true) (c1 := .bool true) (c2 := .bool true) HB.out V12.out.hb)
  have V12' := Lib.hid (tvar_put (L := L2) V12.out htab hcan hn hn2 hL HS0.out)
  rw [← hZ] at V12' V14' V16' V19' Bb' Ball' Wd' HB'
  clear htab hcan hn hn2 hL HS0 V12 V14 V16 V19 Bb Ball Wd HB
  have V12 := V12'
  clear V12'
  have V14 := V14'
  clear V14'
  have V16 := V16'
  clear V16'
  have V19 := V19'
  clear V19'
  have Bb := Bb'
  clear Bb'
  have Ball := Ball'
  clear Ball'
  have Wd := Wd'
  clear Wd'
  have HB := HB'
  clear HB'
  go_upto_region 19 with fail
  rw [show ((w26.setCell ⟨b12, 0, none⟩ (.int .i64 0)).setCell ⟨b12, 1, none⟩ (.slice Ac Tc.n cac)).setCell ⟨b12, 2, none⟩ (.slice Xc (256 * Tc.n) cxc) = w27 from hZ.symm]
  clear hZ r0 r1 r2 f0 f1 f2
  have ha := Wd.out.auto
  clear Wd
  have C := tof_any w27 pd _ ha (few_wild HHL.out) EA (HE.out _ HB.out)
  clear ha
  have HS0 := Lib.hid HB.out.size
  go_wp2_with fail
  refine C.mono ?_
  rintro e w28 ⟨Ad, Xd, cad, cxd, Td, rfl, htab, hcan, hn, hn2, hb⟩
  clear C
  replace V12 := Lib.hid (V12.out.below hb)
  replace V14 := Lib.hid (V14.out.below hb)
  replace V16 := Lib.hid (V16.out.below hb)
  replace V19 := Lib.hid (V19.out.below hb)
  replace Bb := Lib.hid (Bb.out.below hb)
  replace Ball := Lib.hid (Ball.out.below hb)
  replace HB := Lib.hid (HB.out.trans (hb.mono HB.out.size))
  clear hb
  have hL : ∀ x, langM _ x = L2 x := fun x => (lang_head _ HHL.out 2 x).trans (HL2.out x)
  obtain ⟨r0, r1, r2, f0, f1, f2⟩ := V14.out.ahead
  obtain ⟨w29, hZ⟩ : ∃ Z, Z = put3 w28 b14 (.int .i64 0) (.slice Ad Td.n cad) (.slice Xd (256 * Td.n) cxd) := ⟨_, rfl⟩
  have V12' := Lib.hid (V12.out.put3 V14.out.blk N12_14.out (.int .i64 0) (.slice Ad Td.n cad) (.slice Xd (256 * Td.n) cxd))
  have V16' := Lib.hid (V16.out.put3 V14.out.blk (fun e => N14_16.out e.symm) (.int .i64 0) (.slice Ad Td.n cad) (.slice Xd (256 * Td.n) cxd))
  have V19' := Lib.hid (V19.out.put3 V14.out.blk (fun e => N14_19.out e.symm) (.int .i64 0) (.slice Ad Td.n cad) (.slice Xd (256 * Td.n) cxd))
  have Bb' := Lib.hid (Bb.out.put3 V14.out.blk (.int .i64 0) (.slice Ad Td.n cad) (.slice Xd (256 * Td.n) cxd))
  have Ball' := Lib.hid (Ball.out.put3 V14.out.blk (.int .i64 0) (.slice Ad Td.n cad) (.slice Xd (256 * Td.n) cxd))
  have HB' : RowKit.Hid (Below w.heap.size w (put3 w28 b14 (.int .i64 0) (.slice Ad Td.n cad) (.slice Xd (256 * Td.n) cxd))) := Lib.hid (put3_below (c0 := .bool true) (c1 := .bool true) (c2 := .bool true) HB.out V14.out.hb)
  have V14' := Lib.hid (tvar_put (L := L2) V14.out htab hcan hn hn2 hL HS0.out)
  rw [← hZ] at V12' V14' V16' V19' Bb' Ball' HB'
  clear htab hcan hn hn2 hL HS0 V12 V14 V16 V19 Bb Ball HB
  have V12 := V12'
  clear V12'
  have V14 := V14'
  clear V14'
  have V16 := V16'
  clear V16'
  have V19 := V19'
  clear V19'
  have Bb := Bb'
  clear Bb'
  have Ball := Ball'
  clear Ball'
  have HB := HB'
  clear HB'
  go_upto_region 20 with fail
  rw [show ((w28.setCell ⟨b14, 0, none⟩ (.int .i64 0)).setCell ⟨b14, 1, none⟩ (.slice Ad Td.n cad)).setCell ⟨b14, 2, none⟩ (.slice Xd (256 * Td.n) cxd) = w29 from hZ.symm]
  clear hZ r0 r1 r2 f0 f1 f2
  obtain ⟨c0, c1, c2⟩ := V12.out.cells
  obtain ⟨d0, d1, d2⟩ := V19.out.cells
  have C := samet_v V12.out V19.out
  go_wp2_with fail
  refine C.mono ?_
  rintro e w30 ⟨rfl, hb⟩
  clear C c0 c1 c2 d0 d1 d2
  replace V12 := Lib.hid (V12.out.below hb)
  replace V14 := Lib.hid (V14.out.below hb)
  replace V16 := Lib.hid (V16.out.below hb)
  replace V19 := Lib.hid (V19.out.below hb)
  replace Bb := Lib.hid (Bb.out.below hb)
  replace Ball := Lib.hid (Ball.out.below hb)
  replace HB := Lib.hid (HB.out.trans (hb.mono HB.out.size))
  clear hb
  obtain ⟨c0, c1, c2⟩ := V14.out.cells
  obtain ⟨d0, d1, d2⟩ := V19.out.cells
  have C := samet_v V14.out V19.out
  go_wp2_with fail
  refine C.mono ?_
  rintro e w31 ⟨rfl, hb⟩
  clear C c0 c1 c2 d0 d1 d2
  replace V12 := Lib.hid (V12.out.below hb)
  replace V14 := Lib.hid (V14.out.below hb)
  replace V16 := Lib.hid (V16.out.below hb)
  replace V19 := Lib.hid (V19.out.below hb)
  replace Bb := Lib.hid (Bb.out.below hb)
  replace Ball := Lib.hid (Ball.out.below hb)
  replace HB := Lib.hid (HB.out.trans (hb.mono HB.out.size))
  clear hb
  clear V19
  clear N12_19 N14_19 N16_19 Wdlo HHL HH HL2
  go_upto_region 22 with fail
  obtain ⟨L3, hL3⟩ : ∃ L, ∀ x, langM (prefixM []) x = L x := ⟨langM (prefixM []), fun _ => rfl⟩
  have HL3 := Lib.hid hL3
  clear hL3
  have C := prefix_m w31 ⟨#[]⟩ (by decide)
  go_wp2_with fail
  refine C.mono ?_
  rintro e w32 ⟨p, rfl, ha, hb⟩
  clear C
  replace V12 := Lib.hid (V12.out.below hb)
  replace V14 := Lib.hid (V14.out.below hb)
  replace V16 := Lib.hid (V16.out.below hb)
  replace Bb := Lib.hid (Bb.out.below hb)
  replace Ball := Lib.hid (Ball.out.below hb)
  replace HB := Lib.hid (HB.out.trans (hb.mono HB.out.size))
  clear hb
  have C := tof_any w32 p _ ha (few_prefix (w := []) (by decide)) EA (HE.out _ HB.out)
  clear ha
  have HS0 := Lib.hid HB.out.size
  go_wp2_with fail
  refine C.mono ?_
  rintro e w33 ⟨A22, X22, ca22, cx22, T22, rfl, htab, hcan, hn, hn2, hb⟩
  clear C
  replace V12 := Lib.hid (V12.out.below hb)
  replace V14 := Lib.hid (V14.out.below hb)
  replace V16 := Lib.hid (V16.out.below hb)
  replace Bb := Lib.hid (Bb.out.below hb)
  replace Ball := Lib.hid (Ball.out.below hb)
  replace HB := Lib.hid (HB.out.trans (hb.mono HB.out.size))
  clear hb
  have hL := HL3.out
  have hv := tvar_of (w := w) (L := L3) htab hcan hn hn2 hL HS0.out HB.out.size
  have hb : Below w33.heap.size w33 (w33.alloc (.cells #[.int .i64 0, .slice A22 T22.n ca22, .slice X22 (256 * T22.n) cx22] 54)) := (Below.refl _ _).alloc (Nat.le_refl _) _
  have N12_22 : RowKit.Hid (b12 ≠ w33.heap.size) := Lib.hid (Nat.ne_of_lt (lt_of_heap V12.out.blk))
  have N14_22 : RowKit.Hid (b14 ≠ w33.heap.size) := Lib.hid (Nat.ne_of_lt (lt_of_heap V14.out.blk))
  have N16_22 : RowKit.Hid (b16 ≠ w33.heap.size) := Lib.hid (Nat.ne_of_lt (lt_of_heap V16.out.blk))
  replace V12 := Lib.hid (V12.out.below hb)
  replace V14 := Lib.hid (V14.out.below hb)
  replace V16 := Lib.hid (V16.out.below hb)
  replace Bb := Lib.hid (Bb.out.below hb)
  replace Ball := Lib.hid (Ball.out.below hb)
  replace HB := Lib.hid (HB.out.trans (hb.mono HB.out.size))
  clear hb htab hcan hn hn2 hL HS0
  go_upto_region 23 with fail
  generalize w33.alloc (.cells #[.int .i64 0, .slice A22 T22.n ca22, .slice X22 (256 * T22.n) cx22] 54) = w34 at hv HB V12 V14 V16 Bb Ball ⊢
  generalize w33.heap.size = b22 at hv N12_22 N14_22 N16_22 ⊢
  have V22 := Lib.hid hv
  clear hv
  have C := wild_m w34 ⟨#[42]⟩ [] 1 rfl (by decide) (by decide)
  go_wp2_with fail
  refine C.mono ?_
  rintro e w35 ⟨pe, rfl, ha, hb⟩
  clear C
  replace V12 := Lib.hid (V12.out.below hb)
  replace V14 := Lib.hid (V14.out.below hb)
  replace V16 := Lib.hid (V16.out.below hb)
  replace V22 := Lib.hid (V22.out.below hb)
  replace Bb := Lib.hid (Bb.out.below hb)
  replace Ball := Lib.hid (Ball.out.below hb)
  replace HB := Lib.hid (HB.out.trans (hb.mono HB.out.size))
  clear hb
  have We := Lib.hid ha
  clear ha
  have ha := We.out.auto
  clear We
  have C := tof_any w35 pe _ ha (few_wild (w := []) (by decide)) EA (HE.out _ HB.out)
  clear ha
  have HS0 := Lib.hid HB.out.size
  go_wp2_with fail
  refine C.mono ?_
  rintro e w36 ⟨Ae, Xe, cae, cxe, Te, rfl, htab, hcan, hn, hn2, hb⟩
  clear C
  replace V12 := Lib.hid (V12.out.below hb)
  replace V14 := Lib.hid (V14.out.below hb)
  replace V16 := Lib.hid (V16.out.below hb)
  replace V22 := Lib.hid (V22.out.below hb)
  replace Bb := Lib.hid (Bb.out.below hb)
  replace Ball := Lib.hid (Ball.out.below hb)
  replace HB := Lib.hid (HB.out.trans (hb.mono HB.out.size))
  clear hb
  have hL : ∀ x, langM _ x = L3 x := fun x => (lang_head [] (by decide) 0 x).trans (HL3.out x)
  obtain ⟨r0, r1, r2, f0, f1, f2⟩ := V12.out.ahead
  obtain ⟨w37, hZ⟩ : ∃ Z, Z = put3 w36 b12 (.int .i64 0) (.slice Ae Te.n cae) (.slice Xe (256 * Te.n) cxe) := ⟨_, rfl⟩
  have V14' := Lib.hid (V14.out.put3 V12.out.blk (fun e => N12_14.out e.symm) (.int .i64 0) (.slice Ae Te.n cae) (.slice Xe (256 * Te.n) cxe))
  have V16' := Lib.hid (V16.out.put3 V12.out.blk (fun e => N12_16.out e.symm) (.int .i64 0) (.slice Ae Te.n cae) (.slice Xe (256 * Te.n) cxe))
  have V22' := Lib.hid (V22.out.put3 V12.out.blk (fun e => N12_22.out e.symm) (.int .i64 0) (.slice Ae Te.n cae) (.slice Xe (256 * Te.n) cxe))
  have Bb' := Lib.hid (Bb.out.put3 V12.out.blk (.int .i64 0) (.slice Ae Te.n cae) (.slice Xe (256 * Te.n) cxe))
  have Ball' := Lib.hid (Ball.out.put3 V12.out.blk (.int .i64 0) (.slice Ae Te.n cae) (.slice Xe (256 * Te.n) cxe))
  have HB' : RowKit.Hid (Below w.heap.size w (put3 w36 b12 (.int .i64 0) (.slice Ae Te.n cae) (.slice Xe (256 * Te.n) cxe))) := Lib.hid (put3_below (c0 := .bool true) (c1 := .bool true) (c2 := .bool true) HB.out V12.out.hb)
  have V12' := Lib.hid (tvar_put (L := L3) V12.out htab hcan hn hn2 hL HS0.out)
  rw [← hZ] at V12' V14' V16' V22' Bb' Ball' HB'
  clear htab hcan hn hn2 hL HS0 V12 V14 V16 V22 Bb Ball HB
  have V12 := V12'
  clear V12'
  have V14 := V14'
  clear V14'
  have V16 := V16'
  clear V16'
  have V22 := V22'
  clear V22'
  have Bb := Bb'
  clear Bb'
  have Ball := Ball'
  clear Ball'
  have HB := HB'
  clear HB'
  go_upto_region 25 with fail
  rw [show ((w36.setCell ⟨b12, 0, none⟩ (.int .i64 0)).setCell ⟨b12, 1, none⟩ (.slice Ae Te.n cae)).setCell ⟨b12, 2, none⟩ (.slice Xe (256 * Te.n) cxe) = w37 from hZ.symm]
  clear hZ r0 r1 r2 f0 f1 f2
  obtain ⟨c00, c01, c02⟩ := Ball.out.cells
  have C := span_m w37 true false ⟨#[]⟩ true false ⟨#[]⟩ (by decide) (by decide)
  go_wp2_with fail
  refine C.mono ?_
  rintro e w38 ⟨p, rfl, ha, hb⟩
  clear C
  replace V12 := Lib.hid (V12.out.below hb)
  replace V14 := Lib.hid (V14.out.below hb)
  replace V16 := Lib.hid (V16.out.below hb)
  replace V22 := Lib.hid (V22.out.below hb)
  replace Bb := Lib.hid (Bb.out.below hb)
  replace Ball := Lib.hid (Ball.out.below hb)
  replace HB := Lib.hid (HB.out.trans (hb.mono HB.out.size))
  clear hb
  clear c00 c01 c02
  have C := tof_any w38 p _ ha (few_span _ _ _ _ _ _ (by decide) (by decide)) EA (HE.out _ HB.out)
  clear ha
  have HS0 := Lib.hid HB.out.size
  go_wp2_with fail
  refine C.mono ?_
  rintro e w39 ⟨Af, Xf, caf, cxf, Tf, rfl, htab, hcan, hn, hn2, hb⟩
  clear C
  replace V12 := Lib.hid (V12.out.below hb)
  replace V14 := Lib.hid (V14.out.below hb)
  replace V16 := Lib.hid (V16.out.below hb)
  replace V22 := Lib.hid (V22.out.below hb)
  replace Bb := Lib.hid (Bb.out.below hb)
  replace Ball := Lib.hid (Ball.out.below hb)
  replace HB := Lib.hid (HB.out.trans (hb.mono HB.out.size))
  clear hb
  have hL : ∀ x, langM _ x = L3 x := fun x => (lang_open x).trans (HL3.out x)
  obtain ⟨r0, r1, r2, f0, f1, f2⟩ := V14.out.ahead
  obtain ⟨w40, hZ⟩ : ∃ Z, Z = put3 w39 b14 (.int .i64 0) (.slice Af Tf.n caf) (.slice Xf (256 * Tf.n) cxf) := ⟨_, rfl⟩
  have V12' := Lib.hid (V12.out.put3 V14.out.blk N12_14.out (.int .i64 0) (.slice Af Tf.n caf) (.slice Xf (256 * Tf.n) cxf))
  have V16' := Lib.hid (V16.out.put3 V14.out.blk (fun e => N14_16.out e.symm) (.int .i64 0) (.slice Af Tf.n caf) (.slice Xf (256 * Tf.n) cxf))
  have V22' := Lib.hid (V22.out.put3 V14.out.blk (fun e => N14_22.out e.symm) (.int .i64 0) (.slice Af Tf.n caf) (.slice Xf (256 * Tf.n) cxf))
  have Bb' := Lib.hid (Bb.out.put3 V14.out.blk (.int .i64 0) (.slice Af Tf.n caf) (.slice Xf (256 * Tf.n) cxf))
  have Ball' := Lib.hid (Ball.out.put3 V14.out.blk (.int .i64 0) (.slice Af Tf.n caf) (.slice Xf (256 * Tf.n) cxf))
  have HB' : RowKit.Hid (Below w.heap.size w (put3 w39 b14 (.int .i64 0) (.slice Af Tf.n caf) (.slice Xf (256 * Tf.n) cxf))) := Lib.hid (put3_below (c0 := .bool true) (c1 := .bool true) (c2 := .bool true) HB.out V14.out.hb)
  have V14' := Lib.hid (tvar_put (L := L3) V14.out htab hcan hn hn2 hL HS0.out)
  rw [← hZ] at V12' V14' V16' V22' Bb' Ball' HB'
  clear htab hcan hn hn2 hL HS0 V12 V14 V16 V22 Bb Ball HB
  have V12 := V12'
  clear V12'
  have V14 := V14'
  clear V14'
  have V16 := V16'
  clear V16'
  have V22 := V22'
  clear V22'
  have Bb := Bb'
  clear Bb'
  have Ball := Ball'
  clear Ball'
  have HB := HB'
  clear HB'
  go_upto_region 26 with fail
  rw [show ((w39.setCell ⟨b14, 0, none⟩ (.int .i64 0)).setCell ⟨b14, 1, none⟩ (.slice Af Tf.n caf)).setCell ⟨b14, 2, none⟩ (.slice Xf (256 * Tf.n) cxf) = w40 from hZ.symm]
  clear hZ r0 r1 r2 f0 f1 f2
  obtain ⟨c00, c01, c02⟩ := Ball.out.cells
  have C := span_m w40 false true ⟨#[]⟩ true false ⟨#[]⟩ (by decide) (by decide)
  go_wp2_with fail
  refine C.mono ?_
  rintro e w41 ⟨p, rfl, ha, hb⟩
  clear C
  replace V12 := Lib.hid (V12.out.below hb)
  replace V14 := Lib.hid (V14.out.below hb)
  replace V16 := Lib.hid (V16.out.below hb)
  replace V22 := Lib.hid (V22.out.below hb)
  replace Bb := Lib.hid (Bb.out.below hb)
  replace Ball := Lib.hid (Ball.out.below hb)
  replace HB := Lib.hid (HB.out.trans (hb.mono HB.out.size))
  clear hb
  clear c00 c01 c02
  have C := tof_any w41 p _ ha (few_span _ _ _ _ _ _ (by decide) (by decide)) EA (HE.out _ HB.out)
  clear ha
  have HS0 := Lib.hid HB.out.size
  go_wp2_with fail
  refine C.mono ?_
  rintro e w42 ⟨Ag, Xg, cag, cxg, Tg, rfl, htab, hcan, hn, hn2, hb⟩
  clear C
  replace V12 := Lib.hid (V12.out.below hb)
  replace V14 := Lib.hid (V14.out.below hb)
  replace V16 := Lib.hid (V16.out.below hb)
  replace V22 := Lib.hid (V22.out.below hb)
  replace Bb := Lib.hid (Bb.out.below hb)
  replace Ball := Lib.hid (Ball.out.below hb)
  replace HB := Lib.hid (HB.out.trans (hb.mono HB.out.size))
  clear hb
  have hL : ∀ x, langM _ x = L3 x := fun x => (lang_from x).trans (HL3.out x)
  obtain ⟨r0, r1, r2, f0, f1, f2⟩ := V16.out.ahead
  obtain ⟨w43, hZ⟩ : ∃ Z, Z = put3 w42 b16 (.int .i64 0) (.slice Ag Tg.n cag) (.slice Xg (256 * Tg.n) cxg) := ⟨_, rfl⟩
  have V12' := Lib.hid (V12.out.put3 V16.out.blk N12_16.out (.int .i64 0) (.slice Ag Tg.n cag) (.slice Xg (256 * Tg.n) cxg))
  have V14' := Lib.hid (V14.out.put3 V16.out.blk N14_16.out (.int .i64 0) (.slice Ag Tg.n cag) (.slice Xg (256 * Tg.n) cxg))
  have V22' := Lib.hid (V22.out.put3 V16.out.blk (fun e => N16_22.out e.symm) (.int .i64 0) (.slice Ag Tg.n cag) (.slice Xg (256 * Tg.n) cxg))
  have Bb' := Lib.hid (Bb.out.put3 V16.out.blk (.int .i64 0) (.slice Ag Tg.n cag) (.slice Xg (256 * Tg.n) cxg))
  have Ball' := Lib.hid (Ball.out.put3 V16.out.blk (.int .i64 0) (.slice Ag Tg.n cag) (.slice Xg (256 * Tg.n) cxg))
  have HB' : RowKit.Hid (Below w.heap.size w (put3 w42 b16 (.int .i64 0) (.slice Ag Tg.n cag) (.slice Xg (256 * Tg.n) cxg))) := Lib.hid (put3_below (c0 := .bool true) (c1 := .bool true) (c2 := .bool true) HB.out V16.out.hb)
  have V16' := Lib.hid (tvar_put (L := L3) V16.out htab hcan hn hn2 hL HS0.out)
  rw [← hZ] at V12' V14' V16' V22' Bb' Ball' HB'
  clear htab hcan hn hn2 hL HS0 V12 V14 V16 V22 Bb Ball HB
  have V12 := V12'
  clear V12'
  have V14 := V14'
  clear V14'
  have V16 := V16'
  clear V16'
  have V22 := V22'
  clear V22'
  have Bb := Bb'
  clear Bb'
  have Ball := Ball'
  clear Ball'
  have HB := HB'
  clear HB'
  go_upto_region 27 with fail
  rw [show ((w42.setCell ⟨b16, 0, none⟩ (.int .i64 0)).setCell ⟨b16, 1, none⟩ (.slice Ag Tg.n cag)).setCell ⟨b16, 2, none⟩ (.slice Xg (256 * Tg.n) cxg) = w43 from hZ.symm]
  clear hZ r0 r1 r2 f0 f1 f2
  obtain ⟨c0, c1, c2⟩ := V12.out.cells
  obtain ⟨d0, d1, d2⟩ := V22.out.cells
  have C := samet_v V12.out V22.out
  go_wp2_with fail
  refine C.mono ?_
  rintro e w44 ⟨rfl, hb⟩
  clear C c0 c1 c2 d0 d1 d2
  replace V12 := Lib.hid (V12.out.below hb)
  replace V14 := Lib.hid (V14.out.below hb)
  replace V16 := Lib.hid (V16.out.below hb)
  replace V22 := Lib.hid (V22.out.below hb)
  replace Bb := Lib.hid (Bb.out.below hb)
  replace Ball := Lib.hid (Ball.out.below hb)
  replace HB := Lib.hid (HB.out.trans (hb.mono HB.out.size))
  clear hb
  obtain ⟨c0, c1, c2⟩ := V14.out.cells
  obtain ⟨d0, d1, d2⟩ := V22.out.cells
  have C := samet_v V14.out V22.out
  go_wp2_with fail
  refine C.mono ?_
  rintro e w45 ⟨rfl, hb⟩
  clear C c0 c1 c2 d0 d1 d2
  replace V12 := Lib.hid (V12.out.below hb)
  replace V14 := Lib.hid (V14.out.below hb)
  replace V16 := Lib.hid (V16.out.below hb)
  replace V22 := Lib.hid (V22.out.below hb)
  replace Bb := Lib.hid (Bb.out.below hb)
  replace Ball := Lib.hid (Ball.out.below hb)
  replace HB := Lib.hid (HB.out.trans (hb.mono HB.out.size))
  clear hb
  obtain ⟨c0, c1, c2⟩ := V16.out.cells
  obtain ⟨d0, d1, d2⟩ := V22.out.cells
  have C := samet_v V16.out V22.out
  go_wp2_with fail
  refine C.mono ?_
  rintro e w46 ⟨rfl, hb⟩
  clear C c0 c1 c2 d0 d1 d2
  replace V12 := Lib.hid (V12.out.below hb)
  replace V14 := Lib.hid (V14.out.below hb)
  replace V16 := Lib.hid (V16.out.below hb)
  replace V22 := Lib.hid (V22.out.below hb)
  replace Bb := Lib.hid (Bb.out.below hb)
  replace Ball := Lib.hid (Ball.out.below hb)
  replace HB := Lib.hid (HB.out.trans (hb.mono HB.out.size))
  clear hb
  clear V22
  clear V14
  clear V16
  clear N12_14 N12_16 N12_22 N14_16 N14_22 N16_22 HL1 HL3
  go_upto_region 29 with fail
  obtain ⟨L4, hL4⟩ : ∃ L, ∀ x, langM (spanM true false ⟨#[]⟩ false false ⟨#[]⟩) x = L x := ⟨langM (spanM true false ⟨#[]⟩ false false ⟨#[]⟩), fun _ => rfl⟩
  have HN4 := Lib.hid (show ∀ x, L4 x = false from fun x => (hL4 x).symm.trans (acc_none_up _ _ _ (by decide) _))
  have HL4 := Lib.hid hL4
  clear hL4
  obtain ⟨c0, c1, c2⟩ := Ball.out.cells
  have C := span_m w46 true false ⟨#[]⟩ false false ⟨#[]⟩ (by decide) (by decide)
  go_wp2_with fail
  refine C.mono ?_
  rintro e w47 ⟨p, rfl, ha, hb⟩
  clear C
  replace V12 := Lib.hid (V12.out.below hb)
  replace Bb := Lib.hid (Bb.out.below hb)
  replace Ball := Lib.hid (Ball.out.below hb)
  replace HB := Lib.hid (HB.out.trans (hb.mono HB.out.size))
  clear hb
  clear c0 c1 c2
  have C := tof_any w47 p _ ha (few_span _ _ _ _ _ _ (by decide) (by decide)) EA (HE.out _ HB.out)
  clear ha
  have HS0 := Lib.hid HB.out.size
  go_wp2_with fail
  refine C.mono ?_
  rintro e w48 ⟨A23, X23, ca23, cx23, T23, rfl, htab, hcan, hn, hn2, hb⟩
  clear C
  replace V12 := Lib.hid (V12.out.below hb)
  replace Bb := Lib.hid (Bb.out.below hb)
  replace Ball := Lib.hid (Ball.out.below hb)
  replace HB := Lib.hid (HB.out.trans (hb.mono HB.out.size))
  clear hb
  have hL := HL4.out
  have hv := tvar_of (w := w) (L := L4) htab hcan hn hn2 hL HS0.out HB.out.size
  have hb : Below w48.heap.size w48 (w48.alloc (.cells #[.int .i64 0, .slice A23 T23.n ca23, .slice X23 (256 * T23.n) cx23] 54)) := (Below.refl _ _).alloc (Nat.le_refl _) _
  have N12_23 : RowKit.Hid (b12 ≠ w48.heap.size) := Lib.hid (Nat.ne_of_lt (lt_of_heap V12.out.blk))
  replace V12 := Lib.hid (V12.out.below hb)
  replace Bb := Lib.hid (Bb.out.below hb)
  replace Ball := Lib.hid (Ball.out.below hb)
  replace HB := Lib.hid (HB.out.trans (hb.mono HB.out.size))
  clear hb htab hcan hn hn2 hL HS0
  go_upto_region 30 with fail
  generalize w48.alloc (.cells #[.int .i64 0, .slice A23 T23.n ca23, .slice X23 (256 * T23.n) cx23] 54) = w49 at hv HB V12 Bb Ball ⊢
  generalize w48.heap.size = b23 at hv N12_23 ⊢
  have V23 := Lib.hid hv
  clear hv
  obtain ⟨c00, c01, c02⟩ := Bb.out.cells
  have C := span_m w49 false true s false false s (by have := HS.out; omega) (by have := HS.out; omega)
  go_wp2_with fail
  refine C.mono ?_
  rintro e w50 ⟨p, rfl, ha, hb⟩
  clear C
  replace V12 := Lib.hid (V12.out.below hb)
  replace V23 := Lib.hid (V23.out.below hb)
  replace Bb := Lib.hid (Bb.out.below hb)
  replace Ball := Lib.hid (Ball.out.below hb)
  replace HB := Lib.hid (HB.out.trans (hb.mono HB.out.size))
  clear hb
  clear c00 c01 c02
  have C := tof_any w50 p _ ha (few_span _ _ _ _ _ _ HS.out HS.out) EA (HE.out _ HB.out)
  clear ha
  have HS0 := Lib.hid HB.out.size
  go_wp2_with fail
  refine C.mono ?_
  rintro e w51 ⟨Ah, Xh, cah, cxh, Th, rfl, htab, hcan, hn, hn2, hb⟩
  clear C
  replace V12 := Lib.hid (V12.out.below hb)
  replace V23 := Lib.hid (V23.out.below hb)
  replace Bb := Lib.hid (Bb.out.below hb)
  replace Ball := Lib.hid (Ball.out.below hb)
  replace HB := Lib.hid (HB.out.trans (hb.mono HB.out.size))
  clear hb
  have hL : ∀ x, langM _ x = L4 x := fun x => (lang_none s HS.out x).trans (HL4.out x)
  obtain ⟨r0, r1, r2, f0, f1, f2⟩ := V12.out.ahead
  obtain ⟨w52, hZ⟩ : ∃ Z, Z = put3 w51 b12 (.int .i64 0) (.slice Ah Th.n cah) (.slice Xh (256 * Th.n) cxh) := ⟨_, rfl⟩
  have V23' := Lib.hid (V23.out.put3 V12.out.blk (fun e => N12_23.out e.symm) (.int .i64 0) (.slice Ah Th.n cah) (.slice Xh (256 * Th.n) cxh))
  have Bb' := Lib.hid (Bb.out.put3 V12.out.blk (.int .i64 0) (.slice Ah Th.n cah) (.slice Xh (256 * Th.n) cxh))
  have Ball' := Lib.hid (Ball.out.put3 V12.out.blk (.int .i64 0) (.slice Ah Th.n cah) (.slice Xh (256 * Th.n) cxh))
  have HB' : RowKit.Hid (Below w.heap.size w (put3 w51 b12 (.int .i64 0) (.slice Ah Th.n cah) (.slice Xh (256 * Th.n) cxh))) := Lib.hid (put3_below (c0 := .bool true) (c1 := .bool true) (c2 := .bool true) HB.out V12.out.hb)
  have V12' := Lib.hid (tvar_put (L := L4) V12.out htab hcan hn hn2 hL HS0.out)
  rw [← hZ] at V12' V23' Bb' Ball' HB'
  clear htab hcan hn hn2 hL HS0 V12 V23 Bb Ball HB
  have V12 := V12'
  clear V12'
  have V23 := V23'
  clear V23'
  have Bb := Bb'
  clear Bb'
  have Ball := Ball'
  clear Ball'
  have HB := HB'
  clear HB'
  go_upto_region 31 with fail
  rw [show ((w51.setCell ⟨b12, 0, none⟩ (.int .i64 0)).setCell ⟨b12, 1, none⟩ (.slice Ah Th.n cah)).setCell ⟨b12, 2, none⟩ (.slice Xh (256 * Th.n) cxh) = w52 from hZ.symm]
  clear hZ r0 r1 r2 f0 f1 f2
  obtain ⟨hT1, hT0⟩ := none_canon V23.out.can V23.out.pos (fun x _ => HN4.out x)
  obtain ⟨yb, rfl, -, -, hy⟩ := V23.out.tab.accAt V23.out.pos
  have y0 := hy 0 V23.out.pos
  rw [hT0] at y0
  obtain ⟨c0, c1, c2⟩ := V12.out.cells
  obtain ⟨d0, d1, d2⟩ := V23.out.cells
  have C := samet_v V12.out V23.out
  rw [hT1] at d1 d2 C
  have HT1 := Lib.hid hT1
  have HY := Lib.hid y0
  clear hy y0 hT0 hT1
  go_wp2_with fail
  refine C.mono ?_
  rintro e w53 ⟨rfl, hb⟩
  clear C c0 c1 c2 d0 d1 d2
  have y0 := (hb.cell (World.block_lt_of_cell? w52 _ HY.out)).trans HY.out
  obtain ⟨d0, d1, d2⟩ := (V23.out.below hb).cells
  rw [HT1.out] at d1 d2
  replace HB := Lib.hid (HB.out.trans (hb.mono HB.out.size))
  clear hb V12 V23 Bb Ball HY HT1
  clear d0 d2
  go_wp2
  go_ret
  exact ⟨rfl, HB.out⟩
set_option maxRecDepth 100000 in
theorem onetable_any (w : World) (s h : ByteArray) (EA : Nat → Addr) (hE : w.cell? ⟨0, 0, none⟩ = some (errV EA 15)) (hs : s.size ≤ 1000000000) (hh : h.size ≤ 1000000000) :
    Calls Tryd.prog 8 #[.string s, .string h] w fun e w' => e = .returned (.bool true) ∧ Below w.heap.size w w' := by
  by_cases h1 : s.size ≤ 40
  · by_cases h2 : h.size ≤ 40
    · exact onetable_walk w s h EA hE h1 h2
    · have i1 : ¬ (40 : Int) < (s.size : Int) := by omega
      have i2 : (40 : Int) < (h.size : Int) := by omega
      clear hE h1 h2
      go_enter Tryd.func8, Tryd.ntmps8
      go_wp2
      go_ret
      exact ⟨rfl, Below.refl _ _⟩
  · have i1 : (40 : Int) < (s.size : Int) := by omega
    clear hE h1
    go_enter Tryd.func8, Tryd.ntmps8
    go_wp2
    go_ret
    exact ⟨rfl, Below.refl _ _⟩
end Go.Proofs.YtejmjjgbbojfbaaDoor
