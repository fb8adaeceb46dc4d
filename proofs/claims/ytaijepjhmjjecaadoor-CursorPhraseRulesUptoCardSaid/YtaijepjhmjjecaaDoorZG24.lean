/- Merged: CurFix, Ints, PhL. -/
import Derived.Test.YtaijepjhmjjecaaDoorZG15
import Derived.Test.YtaijepjhmjjecaaDoorZG23
import Derived.Test.YtaijepjhmjjecaaDoorZG23
import Derived.Test.YtaijepjhmjjecaaDoorZG23
import Derived.Test.YtaijepjhmjjecaaDoorZPhW
import Derived.Test.YtaijepjhmjjecaaDoorZRPh
/- cursor: the law's fixed calls. -/
namespace Go.Proofs.YtaijepjhmjjecaaDoor
set_option linter.unusedVariables false
open Go.ChangeShapes Go.WideShapes Go.ChangeAt Go.RowKit

theorem tw_ok : okV (-1) (twentyV 20) := by show checkV (-1) (twentyV 20) = 0; decide +kernel
theorem tw_fit : FitP (twentyV 20) := by
  intro p hp
  simp only [twentyV, List.mem_map, List.mem_range] at hp
  obtain ⟨i, hi, rfl⟩ := hp
  refine ⟨by show _ ∧ 10 * (i : Int) ≤ _; constructor; show _ ≤ 10 * (i : Int); omega; omega, ?_, by show 1 ≤ 1048576; omega⟩
  intro x hx
  simp at hx; subst hx; decide
theorem tw_total : totalV (twentyV 20) ≤ 20000000 := by decide +kernel
theorem tw_image : (imageV (twentyV 20)).length ≤ 1000000000 := by decide +kernel
theorem tw_next : (if 0 = (twentyV 20).length + 1 then 0 else 0 + 1) = 1 ∧ (if 0 = (twentyV 20).length + 1 then 0 else 0 + costU 0 0 (twentyV 20).length) = 1 ∧ docU (twentyV 20) 1 = 0 := by decide +kernel
theorem tw_adv : ¬ stayU (twentyV 20) 1 165 ∧ firstU (twentyV 20) 1 165 = 17 ∧ 1 + costU 1 17 (twentyV 20).length = 4 ∧ docU (twentyV 20) 18 = 170 ∧ (posU (twentyV 20) 18).length = 1 := by decide +kernel
theorem tw_end : ¬ stayU (twentyV 20) 18 1000 ∧ firstU (twentyV 20) 18 1000 = 20 ∧ docU (twentyV 20) 21 = 2147483647 := by decide +kernel
theorem tw_ph : phV [[1, 5, 9], [2, 10]] [0, 1] 0 = 2 := by decide +kernel
/-- The lists of the law's phrase. -/
def phW (w : World) : World := (((w.alloc (.cells #[.int .i64 1, .int .i64 5, .int .i64 9] 3)).alloc (.cells #[.int .i64 2, .int .i64 10] 3)).alloc (.cells #[.slice (some ⟨w.heap.size, 0, none⟩) 3 3, .slice (some ⟨w.heap.size + 1, 0, none⟩) 2 2] 23)).alloc (.cells #[.int .i64 0, .int .i64 1] 3)
theorem phW_of (w : World) : RdLL (phW w) (some ⟨w.heap.size + 2, 0, none⟩) 2 [[1, 5, 9], [2, 10]] ∧ Rd (phW w) (.slice (some ⟨w.heap.size + 3, 0, none⟩) 2 2) (intL [0, 1]) ∧ Below w.heap.size w (phW w) := by
  unfold phW
  have o1 := own_lit w 0 3 [.int .i64 1, .int .i64 5, .int .i64 9] (Nat.zero_le _) (by decide)
  have b0 := (Below.refl w.heap.size w).alloc (Nat.le_refl _) (.cells #[.int .i64 1, .int .i64 5, .int .i64 9] 3)
  have z1 : (w.alloc (.cells #[.int .i64 1, .int .i64 5, .int .i64 9] 3)).heap.size = w.heap.size + 1 := by simp
  change Own (w.alloc (.cells #[.int .i64 1, .int .i64 5, .int .i64 9] 3)) 0 3 (.slice (some ⟨w.heap.size, 0, none⟩) 3 3) _ at o1
  generalize w.alloc (.cells #[.int .i64 1, .int .i64 5, .int .i64 9] 3) = w1 at o1 b0 z1 ⊢
  have o2 := own_lit w1 0 3 [.int .i64 2, .int .i64 10] (Nat.zero_le _) (by decide)
  have b1 := (Below.refl w1.heap.size w1).alloc (Nat.le_refl _) (.cells #[.int .i64 2, .int .i64 10] 3)
  have z2 : (w1.alloc (.cells #[.int .i64 2, .int .i64 10] 3)).heap.size = w.heap.size + 2 := by simp; omega
  change Own (w1.alloc (.cells #[.int .i64 2, .int .i64 10] 3)) 0 3 (.slice (some ⟨w1.heap.size, 0, none⟩) 2 2) _ at o2
  rw [z1] at o2
  generalize w1.alloc (.cells #[.int .i64 2, .int .i64 10] 3) = w2 at o2 b1 z2 ⊢
  have o1' := o1.below b1 (Nat.le_refl _)
  have b2 := (Below.refl w2.heap.size w2).alloc (Nat.le_refl _) (.cells #[.slice (some ⟨w.heap.size, 0, none⟩) 3 3, .slice (some ⟨w.heap.size + 1, 0, none⟩) 2 2] 23)
  have h3 := heap_alloc_new w2 (.cells #[.slice (some ⟨w.heap.size, 0, none⟩) 3 3, .slice (some ⟨w.heap.size + 1, 0, none⟩) 2 2] 23)
  have z3 : (w2.alloc (.cells #[.slice (some ⟨w.heap.size, 0, none⟩) 3 3, .slice (some ⟨w.heap.size + 1, 0, none⟩) 2 2] 23)).heap.size = w.heap.size + 3 := by simp; omega
  rw [z2] at h3
  generalize w2.alloc (.cells #[.slice (some ⟨w.heap.size, 0, none⟩) 3 3, .slice (some ⟨w.heap.size + 1, 0, none⟩) 2 2] 23) = w3 at b2 h3 z3 ⊢
  have o1'' := o1'.below b2 (Nat.le_refl _)
  have o2' := o2.below b2 (Nat.le_refl _)
  have o4 := own_lit w3 0 3 [.int .i64 0, .int .i64 1] (Nat.zero_le _) (by decide)
  have b3 := (Below.refl w3.heap.size w3).alloc (Nat.le_refl _) (.cells #[.int .i64 0, .int .i64 1] 3)
  change Own (w3.alloc (.cells #[.int .i64 0, .int .i64 1] 3)) 0 3 (.slice (some ⟨w3.heap.size, 0, none⟩) 2 2) _ at o4
  rw [z3] at o4
  have h4 : (w3.alloc (.cells #[.int .i64 0, .int .i64 1] 3)).heap[w.heap.size + 2]? = _ := (Below.heap_alloc _ _ _ (by omega)).trans h3
  generalize w3.alloc (.cells #[.int .i64 0, .int .i64 1] 3) = w4 at o4 b3 h4 ⊢
  have o1''' := o1''.below b3 (Nat.le_refl _)
  have o2'' := o2'.below b3 (Nat.le_refl _)
  refine ⟨⟨rfl, fun _ => ⟨_, 0, rfl, fun i hi => ?_⟩⟩, o4.rd, ?_⟩
  · match i, hi with
    | 0, _ => exact ⟨_, 3, blk_cell h4 0, o1'''.rd⟩
    | 1, _ => exact ⟨_, 2, blk_cell h4 1, o2''.rd⟩
  · exact ((b0.trans (b1.mono (by omega))).trans (b2.mono (by omega))).trans (b3.mono (by omega))
set_option maxRecDepth 100000 in
set_option maxHeartbeats 4000000 in
theorem fixed_any (w : World) (EA : Nat → Addr) (hS : Sent6 w EA) : Calls Tryd.prog 9 #[] w fun e w' => e = .returned (.bool true) ∧ Below w.heap.size w w' := by
  have C1 := twenty_any w
  have HS := Lib.hid hS
  clear hS
  go_enter Tryd.func9, Tryd.ntmps9
  go_wp2_with fail
  with_reducible refine C1.mono ?_
  rintro e w1 ⟨A1, N1, rfl, ⟨hl1, vs1, hr1⟩, hb1⟩
  clear C1
  have hn1 : 20 ≤ N1 := by
    obtain ⟨_, _, he1, hn1, _⟩ := hr1.sl
    injection he1 with _ e1 e2
    rw [e2]; omega
  have C2 := renc_any w1 A1 20 N1 (twentyV 20) hr1.rd hn1 tw_fit (by rw [twentyV_length]; omega) tw_total EA (HS.out.below hb1)
  have HB1 := Lib.hid hb1
  clear hl1 hr1 hb1 hn1
  go_wp2_with fail
  with_reducible refine C2.mono ?_
  rintro e w2 ⟨h2, -⟩
  clear C2
  obtain ⟨A2, N2, K2, rfl, ho2, hb2⟩ := h2 tw_ok
  clear h2
  have HB2 := Lib.hid (HB1.out.trans (hb2.mono HB1.out.size))
  have hrd := ho2.rd
  have C3 := copen_ok w2 A2 N2 K2 (twentyV 20) tw_ok tw_fit (by rw [twentyV_length]; omega) tw_total tw_image hrd EA (HS.out.below HB2.out)
  have HC3 := Lib.hid C3
  clear ho2 hb2 hrd HB1 C3
  go_wp2_with fail
  with_reducible refine HC3.out.mono ?_
  rintro e w3 ⟨q, pl, rfl, h3, hb3⟩
  have HBT := Lib.hid (HB2.out.trans (hb3.mono HB2.out.size))
  have hz3 := hb3.size
  obtain ⟨B, hB⟩ : ∃ B, w2.heap.size = B := ⟨_, rfl⟩
  rw [hB] at h3 hz3
  have hwB : w.heap.size ≤ B := by have := HB2.out.size; omega
  have hq : B ≤ q := by obtain ⟨_, _, h⟩ := h3; exact h.hq
  have hlo : Low6 B := by obtain ⟨_, _, h⟩ := h3; exact h.lo
  have HLO := Lib.hid hlo
  obtain ⟨bk, rv, h3b⟩ := id h3
  have C4 := docB_any w3 B q _ _ _ _ 0 0 false bk rv h3b
  rw [docU_zero] at C4
  have HS3 := Lib.hid (HS.out.below HBT.out)
  have C5 := next_any w3 B q _ _ _ 0 0 false h3 hz3 (by omega) EA HS3.out
  rw [tw_next.1, tw_next.2.1, tw_next.2.2, ite_self] at C5
  have HC5 := Lib.hid C5
  clear h3 hb3 h3b hlo C5 hB HC3
  go_wp2_with fail
  with_reducible refine C4.mono ?_
  rintro e wx ⟨rfl, rfl⟩
  clear C4
  go_wp2_with fail
  with_reducible refine HC5.out.mono ?_
  rintro e w4 ⟨rfl, h4, he4⟩
  have C6 := adv_any w4 B q _ _ _ 1 1 false h4 (Nat.le_trans hz3 he4.size) (by omega) 165 EA (HS3.out.effq he4 HLO.out hq)
  rw [if_neg tw_adv.1, if_neg tw_adv.1, if_neg tw_adv.1, tw_adv.2.1, tw_adv.2.2.1, tw_adv.2.2.2.1] at C6
  have HE4 := Lib.hid he4
  have HC6 := Lib.hid C6
  clear h4 he4 C6 HC5
  go_wp2_with fail
  with_reducible refine HC6.out.mono ?_
  rintro e w5 ⟨rfl, h5, he5⟩
  have HE5 := Lib.hid (HE4.out.trans he5 (fun i hi _ => hi))
  obtain ⟨bk5, rv5, h5b⟩ := id h5
  have C7 := movB_any w5 B q _ _ _ _ 18 4 false bk5 rv5 h5b
  have C8 := freq_any w5 B q _ _ _ 18 4 false h5 (Nat.le_trans hz3 HE5.out.size) EA (HS3.out.effq HE5.out HLO.out hq)
  rw [tw_adv.2.2.2.2] at C8
  have HC8 := Lib.hid C8
  clear h5 h5b he5 C8 HC6 HE4
  go_wp2_with fail
  with_reducible refine C7.mono ?_
  rintro e wx ⟨rfl, rfl⟩
  clear C7
  go_wp2_with fail
  with_reducible refine HC8.out.mono ?_
  rintro e w6 ⟨rfl, h6, he6⟩
  have HE6 := Lib.hid (HE5.out.trans he6 (fun i hi _ => hi))
  have H6 := Lib.hid h6
  clear h6 he6 HC8 HE5
  have z6 : ∀ (o1 o2 o3 : Obj), (w6.alloc o1).heap.size = w6.heap.size + 1 ∧ ((w6.alloc o1).alloc o2).heap.size = w6.heap.size + 2 ∧ (((w6.alloc o1).alloc o2).alloc o3).heap.size = w6.heap.size + 3 := fun _ _ _ => ⟨by simp, by simp, by simp⟩
  obtain ⟨k1, k2, k3⟩ := phW_of w6
  have C9 := ph_any (phW w6) _ 2 2 _ k1 _ 2 2 [0, 1] k2 0 (by decide) (by decide) (by decide)
  rw [tw_ph] at C9
  have HB9 := Lib.hid k3
  unfold phW at C9
  have HC9 := Lib.hid C9
  clear k1 k2 k3 C9 z6
  go_wp2_with fail
  with_reducible refine HC9.out.mono ?_
  rintro e w7 ⟨rfl, hb7⟩
  have hbb := HB9.out.trans (show Below w6.heap.size (phW w6) w7 from hb7.mono HB9.out.size)
  have H7 := H6.out.below hbb (Nat.le_refl _)
  have HB7 := Lib.hid hbb
  have hzz : B ≤ w7.heap.size := Nat.le_trans (Nat.le_trans hz3 HE6.out.size) hbb.size
  have S7 := (HS3.out.effq HE6.out HLO.out hq).below hbb
  have C10 := adv_any w7 B q _ _ _ 18 4 false H7 hzz (by omega) 1000 EA S7
  rw [if_neg tw_end.1, if_neg tw_end.1, if_neg tw_end.1, tw_end.2.1, tw_end.2.2] at C10
  have HC10 := Lib.hid C10
  clear hb7 hbb H7 S7 C10 HC9
  go_wp2_with fail
  with_reducible refine HC10.out.mono ?_
  rintro e w8 ⟨rfl, -, he8⟩
  have hfin : Below w.heap.size w w8 := by
    have e1 := HB7.out.mono (show w.heap.size ≤ w6.heap.size from Nat.le_trans hwB (Nat.le_trans hz3 HE6.out.size))
    have f1 := HE6.out
    have f2 : Below w.heap.size w3 w6 := ⟨f1.os, f1.tape, f1.output, f1.size, fun k hk => f1.block k (by omega) (by omega)⟩
    have f3 : Below w.heap.size w7 w8 := ⟨he8.os, he8.tape, he8.output, he8.size, fun k hk => he8.block k (by omega) (by omega)⟩
    exact ((HBT.out.trans f2).trans e1).trans f3
  have HF := Lib.hid hfin
  clear he8 hfin
  go_wp2
  go_ret
  exact ⟨rfl, HF.out⟩
end Go.Proofs.YtaijepjhmjjecaaDoor

/- cursor: the law's ints; lists of lists of the call's own. -/
namespace Go.Proofs.YtaijepjhmjjecaaDoor
set_option linter.unusedVariables false
open Go.ChangeShapes Go.WideShapes Go.ChangeAt Go.RowKit

/-- A number as ints brings it into 0 .. m. -/
def modI (m : Nat) (x : Int) : Int := (x % 18446744073709551616) % ((m : Int) + 1)
theorem modI_in (m : Nat) (x : Int) : 0 ≤ modI m x ∧ modI m x ≤ m := by
  unfold modI
  have h1 := Int.emod_nonneg (x % 18446744073709551616) (show ((m : Int) + 1) ≠ 0 by omega)
  have h2 := Int.emod_lt_of_pos (x % 18446744073709551616) (show 0 < ((m : Int) + 1) by omega)
  omega
def modL (m : Nat) (l : List Int) : List Int := l.map (modI m)
theorem modL_length (m : Nat) (l : List Int) : (modL m l).length = l.length := by simp [modL]
theorem elI9 : Elem Tryd.prog 23 3 (.int .i64 0) 8 := ⟨Tryd.underlying23, by kernel_rfl, rfl, by decide⟩
theorem intL_snoc9 (l : List Int) (z : Int) : intL (l ++ [z]) = intL l ++ [.int .i64 z] := by rw [intL_append]; rfl
theorem map_take_succ {α β : Type} (f : α → β) (l : List α) {i : Nat} (h : i < l.length) : (l.take (i + 1)).map f = (l.take i).map f ++ [f l[i]] := by
  rw [List.take_succ_eq_append_getElem h, List.map_append]; rfl
set_option maxRecDepth 100000 in
theorem ints_any (w : World) (a : Option Addr) (n c : Nat) (l : List Int) (hr : Rd w (.slice a n c) (intL l)) (hl : l.length ≤ 10000000) (m : Nat) (hm : m ≤ 1000) :
    Calls Tryd.prog 12 #[.slice a n c, .int .i64 (m : Nat)] w fun e w' => ∃ A C, e = .returned (.slice A l.length C) ∧ Own w' w.heap.size 3 (.slice A l.length C) (intL (modL m l)) ∧ Below w.heap.size w w' := by
  obtain ⟨rfl, hc⟩ := rd_il hr
  have HR := Lib.hid hr
  have HC := Lib.hid hc
  have s1 : IntKind.i64.wrap ((m : Int) + 1) = ((m + 1 : Nat) : Int) := by rw [IntKind.wrap_i64]; omega
  have s2 : IntKind.u64.wrap ((m + 1 : Nat) : Int) = ((m + 1 : Nat) : Int) := by rw [IntKind.wrap_u64]; omega
  clear hr hc
  go_enter Tryd.func12, Tryd.ntmps12
  go_wp2
  go_loopw [5, 7, 10] (fun s5 s7 s10 wr => ∃ (i : Nat) (A : Option Addr) (C : Nat) (t7 : Value), s5 = .slice A i C ∧ s7 = t7 ∧ s10 = .int .i64 i ∧ i ≤ l.length ∧ RowKit.Hid (Own wr w.heap.size 3 (.slice A i C) (intL (modL m (l.take i)))) ∧ RowKit.Hid (Below w.heap.size w wr)) (fun _ _ s10 _ => l.length - (intOf s10).toNat)
  case atStart => exact ⟨0, none, 0, _, rfl, rfl, rfl, Nat.zero_le _, Lib.hid (own_nil _ _ _), Lib.hid (Below.refl _ _)⟩
  case round =>
    obtain ⟨i, A, C, t7, rfl, rfl, rfl, hi, HO, HB⟩ := hrel
    by_cases hlt : i < l.length
    · obtain ⟨b, o, rfl, hc⟩ := HC.out (by omega)
      have c1 := (HB.out.cell (World.block_lt_of_cell? w _ (hc i hlt))).trans (hc i hlt)
      have hmt := map_take_succ (modI m) l hlt
      obtain ⟨x, hx⟩ : ∃ x, l[i] = x := ⟨_, rfl⟩
      rw [hx] at c1 hmt
      have hin := modI_in m x
      obtain ⟨y, hy⟩ : ∃ y, modI m x = y := ⟨_, rfl⟩
      rw [hy] at hmt hin
      have i1 : (i : Int) < (l.length : Int) := by omega
      have s3 : IntKind.u64.wrap x = x % 18446744073709551616 := IntKind.wrap_u64 x
      obtain ⟨X, hX⟩ : ∃ X, x % 18446744073709551616 = X := ⟨_, rfl⟩
      have hX0 : 0 ≤ X := by omega
      have hyX : X % ((m + 1 : Nat) : Int) = y := by rw [← hy, ← hX]; unfold modI; rfl
      rw [hX] at s3
      have s4 : X.tmod ((m + 1 : Nat) : Int) = y := by rw [Int.tmod_eq_emod_of_nonneg hX0]; exact hyX
      have s5 : IntKind.u64.wrap y = y := by rw [IntKind.wrap_u64]; omega
      have s6 : IntKind.i64.wrap y = y := by rw [IntKind.wrap_i64]; omega
      have h7 : wrap64 (X.tmod ((m : Int) + 1)) = y := by
        have h9 := s4
        rw [show ((m + 1 : Nat) : Int) = (m : Int) + 1 by omega] at h9
        rw [h9]
        exact IntWalk.wrap64_in _ (by omega)
      have H7 := Lib.hid h7
      have d1 : (((m + 1 : Nat) : Int) == 0) = false := beq_false_of_ne (by omega)
      have hl9 : (intL (modL m (l.take i))).length < 1000000000000 := by rw [intL_length, modL_length, List.length_take]; omega
      have hz := HB.out.size
      have HMT := Lib.hid hmt
      have HL9 := Lib.hid hl9
      clear hx hy hX hX0 hyX hc hmt hl9 hin hlt h7
      go_wp2_with (at_builtin; with_reducible refine ap1' elI9 rfl HO.out HL9.out hz rfl _ _ rfl rfl rfl ?_)
      intro v' w3 g1 g2 g3 g4
      have hb3 := HB.out.grown g4 hz (fun k hk => (HO.out.lt k hk).1)
      have g5 : Own w3 w.heap.size 3 v' (intL (modL m (l.take (i + 1)))) := own_to g1 (by unfold modL; rw [HMT.out, intL_snoc9, ← H7.out])
      obtain ⟨A3, C3, hv⟩ := own_slice g5
      have hln : (intL (modL m (l.take (i + 1)))).length = i + 1 := by rw [intL_length, modL_length, List.length_take]; omega
      rw [hln] at hv
      subst hv
      have HO3 := Lib.hid g5
      have HB3 := Lib.hid hb3
      clear g1 g2 g3 g4 g5 hb3 hln HO HB HL9 HMT s3 s4 s5 s6
      go_wp2
      go_roundw
      case rel => exact ⟨i + 1, A3, C3, _, rfl, rfl, by go_num, by omega, HO3, HB3⟩
      case measure => simp [intOf]; omega
    · obtain rfl : i = l.length := by omega
      have i1 : ¬ ((l.length : Int) < (l.length : Int)) := by omega
      rw [List.take_length] at HO
      clear hlt
      go_wp2
      go_ret
      exact ⟨A, C, rfl, HO.out, HB.out⟩
end Go.Proofs.YtaijepjhmjjecaaDoor

/- cursor: lists of lists, plain and in memory, for the rules of the phrase. -/
namespace Go.Proofs.YtaijepjhmjjecaaDoor
set_option linter.unusedVariables false
open Go.ChangeShapes Go.WideShapes Go.ChangeAt Go.RowKit

theorem rdll_of {w : World} {base : Nat} {a : Option Addr} {n c : Nat} {vs : List Value} {ls : List (List Int)} (h : Own w base 23 (.slice a n c) vs) (hl : vs.length = ls.length) (hi : ∀ (k : Nat) (h1 : k < vs.length) (h2 : k < ls.length), Rd w vs[k] (intL ls[k])) : RdLL w a n ls := by
  have hn := h.len
  refine ⟨by omega, fun h0 => ?_⟩
  obtain ⟨g, rfl⟩ := h.someAt (by omega)
  refine ⟨g, 0, rfl, fun i hi' => ?_⟩
  have hr := hi i (by omega) hi'
  have h9 := h.get (j := i) (x := vs[i]) (List.getElem?_eq_getElem (by omega))
  obtain ⟨A, C, e, h8⟩ := id hr
  rw [intL_length] at e
  rw [e] at h9 hr
  exact ⟨A, C, by rw [Nat.zero_add]; exact h9, hr⟩
theorem MvS.rdll {w : World} {base : Nat} {a : Option Addr} {n c : Nat} {vs : List Value} {ls : List (List Int)} (h : MvS w base (.slice a n c) vs ls) : RdLL w a n ls :=
  rdll_of h.top h.len (fun k h1 h2 => (h.own k h1 h2).rd)
theorem rd_takeI {w : World} {a : Option Addr} {n c : Nat} {l : List Int} (h : Rd w (.slice a n c) (intL l)) (k : Nat) (hk : k ≤ l.length) : Rd w (.slice a k c) (intL (l.take k)) := by
  obtain ⟨A, C, e, h1, h2⟩ := h
  injection e with e1 e2 e3
  subst e1 e3
  have hlen : (intL (l.take k)).length = k := by rw [intL_length, List.length_take]; omega
  refine ⟨a, c, by rw [hlen], by rw [hlen]; rw [intL_length] at h1; omega, fun h0 => ?_⟩
  rw [hlen] at h0
  obtain ⟨b, o, e, hg⟩ := h2 (by rw [intL_length]; omega)
  refine ⟨b, o, e, fun j x hx => hg j x ?_⟩
  have e9 : intL (l.take k) = (intL l).take k := by simp [intL, List.map_take]
  rw [e9] at hx
  rw [List.getElem?_take] at hx
  split at hx
  · exact hx
  · cases hx
theorem rdll_take {w : World} {a : Option Addr} {n : Nat} {ls : List (List Int)} (h : RdLL w a n ls) (k : Nat) (hk : k ≤ ls.length) : RdLL w a k (ls.take k) := by
  refine ⟨by rw [List.length_take]; omega, fun h0 => ?_⟩
  rw [List.length_take] at h0
  obtain ⟨b, o, e, hg⟩ := h.2 (by omega)
  refine ⟨b, o, e, fun i hi => ?_⟩
  rw [List.length_take] at hi
  have := hg i (by omega)
  simpa using this
theorem kept_types {w : World} {b b' : Nat} {e e' : TypeId} {v v' : Value} {xs xs' : List Value} (h : Own w b e v xs) (h' : Own w b' e' v' xs') (hne : e ≠ e') : v.ownBlock = none ∨ v.ownBlock ≠ v'.ownBlock := by
  cases hb : v.ownBlock with
  | none => exact .inl rfl
  | some q => exact .inr (fun e9 => own_types h h' hne hb e9.symm)
theorem kept_sep {v v' : Value} (h : ∀ b, v.ownBlock = some b → v'.ownBlock ≠ some b) : v.ownBlock = none ∨ v.ownBlock ≠ v'.ownBlock := by
  cases hb : v.ownBlock with
  | none => exact .inl rfl
  | some q => exact .inr (fun e9 => h q hb e9.symm)
theorem take_map_snoc {O Ok : List Int} {k : Int} (hk : Ok = O.map (· + k)) {n m : Nat} (hn : O.length = n) (h : m < n) : Ok.take (n - m) = Ok.take (n - (m + 1)) ++ [(O[n - 1 - m]'(by omega)) + k] := by
  have e1 : n - m = (n - 1 - m) + 1 := by omega
  have e2 : n - (m + 1) = n - 1 - m := by omega
  have hl : Ok.length = n := by rw [hk, List.length_map]; exact hn
  rw [e1, e2, List.take_succ_eq_append_getElem (by omega)]
  subst hk
  simp
theorem drop_rev {α : Type} (l : List α) {j : Nat} (h : j < l.length) : (l.drop j).reverse = (l.drop (j + 1)).reverse ++ [l[j]] := by
  rw [List.drop_eq_getElem_cons h, List.reverse_cons]
/-- Is the number new behind these? -/
def isNew (l : List Int) (x : Int) : Bool := !(l.contains x)
theorem isNew_nil (x : Int) : isNew [] x = true := rfl
theorem isNew_snoc (l : List Int) (y x : Int) : isNew (l ++ [y]) x = (isNew l x && !(y == x)) := by
  unfold isNew
  by_cases h1 : x ∈ l
  · have e1 : l.contains x = true := by simpa using h1
    have e2 : (l ++ [y]).contains x = true := by simp [h1]
    rw [e1, e2]; rfl
  · have e1 : l.contains x = false := by simpa using h1
    by_cases h2 : y = x
    · subst h2
      have e2 : (l ++ [y]).contains y = true := by simp
      have e3 : (y == y) = true := by simp
      rw [e1, e2, e3]; rfl
    · have e2 : (l ++ [y]).contains x = false := by simp [h1]; exact fun h => h2 h.symm
      have e3 : (y == x) = false := by simpa using h2
      rw [e1, e2, e3]; rfl
theorem rise_count (l : List Int) {i : Nat} (h : i < l.length) : (riseOf (l.take (i + 1))).length = (riseOf (l.take i)).length + if isNew (l.take i) l[i] then 1 else 0 := by
  rw [List.take_succ_eq_append_getElem h, riseOf_snoc, insI_len _ _ (riseOf_rise _)]
  by_cases hm : l[i] ∈ l.take i
  · rw [if_pos ((riseOf_mem _ _).2 hm)]
    have : isNew (l.take i) l[i] = false := by unfold isNew; simpa using hm
    rw [this]; simp
  · rw [if_neg (fun h9 => hm ((riseOf_mem _ _).1 h9))]
    have : isNew (l.take i) l[i] = true := by unfold isNew; simpa using hm
    rw [this]; simp
theorem laidL_take (k : Int) : ∀ (ls : List (List Int)) (os : List Int) (i : Nat) (h : i < ls.length) (h2 : i < os.length), laidL k (ls.take (i + 1)) (os.take (i + 1)) = laidL k (ls.take i) (os.take i) ++ [ls[i] ++ [100 + k + os[i]]]
  | l :: ls, o :: os, 0, _, _ => by simp [laidL]
  | l :: ls, o :: os, i + 1, h, h2 => by
    rw [List.take_succ_cons, List.take_succ_cons, List.take_succ_cons, List.take_succ_cons, laidL, laidL, laidL_take k ls os i (by simpa using h) (by simpa using h2)]
    simp
theorem laidL_length (k : Int) : ∀ (ls : List (List Int)) (os : List Int), ls.length = os.length → (laidL k ls os).length = ls.length
  | [], [], _ => rfl
  | l :: ls, o :: os, h => by rw [laidL, List.length_cons, List.length_cons, laidL_length k ls os (by simpa using h)]
theorem laidL_sum (k : Int) : ∀ (ls : List (List Int)) (os : List Int), ls.length = os.length → sumL (laidL k ls os) = sumL ls + ls.length
  | [], [], _ => rfl
  | l :: ls, o :: os, h => by
    have ih := laidL_sum k ls os (by simpa using h)
    unfold sumL at ih ⊢
    rw [laidL, List.map_cons, List.map_cons, List.sum_cons, List.sum_cons, ih, List.length_append, List.length_cons]
    simp; omega
theorem laidL_mem (k : Int) : ∀ (ls : List (List Int)) (os : List Int), ∀ m ∈ laidL k ls os, ∃ l ∈ ls, ∃ o ∈ os, m = l ++ [100 + k + o]
  | l :: ls, o :: os, m, hm => by
    rw [laidL] at hm
    rcases List.mem_cons.1 hm with rfl | hm
    · exact ⟨l, by simp, o, by simp, rfl⟩
    · obtain ⟨l', h1, o', h2, h3⟩ := laidL_mem k ls os m hm
      exact ⟨l', List.mem_cons_of_mem _ h1, o', List.mem_cons_of_mem _ h2, h3⟩
  | [], [], m, hm => by cases hm
  | [], _ :: _, m, hm => by cases hm
  | _ :: _, [], m, hm => by cases hm
theorem movedV_mem : ∀ (ls : List (List Int)) (os : List Int), ∀ m ∈ movedV ls os, ∃ l ∈ ls, ∃ o ∈ os, m = shiftL o l
  | l :: ls, o :: os, m, hm => by
    rw [movedV] at hm
    rcases List.mem_cons.1 hm with rfl | hm
    · exact ⟨l, by simp, o, by simp, rfl⟩
    · obtain ⟨l', h1, o', h2, h3⟩ := movedV_mem ls os m hm
      exact ⟨l', List.mem_cons_of_mem _ h1, o', List.mem_cons_of_mem _ h2, h3⟩
  | [], [], m, hm => by simp [movedV] at hm
  | [], _ :: _, m, hm => by simp [movedV] at hm
  | _ :: _, [], m, hm => by simp [movedV] at hm
/-- The lists of a phrase of the law: numbers from 0 to 60, offsets from 0 to 9. -/
structure PhIn (ls : List (List Int)) (os : List Int) : Prop where
  ne : ls ≠ []
  len : ls.length = os.length
  hl : ∀ l ∈ ls, ∀ x ∈ l, 0 ≤ x ∧ x ≤ 60
  ho : ∀ o ∈ os, 0 ≤ o ∧ o ≤ 9
theorem PhIn.ok {ls : List (List Int)} {os : List Int} (h : PhIn ls os) {s : Int} (h1 : 0 ≤ s) (h2 : s ≤ 100) : phOk ls os s = true :=
  phOk_mk h.ne h.len h1 (by omega) (fun o ho => by have := h.ho o ho; omega) (fun l hl x hx => by have := h.hl l hl x hx; omega)
theorem PhIn.shift {ls : List (List Int)} {os : List Int} (h : PhIn ls os) {s k : Int} (h1 : 0 ≤ s) (h2 : s ≤ 100) (hk0 : 0 ≤ k) (hk : k ≤ 49) : phV ls (os.map (· + k)) s = phV ls os s :=
  phV_shift (h.ok h1 h2) (phOk_mk h.ne (by rw [List.length_map]; exact h.len) h1 (by omega) (fun o ho => by
    obtain ⟨o', ho', rfl⟩ := List.mem_map.1 ho
    have := h.ho o' ho'
    show 0 ≤ o' + k ∧ o' + k ≤ _
    omega) (fun l hl x hx => by have := h.hl l hl x hx; omega))
theorem PhIn.laid {ls : List (List Int)} {os : List Int} (h : PhIn ls os) {k : Int} (hk0 : 0 ≤ k) (hk : k ≤ 49) : phV (laidL k ls os) os 0 = phV ls os 0 + 1 := by
  refine phV_laid (h.ok (by omega) (by omega)) (phOk_mk (fun e => ?_) (by rw [laidL_length k ls os h.len]; exact h.len) (by omega) (by omega) (fun o ho => by have := h.ho o ho; omega) (fun m hm x hx => ?_)) (fun m hm x hx => ?_)
  · have h9 := laidL_length k ls os h.len
    rw [e] at h9
    exact h.ne (List.eq_nil_of_length_eq_zero h9.symm)
  · obtain ⟨l, hl, o, ho, rfl⟩ := laidL_mem k ls os m hm
    have := h.ho o ho
    rcases List.mem_append.1 hx with hx | hx
    · have := h.hl l hl x hx; omega
    · rw [List.mem_singleton.1 hx]; omega
  · obtain ⟨l, hl, o, ho, rfl⟩ := movedV_mem ls os m hm
    have := h.ho o ho
    unfold shiftL at hx
    obtain ⟨y, hy, rfl⟩ := List.mem_map.1 hx
    have := h.hl l hl y hy
    show y - o < _
    omega
theorem PhIn.one {ls : List (List Int)} {os : List Int} (h : PhIn ls os) {s : Int} (h1 : 0 ≤ s) (h2 : s ≤ 100) (h3 : 0 < ls.length) : phV (ls.take 1) (os.take 1) s = (riseOf ls[0]).length := by
  have h4 := h.len
  cases ls with
  | nil => simp at h3
  | cons l r =>
    cases os with
    | nil => simp at h4
    | cons o q =>
      exact phV_one (phOk_mk (by simp) rfl h1 (by omega) (fun o' ho' => by
        rw [List.mem_singleton.1 ho']; have := h.ho o (by simp); omega) (fun l' hl' x hx => by
        rw [List.mem_singleton.1 hl'] at hx; have := h.hl l (by simp) x hx; omega))
theorem sumL_take1 (ls : List (List Int)) : sumL (ls.take 1) ≤ sumL ls := sumL_take_le ls 1
theorem sumL_rev (ls : List (List Int)) : sumL ls.reverse = sumL ls := by unfold sumL; rw [List.map_reverse, List.sum_reverse]
theorem sumL_modL (m : Nat) (ls : List (List Int)) : sumL (ls.map (modL m)) = sumL ls := by
  unfold sumL
  rw [List.map_map]
  congr 1
  exact List.map_congr_left fun l _ => by simp [modL_length]
theorem phIn_mod {ls : List (List Int)} {os : List Int} (hl : ls.length = os.length) (h0 : 0 < ls.length) : PhIn (ls.map (modL 60)) (modL 9 os) :=
  ⟨fun e => by rw [List.map_eq_nil_iff] at e; rw [e] at h0; simp at h0, by rw [List.length_map, modL_length]; exact hl, fun l hl x hx => by
    obtain ⟨l', _, rfl⟩ := List.mem_map.1 hl
    obtain ⟨y, _, rfl⟩ := List.mem_map.1 hx
    exact modI_in 60 y, fun o ho => by
    obtain ⟨y, _, rfl⟩ := List.mem_map.1 ho
    exact modI_in 9 y⟩
theorem rdll_rev {w wr : World} {base base' B : Nat} {A : Value} {vs : List Value} {L : List (List Int)} (hm : MvS w base A vs L) (hb : Below B w wr) (hB : w.heap.size ≤ B) {a : Option Addr} {n c : Nat} (h1 : Own wr base' 23 (.slice a n c) vs.reverse) : RdLL wr a n L.reverse := by
  have hl := hm.len
  refine rdll_of h1 (by simpa using hl) (fun k h2 h3 => ?_)
  rw [List.length_reverse] at h2 h3
  have h4 := ((hm.own (vs.length - 1 - k) (by omega) (by omega)).below hb hB).rd
  have e1 : vs.reverse[k]'(by rw [List.length_reverse]; exact h2) = vs[vs.length - 1 - k]'(by omega) := by rw [List.getElem_reverse]
  have e2 : L.reverse[k]'(by rw [List.length_reverse]; exact h3) = L[vs.length - 1 - k]'(by omega) := by rw [List.getElem_reverse]; congr 1; omega
  rw [e1, e2]
  exact h4
theorem phV_le (ls : List (List Int)) (os : List Int) (s : Int) {n : Nat} (h : sumL ls ≤ n) : phV ls os s ≤ n := by
  unfold phV
  split
  · have h1 := cntV_le (riseOf (movedV ls os).flatten) (movedV ls os) s
    have h2 := riseOf_len_le (movedV ls os).flatten
    have h3 := movedV_flat_len ls os
    omega
  · omega
/-- The three lists of the second loop, m of the phrase's words still to come. -/
structure BkS (w wr : World) (B : Nat) (b1 b2 b3 : Value) (vs : List Value) (O Ok : List Int) (n m : Nat) : Prop where
  bel : Below B w wr
  o1 : Own wr B 23 b1 (vs.drop m).reverse
  o2 : Own wr B 3 b2 (intL (O.drop m).reverse)
  o3 : Own wr B 3 b3 (intL (Ok.take (n - m)))
  sep : ∀ b, b2.ownBlock = some b → b3.ownBlock ≠ some b
theorem BkS.put1 {w wr w' : World} {B : Nat} {b1 b2 b3 b1' : Value} {vs : List Value} {O Ok : List Int} {n m : Nat} (h : BkS w wr B b1 b2 b3 vs O Ok n m) (hz : B ≤ wr.heap.size) {v : Value}
    (h1 : Own w' B 23 b1' ((vs.drop m).reverse ++ [v])) (hg : wr.grownBy w' b1.ownBlock) : Below B w w' ∧ Own w' B 3 b2 (intL (O.drop m).reverse) ∧ Own w' B 3 b3 (intL (Ok.take (n - m))) :=
  ⟨h.bel.grown hg hz (fun q hq => (h.o1.lt q hq).1), h.o2.kept hg (kept_types h.o2 h.o1 (by decide)), h.o3.kept hg (kept_types h.o3 h.o1 (by decide))⟩
end Go.Proofs.YtaijepjhmjjecaaDoor
