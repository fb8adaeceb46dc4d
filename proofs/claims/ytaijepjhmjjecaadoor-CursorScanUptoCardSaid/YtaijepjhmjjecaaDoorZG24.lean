/- Merged: CurFix, Ints. -/
import Derived.Test.YtaijepjhmjjecaaDoorZG16
import Derived.Test.YtaijepjhmjjecaaDoorZG23
import Derived.Test.YtaijepjhmjjecaaDoorZG23
import Derived.Test.YtaijepjhmjjecaaDoorZG23
import Derived.Test.YtaijepjhmjjecaaDoorZPhW
import Derived.Test.YtaijepjhmjjecaaDoorZRPh
/- cursor: the law's fixed calls. -/
namespace Go.Proofs.YtaijepjhmjjecaaDoor
set_option linter.unusedVariables false
open Go.ChangeShapes Go.WideShapes Go.ChangeAt Go.RowKit

theorem tw_ok : okV (-1) (twentyV 20) := by show checkV (-1) (twentyV 20) = 0; decide +kernel
theorem tw_fit : FitP (twentyV 20) := by
  intro p hp
  simp only [twentyV, List.mem_map, List.mem_range] at hp
  obtain ⟨i, hi, rfl⟩ := hp
  refine ⟨by show _ ∧ 10 * (i : Int) ≤ _; constructor; show _ ≤ 10 * (i : Int); omega; omega, ?_, by show 1 ≤ 1048576; omega⟩
  intro x hx
  simp at hx; subst hx; decide
theorem tw_total : totalV (twentyV 20) ≤ 20000000 := by decide +kernel
theorem tw_image : (imageV (twentyV 20)).length ≤ 1000000000 := by decide +kernel
theorem tw_next : (if 0 = (twentyV 20).length + 1 then 0 else 0 + 1) = 1 ∧ (if 0 = (twentyV 20).length + 1 then 0 else 0 + costU 0 0 (twentyV 20).length) = 1 ∧ docU (twentyV 20) 1 = 0 := by decide +kernel
theorem tw_adv : ¬ stayU (twentyV 20) 1 165 ∧ firstU (twentyV 20) 1 165 = 17 ∧ 1 + costU 1 17 (twentyV 20).length = 4 ∧ docU (twentyV 20) 18 = 170 ∧ (posU (twentyV 20) 18).length = 1 := by decide +kernel
theorem tw_end : ¬ stayU (twentyV 20) 18 1000 ∧ firstU (twentyV 20) 18 1000 = 20 ∧ docU (twentyV 20) 21 = 2147483647 := by decide +kernel
theorem tw_ph : phV [[1, 5, 9], [2, 10]] [0, 1] 0 = 2 := by decide +kernel
/-- The lists of the law's phrase. -/
def phW (w : World) : World := (((w.alloc (.cells #[.int .i64 1, .int .i64 5, .int .i64 9] 3)).alloc (.cells #[.int .i64 2, .int .i64 10] 3)).alloc (.cells #[.slice (some ⟨w.heap.size, 0, none⟩) 3 3, .slice (some ⟨w.heap.size + 1, 0, none⟩) 2 2] 23)).alloc (.cells #[.int .i64 0, .int .i64 1] 3)
theorem phW_of (w : World) : RdLL (phW w) (some ⟨w.heap.size + 2, 0, none⟩) 2 [[1, 5, 9], [2, 10]] ∧ Rd (phW w) (.slice (some ⟨w.heap.size + 3, 0, none⟩) 2 2) (intL [0, 1]) ∧ Below w.heap.size w (phW w) := by
  unfold phW
  have o1 := own_lit w 0 3 [.int .i64 1, .int .i64 5, .int .i64 9] (Nat.zero_le _) (by decide)
  have b0 := (Below.refl w.heap.size w).alloc (Nat.le_refl _) (.cells #[.int .i64 1, .int .i64 5, .int .i64 9] 3)
  have z1 : (w.alloc (.cells #[.int .i64 1, .int .i64 5, .int .i64 9] 3)).heap.size = w.heap.size + 1 := by simp
  change Own (w.alloc (.cells #[.int .i64 1, .int .i64 5, .int .i64 9] 3)) 0 3 (.slice (some ⟨w.heap.size, 0, none⟩) 3 3) _ at o1
  generalize w.alloc (.cells #[.int .i64 1, .int .i64 5, .int .i64 9] 3) = w1 at o1 b0 z1 ⊢
  have o2 := own_lit w1 0 3 [.int .i64 2, .int .i64 10] (Nat.zero_le _) (by decide)
  have b1 := (Below.refl w1.heap.size w1).alloc (Nat.le_refl _) (.cells #[.int .i64 2, .int .i64 10] 3)
  have z2 : (w1.alloc (.cells #[.int .i64 2, .int .i64 10] 3)).heap.size = w.heap.size + 2 := by simp; omega
  change Own (w1.alloc (.cells #[.int .i64 2, .int .i64 10] 3)) 0 3 (.slice (some ⟨w1.heap.size, 0, none⟩) 2 2) _ at o2
  rw [z1] at o2
  generalize w1.alloc (.cells #[.int .i64 2, .int .i64 10] 3) = w2 at o2 b1 z2 ⊢
  have o1' := o1.below b1 (Nat.le_refl _)
  have b2 := (Below.refl w2.heap.size w2).alloc (Nat.le_refl _) (.cells #[.slice (some ⟨w.heap.size, 0, none⟩) 3 3, .slice (some ⟨w.heap.size + 1, 0, none⟩) 2 2] 23)
  have h3 := heap_alloc_new w2 (.cells #[.slice (some ⟨w.heap.size, 0, none⟩) 3 3, .slice (some ⟨w.heap.size + 1, 0, none⟩) 2 2] 23)
  have z3 : (w2.alloc (.cells #[.slice (some ⟨w.heap.size, 0, none⟩) 3 3, .slice (some ⟨w.heap.size + 1, 0, none⟩) 2 2] 23)).heap.size = w.heap.size + 3 := by simp; omega
  rw [z2] at h3
  generalize w2.alloc (.cells #[.slice (some ⟨w.heap.size, 0, none⟩) 3 3, .slice (some ⟨w.heap.size + 1, 0, none⟩) 2 2] 23) = w3 at b2 h3 z3 ⊢
  have o1'' := o1'.below b2 (Nat.le_refl _)
  have o2' := o2.below b2 (Nat.le_refl _)
  have o4 := own_lit w3 0 3 [.int .i64 0, .int .i64 1] (Nat.zero_le _) (by decide)
  have b3 := (Below.refl w3.heap.size w3).alloc (Nat.le_refl _) (.cells #[.int .i64 0, .int .i64 1] 3)
  change Own (w3.alloc (.cells #[.int .i64 0, .int .i64 1] 3)) 0 3 (.slice (some ⟨w3.heap.size, 0, none⟩) 2 2) _ at o4
  rw [z3] at o4
  have h4 : (w3.alloc (.cells #[.int .i64 0, .int .i64 1] 3)).heap[w.heap.size + 2]? = _ := (Below.heap_alloc _ _ _ (by omega)).trans h3
  generalize w3.alloc (.cells #[.int .i64 0, .int .i64 1] 3) = w4 at o4 b3 h4 ⊢
  have o1''' := o1''.below b3 (Nat.le_refl _)
  have o2'' := o2'.below b3 (Nat.le_refl _)
  refine ⟨⟨rfl, fun _ => ⟨_, 0, rfl, fun i hi => ?_⟩⟩, o4.rd, ?_⟩
  · match i, hi with
    | 0, _ => exact ⟨_, 3, blk_cell h4 0, o1'''.rd⟩
    | 1, _ => exact ⟨_, 2, blk_cell h4 1, o2''.rd⟩
  · exact ((b0.trans (b1.mono (by omega))).trans (b2.mono (by omega))).trans (b3.mono (by omega))
set_option maxRecDepth 100000 in
set_option maxHeartbeats 4000000 in
theorem fixed_any (w : World) (EA : Nat → Addr) (hS : Sent6 w EA) : Calls Tryd.prog 9 #[] w fun e w' => e = .returned (.bool true) ∧ Below w.heap.size w w' := by
  have C1 := twenty_any w
  have HS := Lib.hid hS
  clear hS
  go_enter Tryd.func9, Tryd.ntmps9
  go_wp2_with fail
  with_reducible refine C1.mono ?_
  rintro e w1 ⟨A1, N1, rfl, ⟨hl1, vs1, hr1⟩, hb1⟩
  clear C1
  have hn1 : 20 ≤ N1 := by
    obtain ⟨_, _, he1, hn1, _⟩ := hr1.sl
    injection he1 with _ e1 e2
    rw [e2]; omega
  have C2 := renc_any w1 A1 20 N1 (twentyV 20) hr1.rd hn1 tw_fit (by rw [twentyV_length]; omega) tw_total EA (HS.out.below hb1)
  have HB1 := Lib.hid hb1
  clear hl1 hr1 hb1 hn1
  go_wp2_with fail
  with_reducible refine C2.mono ?_
  rintro e w2 ⟨h2, -⟩
  clear C2
  obtain ⟨A2, N2, K2, rfl, ho2, hb2⟩ := h2 tw_ok
  clear h2
  have HB2 := Lib.hid (HB1.out.trans (hb2.mono HB1.out.size))
  have hrd := ho2.rd
  have C3 := copen_ok w2 A2 N2 K2 (twentyV 20) tw_ok tw_fit (by rw [twentyV_length]; omega) tw_total tw_image hrd EA (HS.out.below HB2.out)
  have HC3 := Lib.hid C3
  clear ho2 hb2 hrd HB1 C3
  go_wp2_with fail
  with_reducible refine HC3.out.mono ?_
  rintro e w3 ⟨q, pl, rfl, h3, hb3⟩
  have HBT := Lib.hid (HB2.out.trans (hb3.mono HB2.out.size))
  have hz3 := hb3.size
  obtain ⟨B, hB⟩ : ∃ B, w2.heap.size = B := ⟨_, rfl⟩
  rw [hB] at h3 hz3
  have hwB : w.heap.size ≤ B := by have := HB2.out.size; omega
  have hq : B ≤ q := by obtain ⟨_, _, h⟩ := h3; exact h.hq
  have hlo : Low6 B := by obtain ⟨_, _, h⟩ := h3; exact h.lo
  have HLO := Lib.hid hlo
  obtain ⟨bk, rv, h3b⟩ := id h3
  have C4 := docB_any w3 B q _ _ _ _ 0 0 false bk rv h3b
  rw [docU_zero] at C4
  have HS3 := Lib.hid (HS.out.below HBT.out)
  have C5 := next_any w3 B q _ _ _ 0 0 false h3 hz3 (by omega) EA HS3.out
  rw [tw_next.1, tw_next.2.1, tw_next.2.2, ite_self] at C5
  have HC5 := Lib.hid C5
  clear h3 hb3 h3b hlo C5 hB HC3
  go_wp2_with fail
  with_reducible refine C4.mono ?_
  rintro e wx ⟨rfl, rfl⟩
  clear C4
  go_wp2_with fail
  with_reducible refine HC5.out.mono ?_
  rintro e w4 ⟨rfl, h4, he4⟩
  have C6 := adv_any w4 B q _ _ _ 1 1 false h4 (Nat.le_trans hz3 he4.size) (by omega) 165 EA (HS3.out.effq he4 HLO.out hq)
  rw [if_neg tw_adv.1, if_neg tw_adv.1, if_neg tw_adv.1, tw_adv.2.1, tw_adv.2.2.1, tw_adv.2.2.2.1] at C6
  have HE4 := Lib.hid he4
  have HC6 := Lib.hid C6
  clear h4 he4 C6 HC5
  go_wp2_with fail
  with_reducible refine HC6.out.mono ?_
  rintro e w5 ⟨rfl, h5, he5⟩
  have HE5 := Lib.hid (HE4.out.trans he5 (fun i hi _ => hi))
  obtain ⟨bk5, rv5, h5b⟩ := id h5
  have C7 := movB_any w5 B q _ _ _ _ 18 4 false bk5 rv5 h5b
  have C8 := freq_any w5 B q _ _ _ 18 4 false h5 (Nat.le_trans hz3 HE5.out.size) EA (HS3.out.effq HE5.out HLO.out hq)
  rw [tw_adv.2.2.2.2] at C8
  have HC8 := Lib.hid C8
  clear h5 h5b he5 C8 HC6 HE4
  go_wp2_with fail
  with_reducible refine C7.mono ?_
  rintro e wx ⟨rfl, rfl⟩
  clear C7
  go_wp2_with fail
  with_reducible refine HC8.out.mono ?_
  rintro e w6 ⟨rfl, h6, he6⟩
  have HE6 := Lib.hid (HE5.out.trans he6 (fun i hi _ => hi))
  have H6 := Lib.hid h6
  clear h6 he6 HC8 HE5
  have z6 : ∀ (o1 o2 o3 : Obj), (w6.alloc o1).heap.size = w6.heap.size + 1 ∧ ((w6.alloc o1).alloc o2).heap.size = w6.heap.size + 2 ∧ (((w6.alloc o1).alloc o2).alloc o3).heap.size = w6.heap.size + 3 := fun _ _ _ => ⟨by simp, by simp, by simp⟩
  obtain ⟨k1, k2, k3⟩ := phW_of w6
  have C9 := ph_any (phW w6) _ 2 2 _ k1 _ 2 2 [0, 1] k2 0 (by decide) (by decide) (by decide)
  rw [tw_ph] at C9
  have HB9 := Lib.hid k3
  unfold phW at C9
  have HC9 := Lib.hid C9
  clear k1 k2 k3 C9 z6
  go_wp2_with fail
  with_reducible refine HC9.out.mono ?_
  rintro e w7 ⟨rfl, hb7⟩
  have hbb := HB9.out.trans (show Below w6.heap.size (phW w6) w7 from hb7.mono HB9.out.size)
  have H7 := H6.out.below hbb (Nat.le_refl _)
  have HB7 := Lib.hid hbb
  have hzz : B ≤ w7.heap.size := Nat.le_trans (Nat.le_trans hz3 HE6.out.size) hbb.size
  have S7 := (HS3.out.effq HE6.out HLO.out hq).below hbb
  have C10 := adv_any w7 B q _ _ _ 18 4 false H7 hzz (by omega) 1000 EA S7
  rw [if_neg tw_end.1, if_neg tw_end.1, if_neg tw_end.1, tw_end.2.1, tw_end.2.2] at C10
  have HC10 := Lib.hid C10
  clear hb7 hbb H7 S7 C10 HC9
  go_wp2_with fail
  with_reducible refine HC10.out.mono ?_
  rintro e w8 ⟨rfl, -, he8⟩
  have hfin : Below w.heap.size w w8 := by
    have e1 := HB7.out.mono (show w.heap.size ≤ w6.heap.size from Nat.le_trans hwB (Nat.le_trans hz3 HE6.out.size))
    have f1 := HE6.out
    have f2 : Below w.heap.size w3 w6 := ⟨f1.os, f1.tape, f1.output, f1.size, fun k hk => f1.block k (by omega) (by omega)⟩
    have f3 : Below w.heap.size w7 w8 := ⟨he8.os, he8.tape, he8.output, he8.size, fun k hk => he8.block k (by omega) (by omega)⟩
    exact ((HBT.out.trans f2).trans e1).trans f3
  have HF := Lib.hid hfin
  clear he8 hfin
  go_wp2
  go_ret
  exact ⟨rfl, HF.out⟩
end Go.Proofs.YtaijepjhmjjecaaDoor

/- cursor: the law's ints; lists of lists of the call's own. -/
namespace Go.Proofs.YtaijepjhmjjecaaDoor
set_option linter.unusedVariables false
open Go.ChangeShapes Go.WideShapes Go.ChangeAt Go.RowKit

/-- A number as ints brings it into 0 .. m. -/
def modI (m : Nat) (x : Int) : Int := (x % 18446744073709551616) % ((m : Int) + 1)
theorem modI_in (m : Nat) (x : Int) : 0 ≤ modI m x ∧ modI m x ≤ m := by
  unfold modI
  have h1 := Int.emod_nonneg (x % 18446744073709551616) (show ((m : Int) + 1) ≠ 0 by omega)
  have h2 := Int.emod_lt_of_pos (x % 18446744073709551616) (show 0 < ((m : Int) + 1) by omega)
  omega
def modL (m : Nat) (l : List Int) : List Int := l.map (modI m)
theorem modL_length (m : Nat) (l : List Int) : (modL m l).length = l.length := by simp [modL]
theorem elI9 : Elem Tryd.prog 23 3 (.int .i64 0) 8 := ⟨Tryd.underlying23, by kernel_rfl, rfl, by decide⟩
theorem intL_snoc9 (l : List Int) (z : Int) : intL (l ++ [z]) = intL l ++ [.int .i64 z] := by rw [intL_append]; rfl
theorem map_take_succ {α β : Type} (f : α → β) (l : List α) {i : Nat} (h : i < l.length) : (l.take (i + 1)).map f = (l.take i).map f ++ [f l[i]] := by
  rw [List.take_succ_eq_append_getElem h, List.map_append]; rfl
set_option maxRecDepth 100000 in
theorem ints_any (w : World) (a : Option Addr) (n c : Nat) (l : List Int) (hr : Rd w (.slice a n c) (intL l)) (hl : l.length ≤ 10000000) (m : Nat) (hm : m ≤ 1000) :
    Calls Tryd.prog 12 #[.slice a n c, .int .i64 (m : Nat)] w fun e w' => ∃ A C, e = .returned (.slice A l.length C) ∧ Own w' w.heap.size 3 (.slice A l.length C) (intL (modL m l)) ∧ Below w.heap.size w w' := by
  obtain ⟨rfl, hc⟩ := rd_il hr
  have HR := Lib.hid hr
  have HC := Lib.hid hc
  have s1 : IntKind.i64.wrap ((m : Int) + 1) = ((m + 1 : Nat) : Int) := by rw [IntKind.wrap_i64]; omega
  have s2 : IntKind.u64.wrap ((m + 1 : Nat) : Int) = ((m + 1 : Nat) : Int) := by rw [IntKind.wrap_u64]; omega
  clear hr hc
  go_enter Tryd.func12, Tryd.ntmps12
  go_wp2
  go_loopw [5, 7, 10] (fun s5 s7 s10 wr => ∃ (i : Nat) (A : Option Addr) (C : Nat) (t7 : Value), s5 = .slice A i C ∧ s7 = t7 ∧ s10 = .int .i64 i ∧ i ≤ l.length ∧ RowKit.Hid (Own wr w.heap.size 3 (.slice A i C) (intL (modL m (l.take i)))) ∧ RowKit.Hid (Below w.heap.size w wr)) (fun _ _ s10 _ => l.length - (intOf s10).toNat)
  case atStart => exact ⟨0, none, 0, _, rfl, rfl, rfl, Nat.zero_le _, Lib.hid (own_nil _ _ _), Lib.hid (Below.refl _ _)⟩
  case round =>
    obtain ⟨i, A, C, t7, rfl, rfl, rfl, hi, HO, HB⟩ := hrel
    by_cases hlt : i < l.length
    · obtain ⟨b, o, rfl, hc⟩ := HC.out (by omega)
      have c1 := (HB.out.cell (World.block_lt_of_cell? w _ (hc i hlt))).trans (hc i hlt)
      have hmt := map_take_succ (modI m) l hlt
      obtain ⟨x, hx⟩ : ∃ x, l[i] = x := ⟨_, rfl⟩
      rw [hx] at c1 hmt
      have hin := modI_in m x
      obtain ⟨y, hy⟩ : ∃ y, modI m x = y := ⟨_, rfl⟩
      rw [hy] at hmt hin
      have i1 : (i : Int) < (l.length : Int) := by omega
      have s3 : IntKind.u64.wrap x = x % 18446744073709551616 := IntKind.wrap_u64 x
      obtain ⟨X, hX⟩ : ∃ X, x % 18446744073709551616 = X := ⟨_, rfl⟩
      have hX0 : 0 ≤ X := by omega
      have hyX : X % ((m + 1 : Nat) : Int) = y := by rw [← hy, ← hX]; unfold modI; rfl
      rw [hX] at s3
      have s4 : X.tmod ((m + 1 : Nat) : Int) = y := by rw [Int.tmod_eq_emod_of_nonneg hX0]; exact hyX
      have s5 : IntKind.u64.wrap y = y := by rw [IntKind.wrap_u64]; omega
      have s6 : IntKind.i64.wrap y = y := by rw [IntKind.wrap_i64]; omega
      have h7 : wrap64 (X.tmod ((m : Int) + 1)) = y := by
        have h9 := s4
        rw [show ((m + 1 : Nat) : Int) = (m : Int) + 1 by omega] at h9
        rw [h9]
        exact IntWalk.wrap64_in _ (by omega)
      have H7 := Lib.hid h7
      have d1 : (((m + 1 : Nat) : Int) == 0) = false := beq_false_of_ne (by omega)
      have hl9 : (intL (modL m (l.take i))).length < 1000000000000 := by rw [intL_length, modL_length, List.length_take]; omega
      have hz := HB.out.size
      have HMT := Lib.hid hmt
      have HL9 := Lib.hid hl9
      clear hx hy hX hX0 hyX hc hmt hl9 hin hlt h7
      go_wp2_with (at_builtin; with_reducible refine ap1' elI9 rfl HO.out HL9.out hz rfl _ _ rfl rfl rfl ?_)
      intro v' w3 g1 g2 g3 g4
      have hb3 := HB.out.grown g4 hz (fun k hk => (HO.out.lt k hk).1)
      have g5 : Own w3 w.heap.size 3 v' (intL (modL m (l.take (i + 1)))) := own_to g1 (by unfold modL; rw [HMT.out, intL_snoc9, ← H7.out])
      obtain ⟨A3, C3, hv⟩ := own_slice g5
      have hln : (intL (modL m (l.take (i + 1)))).length = i + 1 := by rw [intL_length, modL_length, List.length_take]; omega
      rw [hln] at hv
      subst hv
      have HO3 := Lib.hid g5
      have HB3 := Lib.hid hb3
      clear g1 g2 g3 g4 g5 hb3 hln HO HB HL9 HMT s3 s4 s5 s6
      go_wp2
      go_roundw
      case rel => exact ⟨i + 1, A3, C3, _, rfl, rfl, by go_num, by omega, HO3, HB3⟩
      case measure => simp [intOf]; omega
    · obtain rfl : i = l.length := by omega
      have i1 : ¬ ((l.length : Int) < (l.length : Int)) := by omega
      rw [List.take_length] at HO
      clear hlt
      go_wp2
      go_ret
      exact ⟨A, C, rfl, HO.out, HB.out⟩
end Go.Proofs.YtaijepjhmjjecaaDoor
