/- Merged: CurFix, GetP, GetA. -/
import Derived.Test.YtaijepjhmjjecaaDoorZG14
import Derived.Test.YtaijepjhmjjecaaDoorZG21
import Derived.Test.YtaijepjhmjjecaaDoorZG21
import Derived.Test.YtaijepjhmjjecaaDoorZG21
import Derived.Test.YtaijepjhmjjecaaDoorZPhW
import Derived.Test.YtaijepjhmjjecaaDoorZG5
import Derived.Test.YtaijepjhmjjecaaDoorZG12
import Derived.OwnWalk
/- cursor: the law's fixed calls. -/
namespace Go.Proofs.YtaijepjhmjjecaaDoor
set_option linter.unusedVariables false
open Go.ChangeShapes Go.WideShapes Go.ChangeAt Go.RowKit

theorem tw_ok : okV (-1) (twentyV 20) := by show checkV (-1) (twentyV 20) = 0; decide +kernel
theorem tw_fit : FitP (twentyV 20) := by
  intro p hp
  simp only [twentyV, List.mem_map, List.mem_range] at hp
  obtain ⟨i, hi, rfl⟩ := hp
  refine ⟨by show _ ∧ 10 * (i : Int) ≤ _; constructor; show _ ≤ 10 * (i : Int); omega; omega, ?_, by show 1 ≤ 31000000; omega⟩
  intro x hx
  simp at hx; subst hx; decide
theorem tw_total : totalV (twentyV 20) ≤ 20000000 := by decide +kernel
theorem tw_image : (imageV (twentyV 20)).length ≤ 1000000000 := by decide +kernel
theorem tw_next : (if 0 = (twentyV 20).length + 1 then 0 else 0 + 1) = 1 ∧ (if 0 = (twentyV 20).length + 1 then 0 else 0 + costU 0 0 (twentyV 20).length) = 1 ∧ docU (twentyV 20) 1 = 0 := by decide +kernel
theorem tw_adv : ¬ stayU (twentyV 20) 1 165 ∧ firstU (twentyV 20) 1 165 = 17 ∧ 1 + costU 1 17 (twentyV 20).length = 4 ∧ docU (twentyV 20) 18 = 170 ∧ (posU (twentyV 20) 18).length = 1 := by decide +kernel
theorem tw_end : ¬ stayU (twentyV 20) 18 1000 ∧ firstU (twentyV 20) 18 1000 = 20 ∧ docU (twentyV 20) 21 = 2147483647 := by decide +kernel
theorem tw_ph : phV [[1, 5, 9], [2, 10]] [0, 1] 0 = 2 := by decide +kernel
/-- The lists of the law's phrase. -/
def phW (w : World) : World := (((w.alloc (.cells #[.int .i64 1, .int .i64 5, .int .i64 9] 3)).alloc (.cells #[.int .i64 2, .int .i64 10] 3)).alloc (.cells #[.slice (some ⟨w.heap.size, 0, none⟩) 3 3, .slice (some ⟨w.heap.size + 1, 0, none⟩) 2 2] 23)).alloc (.cells #[.int .i64 0, .int .i64 1] 3)
theorem phW_of (w : World) : RdLL (phW w) (some ⟨w.heap.size + 2, 0, none⟩) 2 [[1, 5, 9], [2, 10]] ∧ Rd (phW w) (.slice (some ⟨w.heap.size + 3, 0, none⟩) 2 2) (intL [0, 1]) ∧ Below w.heap.size w (phW w) := by
  unfold phW
  have o1 := own_lit w 0 3 [.int .i64 1, .int .i64 5, .int .i64 9] (Nat.zero_le _) (by decide)
  have b0 := (Below.refl w.heap.size w).alloc (Nat.le_refl _) (.cells #[.int .i64 1, .int .i64 5, .int .i64 9] 3)
  have z1 : (w.alloc (.cells #[.int .i64 1, .int .i64 5, .int .i64 9] 3)).heap.size = w.heap.size + 1 := by simp
  change Own (w.alloc (.cells #[.int .i64 1, .int .i64 5, .int .i64 9] 3)) 0 3 (.slice (some ⟨w.heap.size, 0, none⟩) 3 3) _ at o1
  generalize w.alloc (.cells #[.int .i64 1, .int .i64 5, .int .i64 9] 3) = w1 at o1 b0 z1 ⊢
  have o2 := own_lit w1 0 3 [.int .i64 2, .int .i64 10] (Nat.zero_le _) (by decide)
  have b1 := (Below.refl w1.heap.size w1).alloc (Nat.le_refl _) (.cells #[.int .i64 2, .int .i64 10] 3)
  have z2 : (w1.alloc (.cells #[.int .i64 2, .int .i64 10] 3)).heap.size = w.heap.size + 2 := by simp; omega
  change Own (w1.alloc (.cells #[.int .i64 2, .int .i64 10] 3)) 0 3 (.slice (some ⟨w1.heap.size, 0, none⟩) 2 2) _ at o2
  rw [z1] at o2
  generalize w1.alloc (.cells #[.int .i64 2, .int .i64 10] 3) = w2 at o2 b1 z2 ⊢
  have o1' := o1.below b1 (Nat.le_refl _)
  have b2 := (Below.refl w2.heap.size w2).alloc (Nat.le_refl _) (.cells #[.slice (some ⟨w.heap.size, 0, none⟩) 3 3, .slice (some ⟨w.heap.size + 1, 0, none⟩) 2 2] 23)
  have h3 := heap_alloc_new w2 (.cells #[.slice (some ⟨w.heap.size, 0, none⟩) 3 3, .slice (some ⟨w.heap.size + 1, 0, none⟩) 2 2] 23)
  have z3 : (w2.alloc (.cells #[.slice (some ⟨w.heap.size, 0, none⟩) 3 3, .slice (some ⟨w.heap.size + 1, 0, none⟩) 2 2] 23)).heap.size = w.heap.size + 3 := by simp; omega
  rw [z2] at h3
  generalize w2.alloc (.cells #[.slice (some ⟨w.heap.size, 0, none⟩) 3 3, .slice (some ⟨w.heap.size + 1, 0, none⟩) 2 2] 23) = w3 at b2 h3 z3 ⊢
  have o1'' := o1'.below b2 (Nat.le_refl _)
  have o2' := o2.below b2 (Nat.le_refl _)
  have o4 := own_lit w3 0 3 [.int .i64 0, .int .i64 1] (Nat.zero_le _) (by decide)
  have b3 := (Below.refl w3.heap.size w3).alloc (Nat.le_refl _) (.cells #[.int .i64 0, .int .i64 1] 3)
  change Own (w3.alloc (.cells #[.int .i64 0, .int .i64 1] 3)) 0 3 (.slice (some ⟨w3.heap.size, 0, none⟩) 2 2) _ at o4
  rw [z3] at o4
  have h4 : (w3.alloc (.cells #[.int .i64 0, .int .i64 1] 3)).heap[w.heap.size + 2]? = _ := (Below.heap_alloc _ _ _ (by omega)).trans h3
  generalize w3.alloc (.cells #[.int .i64 0, .int .i64 1] 3) = w4 at o4 b3 h4 ⊢
  have o1''' := o1''.below b3 (Nat.le_refl _)
  have o2'' := o2'.below b3 (Nat.le_refl _)
  refine ⟨⟨rfl, fun _ => ⟨_, 0, rfl, fun i hi => ?_⟩⟩, o4.rd, ?_⟩
  · match i, hi with
    | 0, _ => exact ⟨_, 3, blk_cell h4 0, o1'''.rd⟩
    | 1, _ => exact ⟨_, 2, blk_cell h4 1, o2''.rd⟩
  · exact ((b0.trans (b1.mono (by omega))).trans (b2.mono (by omega))).trans (b3.mono (by omega))
set_option maxRecDepth 100000 in
set_option maxHeartbeats 4000000 in
theorem fixed_any (w : World) (EA : Nat → Addr) (hS : Sent6 w EA) : Calls Tryd.prog 9 #[] w fun e w' => e = .returned (.bool true) ∧ Below w.heap.size w w' := by
  have C1 := twenty_any w
  have HS := Lib.hid hS
  clear hS
  go_enter Tryd.func9, Tryd.ntmps9
  go_wp2_with fail
  with_reducible refine C1.mono ?_
  rintro e w1 ⟨A1, N1, rfl, ⟨hl1, vs1, hr1⟩, hb1⟩
  clear C1
  have hn1 : 20 ≤ N1 := by
    obtain ⟨_, _, he1, hn1, _⟩ := hr1.sl
    injection he1 with _ e1 e2
    rw [e2]; omega
  have C2 := renc_any w1 A1 20 N1 (twentyV 20) hr1.rd hn1 tw_fit (by rw [twentyV_length]; omega) (Nat.le_trans tw_total (by decide)) EA (HS.out.below hb1)
  have HB1 := Lib.hid hb1
  clear hl1 hr1 hb1 hn1
  go_wp2_with fail
  with_reducible refine C2.mono ?_
  rintro e w2 ⟨h2, -⟩
  clear C2
  obtain ⟨A2, N2, K2, rfl, ho2, hb2⟩ := h2 tw_ok
  clear h2
  have HB2 := Lib.hid (HB1.out.trans (hb2.mono HB1.out.size))
  have hrd := ho2.rd
  have C3 := copen_ok w2 A2 N2 K2 (twentyV 20) tw_ok tw_fit (by rw [twentyV_length]; omega) tw_total tw_image hrd EA (HS.out.below HB2.out)
  have HC3 := Lib.hid C3
  clear ho2 hb2 hrd HB1 C3
  go_wp2_with fail
  with_reducible refine HC3.out.mono ?_
  rintro e w3 ⟨q, pl, rfl, h3, hb3⟩
  have HBT := Lib.hid (HB2.out.trans (hb3.mono HB2.out.size))
  have hz3 := hb3.size
  obtain ⟨B, hB⟩ : ∃ B, w2.heap.size = B := ⟨_, rfl⟩
  rw [hB] at h3 hz3
  have hwB : w.heap.size ≤ B := by have := HB2.out.size; omega
  have hq : B ≤ q := by obtain ⟨_, _, h⟩ := h3; exact h.hq
  have hlo : Low6 B := by obtain ⟨_, _, h⟩ := h3; exact h.lo
  have HLO := Lib.hid hlo
  obtain ⟨bk, rv, h3b⟩ := id h3
  have C4 := docB_any w3 B q _ _ _ _ 0 0 false bk rv h3b
  rw [docU_zero] at C4
  have HS3 := Lib.hid (HS.out.below HBT.out)
  have C5 := next_any w3 B q _ _ _ 0 0 false h3 hz3 (by omega) EA HS3.out
  rw [tw_next.1, tw_next.2.1, tw_next.2.2, ite_self] at C5
  have HC5 := Lib.hid C5
  clear h3 hb3 h3b hlo C5 hB HC3
  go_wp2_with fail
  with_reducible refine C4.mono ?_
  rintro e wx ⟨rfl, rfl⟩
  clear C4
  go_wp2_with fail
  with_reducible refine HC5.out.mono ?_
  rintro e w4 ⟨rfl, h4, he4⟩
  have C6 := adv_any w4 B q _ _ _ 1 1 false h4 (Nat.le_trans hz3 he4.size) (by omega) 165 EA (HS3.out.effq he4 HLO.out hq)
  rw [if_neg tw_adv.1, if_neg tw_adv.1, if_neg tw_adv.1, tw_adv.2.1, tw_adv.2.2.1, tw_adv.2.2.2.1] at C6
  have HE4 := Lib.hid he4
  have HC6 := Lib.hid C6
  clear h4 he4 C6 HC5
  go_wp2_with fail
  with_reducible refine HC6.out.mono ?_
  rintro e w5 ⟨rfl, h5, he5⟩
  have HE5 := Lib.hid (HE4.out.trans he5 (fun i hi _ => hi))
  obtain ⟨bk5, rv5, h5b⟩ := id h5
  have C7 := movB_any w5 B q _ _ _ _ 18 4 false bk5 rv5 h5b
  have C8 := freq_any w5 B q _ _ _ 18 4 false h5 (Nat.le_trans hz3 HE5.out.size) EA (HS3.out.effq HE5.out HLO.out hq)
  rw [tw_adv.2.2.2.2] at C8
  have HC8 := Lib.hid C8
  clear h5 h5b he5 C8 HC6 HE4
  go_wp2_with fail
  with_reducible refine C7.mono ?_
  rintro e wx ⟨rfl, rfl⟩
  clear C7
  go_wp2_with fail
  with_reducible refine HC8.out.mono ?_
  rintro e w6 ⟨rfl, h6, he6⟩
  have HE6 := Lib.hid (HE5.out.trans he6 (fun i hi _ => hi))
  have H6 := Lib.hid h6
  clear h6 he6 HC8 HE5
  have z6 : ∀ (o1 o2 o3 : Obj), (w6.alloc o1).heap.size = w6.heap.size + 1 ∧ ((w6.alloc o1).alloc o2).heap.size = w6.heap.size + 2 ∧ (((w6.alloc o1).alloc o2).alloc o3).heap.size = w6.heap.size + 3 := fun _ _ _ => ⟨by simp, by simp, by simp⟩
  obtain ⟨k1, k2, k3⟩ := phW_of w6
  have C9 := ph_any (phW w6) _ 2 2 _ k1 _ 2 2 [0, 1] k2 0 (by decide) (by decide) (by decide)
  rw [tw_ph] at C9
  have HB9 := Lib.hid k3
  unfold phW at C9
  have HC9 := Lib.hid C9
  clear k1 k2 k3 C9 z6
  go_wp2_with fail
  with_reducible refine HC9.out.mono ?_
  rintro e w7 ⟨rfl, hb7⟩
  have hbb := HB9.out.trans (show Below w6.heap.size (phW w6) w7 from hb7.mono HB9.out.size)
  have H7 := H6.out.below hbb (Nat.le_refl _)
  have HB7 := Lib.hid hbb
  have hzz : B ≤ w7.heap.size := Nat.le_trans (Nat.le_trans hz3 HE6.out.size) hbb.size
  have S7 := (HS3.out.effq HE6.out HLO.out hq).below hbb
  have C10 := adv_any w7 B q _ _ _ 18 4 false H7 hzz (by omega) 1000 EA S7
  rw [if_neg tw_end.1, if_neg tw_end.1, if_neg tw_end.1, tw_end.2.1, tw_end.2.2] at C10
  have HC10 := Lib.hid C10
  clear hb7 hbb H7 S7 C10 HC9
  go_wp2_with fail
  with_reducible refine HC10.out.mono ?_
  rintro e w8 ⟨rfl, -, he8⟩
  have hfin : Below w.heap.size w w8 := by
    have e1 := HB7.out.mono (show w.heap.size ≤ w6.heap.size from Nat.le_trans hwB (Nat.le_trans hz3 HE6.out.size))
    have f1 := HE6.out
    have f2 : Below w.heap.size w3 w6 := ⟨f1.os, f1.tape, f1.output, f1.size, fun k hk => f1.block k (by omega) (by omega)⟩
    have f3 : Below w.heap.size w7 w8 := ⟨he8.os, he8.tape, he8.output, he8.size, fun k hk => he8.block k (by omega) (by omega)⟩
    exact ((HBT.out.trans f2).trans e1).trans f3
  have HF := Lib.hid hfin
  clear he8 hfin
  go_wp2
  go_ret
  exact ⟨rfl, HF.out⟩
end Go.Proofs.YtaijepjhmjjecaaDoor

/- Plain: how the document reads numbers from the top down. -/
namespace Go.Proofs.YtaijepjhmjjecaaDoor
set_option linter.unusedVariables false

/-- Seven bits a byte, the lowest first. -/
def hor : List UInt8 → Nat
  | [] => 0
  | x :: r => x.toNat % 128 + 128 * hor r
theorem hor_snoc : ∀ (a : List UInt8) (x : UInt8), hor (a ++ [x]) = hor a + x.toNat % 128 * 2 ^ (7 * a.length)
  | [], x => by simp [hor]
  | y :: a, x => by
    have := hor_snoc a x
    rw [List.cons_append, hor, hor, this, List.length_cons, show 7 * (a.length + 1) = 7 * a.length + 7 by omega, Nat.pow_add]
    rw [Nat.mul_add, ← Nat.add_assoc]
    congr 1
    rw [show (2 : Nat) ^ 7 = 128 by rfl, Nat.mul_left_comm, Nat.mul_comm 128]
theorem hor_drop_le : ∀ (l : List UInt8) (i : Nat), hor (l.drop i) ≤ hor l
  | [], i => by simp
  | x :: r, 0 => by simp
  | x :: r, i + 1 => by
    have := hor_drop_le r i
    rw [List.drop_succ_cons, hor]; omega
theorem hor_step {l : List UInt8} {i : Nat} (h : i < l.length) : hor (l.drop i) = 128 * hor (l.drop (i + 1)) + l[i].toNat % 128 := by
  rw [List.drop_eq_getElem_cons h, hor]; omega
theorem leN_step {l : List UInt8} {i : Nat} (h : i < l.length) : leN (l.drop i) = 256 * leN (l.drop (i + 1)) + l[i].toNat := by
  rw [List.drop_eq_getElem_cons h, leN]; omega
theorem leN_drop_le : ∀ (l : List UInt8) (i : Nat), leN (l.drop i) ≤ leN l
  | [], i => by simp
  | x :: r, 0 => by simp
  | x :: r, i + 1 => by
    have := leN_drop_le r i
    rw [List.drop_succ_cons, leN]; omega

/-- The first n bytes of L go on: what is to be read is what is read behind them. -/
structure Scan (L : List UInt8) (n : Nat) : Prop where
  le : n ≤ L.length
  n9 : n ≤ 9
  eq : getU L = rdU n (hor (L.take n)) (L.drop n)
theorem scan_zero (L : List UInt8) : Scan L 0 := ⟨Nat.zero_le _, by omega, rfl⟩
theorem Scan.short {L : List UInt8} {n : Nat} (h : Scan L n) (hn : L.length ≤ n) : getU L = .error 1 := by
  rw [h.eq, List.drop_eq_nil_of_le hn, rdU]
theorem Scan.here {L : List UInt8} {n : Nat} (h : Scan L n) (hn : n < L.length) : getU L =
    if n = 9 ∧ 1 < L[n].toNat then .error 2
    else if 128 ≤ L[n].toNat then rdU (n + 1) (hor (L.take (n + 1))) (L.drop (n + 1))
    else if L[n].toNat = 0 ∧ 0 < n then .error 2
    else .ok (hor (L.take (n + 1)), n + 1) := by
  have e : hor (L.take (n + 1)) = hor (L.take n) + L[n].toNat % 128 * 2 ^ (7 * n) := by
    rw [List.take_add_one, List.getElem?_eq_getElem hn, Option.toList_some, hor_snoc, List.length_take, Nat.min_eq_left (by omega)]
  rw [h.eq, List.drop_eq_getElem_cons hn, rdU, e]
theorem Scan.ten {L : List UInt8} {n : Nat} (h : Scan L n) (hn : n < L.length) (h9 : n = 9) (h1 : 1 < L[n].toNat) : getU L = .error 2 := by
  rw [h.here hn, if_pos ⟨h9, h1⟩]
theorem Scan.next {L : List UInt8} {n : Nat} (h : Scan L n) (hn : n < L.length) (h1 : 128 ≤ L[n].toNat) (h9 : ¬ (n = 9 ∧ 1 < L[n].toNat)) : Scan L (n + 1) :=
  ⟨hn, by have := h.n9; by_cases e : n = 9; exact absurd ⟨e, by omega⟩ h9; omega, by rw [h.here hn, if_neg h9, if_pos h1]⟩
theorem Scan.zero {L : List UInt8} {n : Nat} (h : Scan L n) (hn : n < L.length) (h0 : L[n].toNat = 0) (hp : 0 < n) : getU L = .error 2 := by
  rw [h.here hn, if_neg (by omega), if_neg (by omega), if_pos ⟨h0, hp⟩]
theorem Scan.ok {L : List UInt8} {n : Nat} (h : Scan L n) (hn : n < L.length) (h9 : ¬ (n = 9 ∧ 1 < L[n].toNat)) (h1 : L[n].toNat < 128) (h0 : ¬ (L[n].toNat = 0 ∧ 0 < n)) : getU L = .ok (hor (L.take (n + 1)), n + 1) := by
  rw [h.here hn, if_neg h9, if_neg (by omega), if_neg h0]
/-- Where a number stands: its value from place i on. -/
theorem hor_take_step {L : List UInt8} {n i : Nat} (hn : n ≤ L.length) (hi : i < n) : hor ((L.take n).drop i) = 128 * hor ((L.take n).drop (i + 1)) + (L[i]'(by omega)).toNat % 128 := by
  rw [hor_step (l := L.take n) (i := i) (by rw [List.length_take]; omega), List.getElem_take]
theorem leN_take_step {L : List UInt8} {n i : Nat} (hn : n ≤ L.length) (hi : i < n) : leN ((L.take n).drop i) = 256 * leN ((L.take n).drop (i + 1)) + (L[i]'(by omega)).toNat := by
  rw [leN_step (l := L.take n) (i := i) (by rw [List.length_take]; omega), List.getElem_take]
theorem take_drop_self {α : Type} (L : List α) (n : Nat) : (L.take n).drop n = [] := List.drop_eq_nil_of_le (by rw [List.length_take]; omega)

/-- A rising list, number by number: behind r, least above its last, K bytes taken. -/
structure RisAt (m : Nat) (L : List UInt8) (r : List Int) (least K : Nat) : Prop where
  hK : K ≤ L.length
  le : r.length ≤ m
  l63 : least ≤ 2 ^ 63
  rk : r.length ≤ K
  eq : getR m (-1) L = match getR (m - r.length) ((least : Int) - 1) (L.drop K) with
    | .error e => .error e
    | .ok (s, j) => .ok (r ++ s, K + j)
theorem ris_zero (m : Nat) (L : List UInt8) : RisAt m L [] 0 0 := ⟨Nat.zero_le _, Nat.zero_le _, Nat.zero_le _, Nat.zero_le _, by
  simp only [List.length_nil, Nat.sub_zero, List.drop_zero, List.nil_append, Nat.zero_add]
  show getR m (-1) L = match getR m (-1) L with | .error e => .error e | .ok (s, j) => .ok (s, j)
  cases getR m (-1) L <;> rfl⟩
theorem RisAt.step {m : Nat} {L : List UInt8} {r : List Int} {least K : Nat} (h : RisAt m L r least K) (hr : r.length < m) :
    (∀ e, getU (L.drop K) = .error e → getR m (-1) L = .error e) ∧
    (∀ u k, getU (L.drop K) = .ok (u, k) → (9223372036854775807 < (least : Int) + u → getR m (-1) L = .error 3) ∧ ((least : Int) + u ≤ 9223372036854775807 → RisAt m L (r ++ [(least : Int) + u]) (least + u + 1) (K + k))) := by
  obtain ⟨q, hq⟩ : ∃ q, m - r.length = q + 1 := ⟨m - r.length - 1, by omega⟩
  have he := h.eq
  rw [hq, getR] at he
  refine ⟨fun e hu => ?_, fun u k hu => ⟨fun hlt => ?_, fun hle => ⟨?_, ?_, by omega, ?_, ?_⟩⟩⟩
  · rw [hu] at he; exact he
  · rw [hu] at he; simp only at he; rw [if_pos (by omega)] at he; exact he
  · have := (getU_len hu).1; rw [List.length_drop] at this; have := h.hK; omega
  · simp; omega
  · have := (getU_len hu).2.1; have := h.rk; simp; omega
  · rw [hu] at he
    simp only at he
    rw [if_neg (by omega), List.drop_drop] at he
    rw [he, List.length_append, List.length_singleton, show m - (r.length + 1) = q by omega, show (((least + u + 1 : Nat) : Int) - 1) = (least : Int) - 1 + u + 1 by omega]
    cases getR q ((least : Int) - 1 + u + 1) (L.drop (K + k)) with
    | error e => rfl
    | ok y => obtain ⟨s, j⟩ := y; simp [Nat.add_assoc]; omega
theorem RisAt.done {m : Nat} {L : List UInt8} {r : List Int} {least K : Nat} (h : RisAt m L r least K) (hr : r.length = m) : getR m (-1) L = .ok (r, K) := by
  have he := h.eq
  rw [hr, Nat.sub_self, getR] at he
  simpa using he

/-- A number of w bits, from the top down. -/
theorem bits_step (X w k : Nat) (hk : k < w) : X % 2 ^ w / 2 ^ k = 2 * (X % 2 ^ w / 2 ^ (k + 1)) + X / 2 ^ k % 2 := by
  have e1 : X % 2 ^ w / 2 ^ (k + 1) = X % 2 ^ w / 2 ^ k / 2 := by rw [Nat.pow_succ, Nat.div_div_eq_div_mul]
  have e2 : X % 2 ^ w / 2 ^ k % 2 = X / 2 ^ k % 2 := by
    have e3 : 2 ^ w = 2 ^ k * 2 ^ (w - k) := by rw [← Nat.pow_add, Nat.add_sub_cancel' (by omega)]
    rw [e3, Nat.mod_mul_right_div_self, Nat.mod_mod_of_dvd]
    have := Nat.pow_dvd_pow 2 (show 1 ≤ w - k by omega)
    simpa using this
  rw [e1, ← e2]; omega
theorem bits_top (X w : Nat) : X % 2 ^ w / 2 ^ w = 0 := Nat.div_eq_of_lt (Nat.mod_lt _ (Nat.two_pow_pos w))
/-- One bit of the bytes. -/
theorem bit_at (l : List UInt8) (p : Nat) (h : p / 8 < l.length) : leN l / 2 ^ p % 2 = l[p / 8].toNat / 2 ^ (p % 8) % 2 := by
  have e : 2 ^ p = 256 ^ (p / 8) * 2 ^ (p % 8) := by
    rw [show (256 : Nat) = 2 ^ 8 by rfl, ← Nat.pow_mul, ← Nat.pow_add]; congr 1; omega
  rw [e, ← Nat.div_div_eq_div_mul, ← leN_get l (p / 8) h]
  generalize leN l / 256 ^ (p / 8) = Y
  have e3 : (256 : Nat) = 2 ^ (p % 8) * 2 ^ (8 - p % 8) := by rw [← Nat.pow_add, Nat.add_sub_cancel' (by omega)]
  rw [e3, Nat.mod_mul_right_div_self, Nat.mod_mod_of_dvd]
  have := Nat.pow_dvd_pow 2 (show 1 ≤ 8 - p % 8 by omega)
  simpa using this
theorem bit_zero_step (N p : Nat) (h : N / 2 ^ p % 2 = 0) : N / 2 ^ p = 0 ↔ N / 2 ^ (p + 1) = 0 := by
  rw [Nat.pow_succ, ← Nat.div_div_eq_div_mul]; omega
/-- One bit of the S bytes behind K1. -/
theorem bit_of {bs : List UInt8} {K1 S p : Nat} (hp : p < 8 * S) (hS : K1 + S ≤ bs.length) : leN ((bs.drop K1).take S) / 2 ^ p % 2 = (bs[K1 + p / 8]'(by omega)).toNat / 2 ^ (p % 8) % 2 := by
  rw [bit_at _ p (by rw [List.length_take, List.length_drop]; omega), List.getElem_take, List.getElem_drop]
/-- Place by place: no bit from T to p is set. -/
structure Clr (N T p : Nat) : Prop where
  le : T ≤ p
  eq : N / 2 ^ T = 0 ↔ N / 2 ^ p = 0
theorem clr_zero (N T : Nat) : Clr N T T := ⟨Nat.le_refl _, Iff.rfl⟩
theorem Clr.step {N T p : Nat} (h : Clr N T p) (hb : N / 2 ^ p % 2 = 0) : Clr N T (p + 1) := ⟨Nat.le_succ_of_le h.le, h.eq.trans (bit_zero_step N p hb)⟩
theorem Clr.set {N T p : Nat} (h : Clr N T p) (hb : N / 2 ^ p % 2 ≠ 0) : N / 2 ^ T ≠ 0 := fun h0 => by
  have := h.eq.1 h0; rw [this] at hb; exact hb rfl
theorem Clr.done {N T p S : Nat} (h : Clr N T p) (hp : p = 8 * S) (hN : N < 256 ^ S) : N / 2 ^ T = 0 := h.eq.2 (by
  rw [hp, Nat.pow_mul]; exact Nat.div_eq_of_lt hN)
/-- What Packed reads behind the count, case by case. -/
theorem pk_back {most : Int} {L : List UInt8} {n c : Nat} (hres : getUpto most L = .ok (n, c)) (hn0 : n ≠ 0) : getPk most L = match getPB n (L.drop c) with
    | .error e => .error e
    | .ok (r, j) => .ok (r, c + j) := by
  unfold getPk; rw [hres]; simp only [if_neg hn0]
  cases getPB n (L.drop c) with
  | error e => rfl
  | ok y => rfl
end Go.Proofs.YtaijepjhmjjecaaDoor

/- The document's readers: a byte, a uvarint, a varint, a number up to most, a word. -/
namespace Go.Proofs.YtaijepjhmjjecaaDoor
set_option linter.unusedVariables false
open Go.ChangeShapes Go.WideShapes Go.ChangeAt Go.RowKit

/-- What a reader of the document answers. -/
def DOut {α : Type} (w : World) (k : Nat) (zero : Value) (val : α → Value) (res : Except Nat (α × Nat)) (e : Ending) (w' : World) : Prop :=
  (∀ n, res = .error n → e = .returned (.tuple #[zero, .int .i64 k, .int .i64 n])) ∧
  (∀ x n, res = .ok (x, n) → e = .returned (.tuple #[val x, .int .i64 (k + n : Nat), .int .i64 0])) ∧ w = w'
theorem DOut.err {α : Type} {w : World} {k : Nat} {zero : Value} {val : α → Value} {res : Except Nat (α × Nat)} {e : Ending} {n : Nat} (hr : res = .error n) (he : e = .returned (.tuple #[zero, .int .i64 k, .int .i64 n])) : DOut w k zero val res e w :=
  ⟨fun m hm => (by rw [hr] at hm; injection hm with hm; subst hm; exact he), fun x m hm => (by rw [hr] at hm; cases hm), rfl⟩
theorem DOut.ok {α : Type} {w : World} {k : Nat} {zero : Value} {val : α → Value} {res : Except Nat (α × Nat)} {e : Ending} {x : α} {n : Nat} (hr : res = .ok (x, n)) (he : e = .returned (.tuple #[val x, .int .i64 (k + n : Nat), .int .i64 0])) : DOut w k zero val res e w :=
  ⟨fun m hm => (by rw [hr] at hm; cases hm), fun y m hm => (by rw [hr] at hm; injection hm with hm; injection hm with h3 h4; subst h3 h4; exact he), rfl⟩
theorem rd_bytes {w : World} {a : Option Addr} {n c : Nat} {l : List UInt8} (h : Rd w (.slice a n c) (bytesV l)) : n = l.length ∧ (0 < l.length → ∃ b o, a = some ⟨b, o, none⟩ ∧ ∀ (j : Nat) (hj : j < l.length), w.cell? ⟨b, o + j, none⟩ = some (.int .u8 (l[j].toNat : Nat))) := by
  obtain ⟨A, c', h, _, hg⟩ := h
  injection h with h1 h2 h3
  subst h1 h2 h3
  rw [bytesV_length] at hg ⊢
  refine ⟨rfl, fun h0 => ?_⟩
  obtain ⟨b, o, e, hg⟩ := hg h0
  exact ⟨b, o, e, fun j hj => hg j _ (bytesV_get l j hj)⟩


set_option maxRecDepth 100000 in
set_option maxHeartbeats 1000000 in
theorem rgu_any (w : World) (a : Option Addr) (n c : Nat) (bs : List UInt8) (hr : Rd w (.slice a n c) (bytesV bs)) (hl : bs.length ≤ 1000000000) (k : Nat) (hk : k ≤ bs.length) :
    Calls Tryd.prog 100 #[.slice a n c, .int .i64 k] w (DOut w k (.int .u64 0) (fun u : Nat => .int .u64 u) (getU (bs.drop k))) := by
  obtain ⟨rfl, hg⟩ := rd_bytes hr
  clear hr
  have HG := Lib.hid hg
  clear hg
  go_enter Tryd.func100, Tryd.ntmps100
  go_wp2
  go_loopw [7] (fun s wr => ∃ n : Nat, s = .int .i64 n ∧ Scan (bs.drop k) n ∧ w = wr) (fun s _ => 20 - (intOf s).toNat)
  case atStart => exact ⟨0, rfl, scan_zero _, rfl⟩
  case round =>
    obtain ⟨m, rfl, hs, rfl⟩ := hrel
    have h9 := hs.n9
    by_cases h : k + m < bs.length
    · obtain ⟨b, o, rfl, hg⟩ := HG.out (by omega)
      have hc := hg (k + m) h
      have hm : m < (bs.drop k).length := by rw [List.length_drop]; omega
      have hX : (bs.drop k)[m] = bs[k + m] := List.getElem_drop
      have hten := hs.ten hm
      have hnx := hs.next hm
      have hzr := hs.zero hm
      have hok := hs.ok hm
      rw [hX] at hten hnx hzr hok
      obtain ⟨x, hx⟩ : ∃ x, bs[k + m].toNat = x := ⟨_, rfl⟩
      have hx2 : x < 256 := by rw [← hx]; exact bs[k + m].toNat_lt
      rw [hx] at hc hten hnx hzr hok
      rw [show o + (k + m) = o + (k + m) from rfl] at hc
      have HT := Lib.hid hten
      have HN := Lib.hid hnx
      have HZ := Lib.hid hzr
      have HO := Lib.hid hok
      have q1 : (k : Int) + (m : Int) < (bs.length : Nat) := by omega
      clear hg hX hx hten hnx hzr hok hs
      go_upto_region 6 with fail
      go_cut [31] (fun s wx => w = wx ∧ s = .bool (decide (m = 9 ∧ 1 < x)))
      case first =>
        by_cases e1 : m = 9
        · by_cases e2 : 1 < x
          · have t1 : ((m : Int) + 1 == 10) = true := by simp; omega
            go_wp2
            all_goals go_meet
            exact ⟨rfl, congrArg Value.bool (decide_eq_decide.2 (by omega))⟩
          · have t1 : ((m : Int) + 1 == 10) = true := by simp; omega
            go_wp2
            all_goals go_meet
            exact ⟨rfl, congrArg Value.bool (decide_eq_decide.2 (by omega))⟩
        · have t1 : ((m : Int) + 1 == 10) = false := by simp; omega
          go_wp2
          all_goals go_meet
          exact ⟨rfl, congrArg Value.bool (decide_eq_false (fun h => by omega)).symm⟩
      case rest =>
        obtain ⟨rfl, rfl⟩ := hcut
        by_cases h1 : m = 9 ∧ 1 < x
        · rw [decide_eq_true h1]
          go_wp2
          go_ret3
          exact DOut.err (HT.out h1.1 h1.2) rfl
        · rw [decide_eq_false h1]
          by_cases h2 : 128 ≤ x
          · have hn := HN.out h2 h1
            have HN2 := Lib.hid hn
            have H1 := Lib.hid h1
            clear hn h1
            go_wp2
            go_roundw
            case rel => exact ⟨m + 1, by go_num, HN2.out, by first | rfl | trivial⟩
            case measure => simp [intOf]; omega
          · have H1 := Lib.hid h1
            clear h1
            go_upto_region 9 with fail
            go_cut [40] (fun s wx => w = wx ∧ s = .bool (decide (x = 0 ∧ 0 < m)))
            case first =>
              by_cases e1 : x = 0
              · by_cases e2 : 0 < m
                · have t1 : ((x : Int) == 0) = true := by simp; omega
                  go_wp2
                  all_goals go_meet
                  exact ⟨rfl, congrArg Value.bool (decide_eq_decide.2 (by omega))⟩
                · have t1 : ((x : Int) == 0) = true := by simp; omega
                  go_wp2
                  all_goals go_meet
                  exact ⟨rfl, congrArg Value.bool (decide_eq_decide.2 (by omega))⟩
              · have t1 : ((x : Int) == 0) = false := by simp; omega
                go_wp2
                all_goals go_meet
                exact ⟨rfl, congrArg Value.bool (decide_eq_false (fun h => by omega)).symm⟩
            case rest =>
              obtain ⟨rfl, rfl⟩ := hcut
              by_cases h3 : x = 0 ∧ 0 < m
              · rw [decide_eq_true h3]
                go_wp2
                go_ret3
                exact DOut.err (HZ.out h3.1 h3.2) rfl
              · rw [decide_eq_false h3]
                have hres := HO.out H1.out (by omega) h3
                have hV := (getU_ok hres).1
                have HR := Lib.hid hres
                have HV := Lib.hid hV
                clear hres hV h3
                have hb : k + (m + 1) ≤ bs.length := by omega
                go_wp2
                go_loopw [9, 10] (fun s9 s10 wr => ∃ j : Nat, j ≤ m + 1 ∧ s10 = .int .i64 ((j : Int) - 1) ∧ s9 = .int .u64 (hor (((bs.drop k).take (m + 1)).drop j) : Nat) ∧ w = wr) (fun _ s _ => (intOf s + 1).toNat)
                case atStart => exact ⟨m + 1, Nat.le_refl _, by go_num, by rw [take_drop_self]; rfl, rfl⟩
                case round =>
                  obtain ⟨j, hj, rfl, rfl, rfl⟩ := hrel
                  by_cases hj0 : j = 0
                  · subst hj0
                    go_wp2
                    go_ret3
                    refine DOut.ok HR.out ?_
                    rw [List.drop_zero]
                    go_num
                  · obtain ⟨i, rfl⟩ : ∃ i, j = i + 1 := ⟨j - 1, by omega⟩
                    obtain ⟨b', o', e', hg⟩ := HG.out (by omega)
                    injection e' with e'
                    injection e' with e1 e2
                    subst e1 e2
                    have hc2 := hg (k + i) (by omega)
                    have hst := hor_take_step (L := bs.drop k) (n := m + 1) (i := i) (by rw [List.length_drop]; omega) (by omega)
                    rw [List.getElem_drop] at hst
                    have hle := hor_drop_le ((bs.drop k).take (m + 1)) i
                    have hv2 := HV.out
                    obtain ⟨y, hy⟩ : ∃ y, bs[k + i].toNat = y := ⟨_, rfl⟩
                    have hy2 : y < 256 := by rw [← hy]; exact bs[k + i].toNat_lt
                    rw [hy] at hc2 hst
                    obtain ⟨V, hVV⟩ : ∃ V, hor (((bs.drop k).take (m + 1)).drop (i + 1)) = V := ⟨_, rfl⟩
                    rw [hVV] at hst ⊢
                    have q5 : 128 * (V : Int) + (y : Int) % 128 ≤ 18446744073709551615 := by omega
                    have q6 : (k : Int) + (i : Int) < (bs.length : Nat) := by omega
                    have HST := Lib.hid hst
                    clear hg hy hle hv2 hst hVV
                    rw [show (((i + 1 : Nat) : Int) - 1) = (i : Int) by omega]
                    go_wp2
                    go_roundw
                    case rel => exact ⟨i, by omega, by go_num, by rw [HST.out]; go_num, by first | rfl | trivial⟩
                    case measure => simp [intOf] <;> omega
    · have hres := hs.short (by rw [List.length_drop]; omega)
      have HR := Lib.hid hres
      clear hres hs
      go_wp2
      go_ret3
      exact DOut.err HR.out rfl


set_option maxRecDepth 100000 in
theorem rgt_any (w : World) (a : Option Addr) (n c : Nat) (bs : List UInt8) (hr : Rd w (.slice a n c) (bytesV bs)) (hl : bs.length ≤ 1000000000) (k : Nat) (hk : k ≤ bs.length) (most : Int) (hm0 : -9223372036854775808 ≤ most) (hm1 : most ≤ 9223372036854775807) :
    Calls Tryd.prog 73 #[.slice a n c, .int .i64 k, .int .i64 most] w (DOut w k (.int .i64 0) (fun u : Nat => .int .i64 u) (getUpto most (bs.drop k))) := by
  have C1 := rgu_any w a n c bs hr hl k hk
  clear hr
  cases hres : getU (bs.drop k) with
  | error q =>
    have hq := getU_err hres
    have hr2 : getUpto most (bs.drop k) = .error q := by unfold getUpto; rw [hres]
    have t1 : ((q : Int) != 0) = true := by simp; omega
    have HR := Lib.hid hr2
    clear hr2 hq
    go_enter Tryd.func73, Tryd.ntmps73
    go_wp2_with fail
    refine C1.mono ?_
    rintro e w' ⟨h1, _, rfl⟩
    obtain rfl := h1 q hres
    clear h1 C1 hres
    go_wp2
    go_ret3
    exact DOut.err HR.out rfl
  | ok y =>
    obtain ⟨u, q⟩ := y
    have hu := (getU_ok hres).1
    by_cases hlt : most < u
    · have hr2 : getUpto most (bs.drop k) = .error 3 := by unfold getUpto; rw [hres]; simp only; rw [if_pos hlt]
      have HR := Lib.hid hr2
      clear hr2
      go_enter Tryd.func73, Tryd.ntmps73
      go_wp2_with fail
      refine C1.mono ?_
      rintro e w' ⟨_, h2, rfl⟩
      obtain rfl := h2 u q hres
      clear h2 C1 hres
      by_cases hneg : most < 0
      · go_wp2
        go_ret3
        exact DOut.err HR.out rfl
      · obtain ⟨mm, rfl⟩ : ∃ mm : Nat, most = mm := ⟨most.toNat, by omega⟩
        have hlt' : mm < u := by omega
        go_wp2
        go_ret3
        exact DOut.err HR.out rfl
    · have hr2 : getUpto most (bs.drop k) = .ok (u, q) := by unfold getUpto; rw [hres]; simp only; rw [if_neg hlt]
      obtain ⟨mm, rfl⟩ : ∃ mm : Nat, most = mm := ⟨most.toNat, by omega⟩
      have hlt' : ¬ mm < u := by omega
      have HR := Lib.hid hr2
      clear hr2
      go_enter Tryd.func73, Tryd.ntmps73
      go_wp2_with fail
      refine C1.mono ?_
      rintro e w' ⟨_, h2, rfl⟩
      obtain rfl := h2 u q hres
      clear h2 C1 hres
      go_wp2
      go_ret3
      exact DOut.ok HR.out rfl

end Go.Proofs.YtaijepjhmjjecaaDoor
