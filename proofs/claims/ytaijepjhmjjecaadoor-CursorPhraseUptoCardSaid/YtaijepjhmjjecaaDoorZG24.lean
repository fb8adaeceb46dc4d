/- Merged: CurFix, CurPhF, Open. -/
import Derived.Test.YtaijepjhmjjecaaDoorZG15
import Derived.Test.YtaijepjhmjjecaaDoorZG23
import Derived.Test.YtaijepjhmjjecaaDoorZG23
import Derived.Test.YtaijepjhmjjecaaDoorZG23
import Derived.Test.YtaijepjhmjjecaaDoorZPhW
import Derived.Test.YtaijepjhmjjecaaDoorZRPh
import Derived.Test.YtaijepjhmjjecaaDoorRows
import Derived.Test.YtaijepjhmjjecaaDoorZLib
import Derived.Deep.Slices
import Derived.ChangeSlices
import Derived.OpenShut
/- cursor: the law's fixed calls. -/
namespace Go.Proofs.YtaijepjhmjjecaaDoor
set_option linter.unusedVariables false
open Go.ChangeShapes Go.WideShapes Go.ChangeAt Go.RowKit

theorem tw_ok : okV (-1) (twentyV 20) := by show checkV (-1) (twentyV 20) = 0; decide +kernel
theorem tw_fit : FitP (twentyV 20) := by
  intro p hp
  simp only [twentyV, List.mem_map, List.mem_range] at hp
  obtain ⟨i, hi, rfl⟩ := hp
  refine ⟨by show _ ∧ 10 * (i : Int) ≤ _; constructor; show _ ≤ 10 * (i : Int); omega; omega, ?_, by show 1 ≤ 1048576; omega⟩
  intro x hx
  simp at hx; subst hx; decide
theorem tw_total : totalV (twentyV 20) ≤ 20000000 := by decide +kernel
theorem tw_image : (imageV (twentyV 20)).length ≤ 1000000000 := by decide +kernel
theorem tw_next : (if 0 = (twentyV 20).length + 1 then 0 else 0 + 1) = 1 ∧ (if 0 = (twentyV 20).length + 1 then 0 else 0 + costU 0 0 (twentyV 20).length) = 1 ∧ docU (twentyV 20) 1 = 0 := by decide +kernel
theorem tw_adv : ¬ stayU (twentyV 20) 1 165 ∧ firstU (twentyV 20) 1 165 = 17 ∧ 1 + costU 1 17 (twentyV 20).length = 4 ∧ docU (twentyV 20) 18 = 170 ∧ (posU (twentyV 20) 18).length = 1 := by decide +kernel
theorem tw_end : ¬ stayU (twentyV 20) 18 1000 ∧ firstU (twentyV 20) 18 1000 = 20 ∧ docU (twentyV 20) 21 = 2147483647 := by decide +kernel
theorem tw_ph : phV [[1, 5, 9], [2, 10]] [0, 1] 0 = 2 := by decide +kernel
/-- The lists of the law's phrase. -/
def phW (w : World) : World := (((w.alloc (.cells #[.int .i64 1, .int .i64 5, .int .i64 9] 3)).alloc (.cells #[.int .i64 2, .int .i64 10] 3)).alloc (.cells #[.slice (some ⟨w.heap.size, 0, none⟩) 3 3, .slice (some ⟨w.heap.size + 1, 0, none⟩) 2 2] 23)).alloc (.cells #[.int .i64 0, .int .i64 1] 3)
theorem phW_of (w : World) : RdLL (phW w) (some ⟨w.heap.size + 2, 0, none⟩) 2 [[1, 5, 9], [2, 10]] ∧ Rd (phW w) (.slice (some ⟨w.heap.size + 3, 0, none⟩) 2 2) (intL [0, 1]) ∧ Below w.heap.size w (phW w) := by
  unfold phW
  have o1 := own_lit w 0 3 [.int .i64 1, .int .i64 5, .int .i64 9] (Nat.zero_le _) (by decide)
  have b0 := (Below.refl w.heap.size w).alloc (Nat.le_refl _) (.cells #[.int .i64 1, .int .i64 5, .int .i64 9] 3)
  have z1 : (w.alloc (.cells #[.int .i64 1, .int .i64 5, .int .i64 9] 3)).heap.size = w.heap.size + 1 := by simp
  change Own (w.alloc (.cells #[.int .i64 1, .int .i64 5, .int .i64 9] 3)) 0 3 (.slice (some ⟨w.heap.size, 0, none⟩) 3 3) _ at o1
  generalize w.alloc (.cells #[.int .i64 1, .int .i64 5, .int .i64 9] 3) = w1 at o1 b0 z1 ⊢
  have o2 := own_lit w1 0 3 [.int .i64 2, .int .i64 10] (Nat.zero_le _) (by decide)
  have b1 := (Below.refl w1.heap.size w1).alloc (Nat.le_refl _) (.cells #[.int .i64 2, .int .i64 10] 3)
  have z2 : (w1.alloc (.cells #[.int .i64 2, .int .i64 10] 3)).heap.size = w.heap.size + 2 := by simp; omega
  change Own (w1.alloc (.cells #[.int .i64 2, .int .i64 10] 3)) 0 3 (.slice (some ⟨w1.heap.size, 0, none⟩) 2 2) _ at o2
  rw [z1] at o2
  generalize w1.alloc (.cells #[.int .i64 2, .int .i64 10] 3) = w2 at o2 b1 z2 ⊢
  have o1' := o1.below b1 (Nat.le_refl _)
  have b2 := (Below.refl w2.heap.size w2).alloc (Nat.le_refl _) (.cells #[.slice (some ⟨w.heap.size, 0, none⟩) 3 3, .slice (some ⟨w.heap.size + 1, 0, none⟩) 2 2] 23)
  have h3 := heap_alloc_new w2 (.cells #[.slice (some ⟨w.heap.size, 0, none⟩) 3 3, .slice (some ⟨w.heap.size + 1, 0, none⟩) 2 2] 23)
  have z3 : (w2.alloc (.cells #[.slice (some ⟨w.heap.size, 0, none⟩) 3 3, .slice (some ⟨w.heap.size + 1, 0, none⟩) 2 2] 23)).heap.size = w.heap.size + 3 := by simp; omega
  rw [z2] at h3
  generalize w2.alloc (.cells #[.slice (some ⟨w.heap.size, 0, none⟩) 3 3, .slice (some ⟨w.heap.size + 1, 0, none⟩) 2 2] 23) = w3 at b2 h3 z3 ⊢
  have o1'' := o1'.below b2 (Nat.le_refl _)
  have o2' := o2.below b2 (Nat.le_refl _)
  have o4 := own_lit w3 0 3 [.int .i64 0, .int .i64 1] (Nat.zero_le _) (by decide)
  have b3 := (Below.refl w3.heap.size w3).alloc (Nat.le_refl _) (.cells #[.int .i64 0, .int .i64 1] 3)
  change Own (w3.alloc (.cells #[.int .i64 0, .int .i64 1] 3)) 0 3 (.slice (some ⟨w3.heap.size, 0, none⟩) 2 2) _ at o4
  rw [z3] at o4
  have h4 : (w3.alloc (.cells #[.int .i64 0, .int .i64 1] 3)).heap[w.heap.size + 2]? = _ := (Below.heap_alloc _ _ _ (by omega)).trans h3
  generalize w3.alloc (.cells #[.int .i64 0, .int .i64 1] 3) = w4 at o4 b3 h4 ⊢
  have o1''' := o1''.below b3 (Nat.le_refl _)
  have o2'' := o2'.below b3 (Nat.le_refl _)
  refine ⟨⟨rfl, fun _ => ⟨_, 0, rfl, fun i hi => ?_⟩⟩, o4.rd, ?_⟩
  · match i, hi with
    | 0, _ => exact ⟨_, 3, blk_cell h4 0, o1'''.rd⟩
    | 1, _ => exact ⟨_, 2, blk_cell h4 1, o2''.rd⟩
  · exact ((b0.trans (b1.mono (by omega))).trans (b2.mono (by omega))).trans (b3.mono (by omega))
set_option maxRecDepth 100000 in
set_option maxHeartbeats 4000000 in
theorem fixed_any (w : World) (EA : Nat → Addr) (hS : Sent6 w EA) : Calls Tryd.prog 9 #[] w fun e w' => e = .returned (.bool true) ∧ Below w.heap.size w w' := by
  have C1 := twenty_any w
  have HS := Lib.hid hS
  clear hS
  go_enter Tryd.func9, Tryd.ntmps9
  go_wp2_with fail
  with_reducible refine C1.mono ?_
  rintro e w1 ⟨A1, N1, rfl, ⟨hl1, vs1, hr1⟩, hb1⟩
  clear C1
  have hn1 : 20 ≤ N1 := by
    obtain ⟨_, _, he1, hn1, _⟩ := hr1.sl
    injection he1 with _ e1 e2
    rw [e2]; omega
  have C2 := renc_any w1 A1 20 N1 (twentyV 20) hr1.rd hn1 tw_fit (by rw [twentyV_length]; omega) tw_total EA (HS.out.below hb1)
  have HB1 := Lib.hid hb1
  clear hl1 hr1 hb1 hn1
  go_wp2_with fail
  with_reducible refine C2.mono ?_
  rintro e w2 ⟨h2, -⟩
  clear C2
  obtain ⟨A2, N2, K2, rfl, ho2, hb2⟩ := h2 tw_ok
  clear h2
  have HB2 := Lib.hid (HB1.out.trans (hb2.mono HB1.out.size))
  have hrd := ho2.rd
  have C3 := copen_ok w2 A2 N2 K2 (twentyV 20) tw_ok tw_fit (by rw [twentyV_length]; omega) tw_total tw_image hrd EA (HS.out.below HB2.out)
  have HC3 := Lib.hid C3
  clear ho2 hb2 hrd HB1 C3
  go_wp2_with fail
  with_reducible refine HC3.out.mono ?_
  rintro e w3 ⟨q, pl, rfl, h3, hb3⟩
  have HBT := Lib.hid (HB2.out.trans (hb3.mono HB2.out.size))
  have hz3 := hb3.size
  obtain ⟨B, hB⟩ : ∃ B, w2.heap.size = B := ⟨_, rfl⟩
  rw [hB] at h3 hz3
  have hwB : w.heap.size ≤ B := by have := HB2.out.size; omega
  have hq : B ≤ q := by obtain ⟨_, _, h⟩ := h3; exact h.hq
  have hlo : Low6 B := by obtain ⟨_, _, h⟩ := h3; exact h.lo
  have HLO := Lib.hid hlo
  obtain ⟨bk, rv, h3b⟩ := id h3
  have C4 := docB_any w3 B q _ _ _ _ 0 0 false bk rv h3b
  rw [docU_zero] at C4
  have HS3 := Lib.hid (HS.out.below HBT.out)
  have C5 := next_any w3 B q _ _ _ 0 0 false h3 hz3 (by omega) EA HS3.out
  rw [tw_next.1, tw_next.2.1, tw_next.2.2, ite_self] at C5
  have HC5 := Lib.hid C5
  clear h3 hb3 h3b hlo C5 hB HC3
  go_wp2_with fail
  with_reducible refine C4.mono ?_
  rintro e wx ⟨rfl, rfl⟩
  clear C4
  go_wp2_with fail
  with_reducible refine HC5.out.mono ?_
  rintro e w4 ⟨rfl, h4, he4⟩
  have C6 := adv_any w4 B q _ _ _ 1 1 false h4 (Nat.le_trans hz3 he4.size) (by omega) 165 EA (HS3.out.effq he4 HLO.out hq)
  rw [if_neg tw_adv.1, if_neg tw_adv.1, if_neg tw_adv.1, tw_adv.2.1, tw_adv.2.2.1, tw_adv.2.2.2.1] at C6
  have HE4 := Lib.hid he4
  have HC6 := Lib.hid C6
  clear h4 he4 C6 HC5
  go_wp2_with fail
  with_reducible refine HC6.out.mono ?_
  rintro e w5 ⟨rfl, h5, he5⟩
  have HE5 := Lib.hid (HE4.out.trans he5 (fun i hi _ => hi))
  obtain ⟨bk5, rv5, h5b⟩ := id h5
  have C7 := movB_any w5 B q _ _ _ _ 18 4 false bk5 rv5 h5b
  have C8 := freq_any w5 B q _ _ _ 18 4 false h5 (Nat.le_trans hz3 HE5.out.size) EA (HS3.out.effq HE5.out HLO.out hq)
  rw [tw_adv.2.2.2.2] at C8
  have HC8 := Lib.hid C8
  clear h5 h5b he5 C8 HC6 HE4
  go_wp2_with fail
  with_reducible refine C7.mono ?_
  rintro e wx ⟨rfl, rfl⟩
  clear C7
  go_wp2_with fail
  with_reducible refine HC8.out.mono ?_
  rintro e w6 ⟨rfl, h6, he6⟩
  have HE6 := Lib.hid (HE5.out.trans he6 (fun i hi _ => hi))
  have H6 := Lib.hid h6
  clear h6 he6 HC8 HE5
  have z6 : ∀ (o1 o2 o3 : Obj), (w6.alloc o1).heap.size = w6.heap.size + 1 ∧ ((w6.alloc o1).alloc o2).heap.size = w6.heap.size + 2 ∧ (((w6.alloc o1).alloc o2).alloc o3).heap.size = w6.heap.size + 3 := fun _ _ _ => ⟨by simp, by simp, by simp⟩
  obtain ⟨k1, k2, k3⟩ := phW_of w6
  have C9 := ph_any (phW w6) _ 2 2 _ k1 _ 2 2 [0, 1] k2 0 (by decide) (by decide) (by decide)
  rw [tw_ph] at C9
  have HB9 := Lib.hid k3
  unfold phW at C9
  have HC9 := Lib.hid C9
  clear k1 k2 k3 C9 z6
  go_wp2_with fail
  with_reducible refine HC9.out.mono ?_
  rintro e w7 ⟨rfl, hb7⟩
  have hbb := HB9.out.trans (show Below w6.heap.size (phW w6) w7 from hb7.mono HB9.out.size)
  have H7 := H6.out.below hbb (Nat.le_refl _)
  have HB7 := Lib.hid hbb
  have hzz : B ≤ w7.heap.size := Nat.le_trans (Nat.le_trans hz3 HE6.out.size) hbb.size
  have S7 := (HS3.out.effq HE6.out HLO.out hq).below hbb
  have C10 := adv_any w7 B q _ _ _ 18 4 false H7 hzz (by omega) 1000 EA S7
  rw [if_neg tw_end.1, if_neg tw_end.1, if_neg tw_end.1, tw_end.2.1, tw_end.2.2] at C10
  have HC10 := Lib.hid C10
  clear hb7 hbb H7 S7 C10 HC9
  go_wp2_with fail
  with_reducible refine HC10.out.mono ?_
  rintro e w8 ⟨rfl, -, he8⟩
  have hfin : Below w.heap.size w w8 := by
    have e1 := HB7.out.mono (show w.heap.size ≤ w6.heap.size from Nat.le_trans hwB (Nat.le_trans hz3 HE6.out.size))
    have f1 := HE6.out
    have f2 : Below w.heap.size w3 w6 := ⟨f1.os, f1.tape, f1.output, f1.size, fun k hk => f1.block k (by omega) (by omega)⟩
    have f3 : Below w.heap.size w7 w8 := ⟨he8.os, he8.tape, he8.output, he8.size, fun k hk => he8.block k (by omega) (by omega)⟩
    exact ((HBT.out.trans f2).trans e1).trans f3
  have HF := Lib.hid hfin
  clear he8 hfin
  go_wp2
  go_ret
  exact ⟨rfl, HF.out⟩
end Go.Proofs.YtaijepjhmjjecaaDoor

/- CursorPhrase: the walk. -/
namespace Go.Proofs.YtaijepjhmjjecaaDoor
set_option linter.unusedVariables false
open Go.ChangeShapes Go.WideShapes Go.ChangeAt Go.RowKit

set_option maxRecDepth 100000 in
theorem cursorPhrase_walk (w : World) (a : Option Addr) (n c : Nat) (ls : List (List Int)) (hL : RdLL w a n ls) (a2 : Option Addr) (n2 c2 : Nat) (os : List Int) (hO : Rd w (.slice a2 n2 c2) (intL os)) (slop : Int) (hsum : sumL ls ≤ 10000000) (hln : ls.length ≤ 10000000) (hol : os.length ≤ 10000000) (EA : Nat → Addr) (hS : Sent6 w EA) :
    Calls Tryd.prog 3 #[.slice a n c, .slice a2 n2 c2, .int .i64 slop] w fun e w' => e = .returned (.bool true) ∧ Below w.heap.size w w' := by
  have C1 := fixed_any w EA hS
  have HL := Lib.hid hL
  have HO := Lib.hid hO
  clear hL hO hS
  go_enter Tryd.func3, Tryd.ntmps3
  go_wp2_with fail
  with_reducible refine C1.mono ?_
  rintro e w1 ⟨rfl, hb1⟩
  have C2 := ph_any w1 a n c ls (HL.out.below hb1 (Nat.le_refl _)) a2 n2 c2 os (HO.out.below hb1 (Nat.le_refl _)) slop hsum hln hol
  have HB1 := Lib.hid hb1
  clear C1 hb1
  go_wp2_with fail
  with_reducible refine C2.mono ?_
  rintro e w2 ⟨rfl, hb2⟩
  have hb12 := HB1.out.trans (hb2.mono HB1.out.size)
  have C3 := rph_any w2 a n c ls (HL.out.below hb12 (Nat.le_refl _)) a2 n2 c2 os (HO.out.below hb12 (Nat.le_refl _)) slop hsum hln hol
  have HB2 := Lib.hid hb12
  clear C2 hb2 hb12 HB1 HL HO hsum hln hol
  go_wp2_with fail
  with_reducible refine C3.mono ?_
  rintro e w3 ⟨rfl, hb3⟩
  have HB3 := Lib.hid (HB2.out.trans (hb3.mono HB2.out.size))
  clear C3 hb3 HB2
  go_wp2
  go_ret
  exact ⟨by simp, HB3.out⟩
end Go.Proofs.YtaijepjhmjjecaaDoor

/- Arguments that are lists of bytes, and lists of such: opened; what the bound on the bulk gives. -/
namespace Go.Proofs.YtaijepjhmjjecaaDoor
set_option linter.unusedVariables false
open Go.ChangeShapes Go.WideShapes Go.ChangeAt Go.RowKit

theorem bulk_append {H : Type} (l r : List (DataW H)) : Rows.uptoBulkAll (l ++ r) = Rows.uptoBulkAll l + Rows.uptoBulkAll r := by
  induction l with
  | nil => simp [Rows.uptoBulkAll]
  | cons x l ih => simp only [List.cons_append, Rows.uptoBulkAll, ih]; omega
theorem bulk_one {H : Type} (d : DataW H) : 1 ≤ Rows.uptoBulk d := by
  cases d with
  | lit l => cases l <;> simp [Rows.uptoBulk]
  | nil => simp [Rows.uptoBulk]
  | ptr d => simp [Rows.uptoBulk]
  | slice elems spare => simp [Rows.uptoBulk]
  | agg parts => simp [Rows.uptoBulk]
  | iface t d => simp [Rows.uptoBulk]
  | map entries => simp [Rows.uptoBulk]
  | held h => simp [Rows.uptoBulk]
theorem bulk_length {H : Type} (l : List (DataW H)) : l.length ≤ Rows.uptoBulkAll l := by
  induction l with
  | nil => simp [Rows.uptoBulkAll]
  | cons x r ih => have := bulk_one x; simp only [Rows.uptoBulkAll, List.length_cons]; omega

theorem fm_succ (B : Nat → List UInt8) (n : Nat) : (List.range (n + 1)).flatMap B = (List.range n).flatMap B ++ B n := by simp [List.range_succ, List.flatMap_append]
theorem fm_one (B : Nat → List UInt8) {k n : Nat} (h : k < n) : (B k).length ≤ ((List.range n).flatMap B).length := by
  induction n with
  | zero => omega
  | succ n ih =>
    rw [fm_succ, List.length_append]
    by_cases hk : k < n
    · have := ih hk; omega
    · have : k = n := by omega
      subst this; omega
theorem fm_congr {B D : Nat → List UInt8} {n : Nat} (h : ∀ k, k < n → B k = D k) : (List.range n).flatMap B = (List.range n).flatMap D := by
  induction n with
  | zero => rfl
  | succ n ih => rw [fm_succ, fm_succ, ih (fun k hk => h k (by omega)), h n (Nat.lt_succ_self n)]

section
variable {H : Type} {enc : TypeId × Value → H} {P : Program} {w : World} {base : Nat} {spare : Nat → Bool} {held : Bool} {fuel : Nat} {cs : List Value} {x : DataW H × List MemPlace}

theorem open_bytes {t e : TypeId} (ht : P.underlying t = some (.slice e)) (he : P.underlying e = some (.int .u8)) (hc : P.cellsOf e = 1) (h : DataW.trod enc P w base spare held fuel t cs = some x) :
    ∃ v bs, cs = [v] ∧ Rd w v (bytesV bs) ∧ bs.length + 1 ≤ Rows.uptoBulk x.1 := by
  rcases open_ints ht he hc h with ⟨rfl, rfl⟩ | ⟨a, len, cap, zs, rfl, hb, hl, hm, hz, rfl, hcell, hwf⟩
  · exact ⟨_, [], rfl, ⟨none, 0, rfl, Nat.le_refl _, fun h => by simp [bytesV] at h⟩, by simp [Rows.uptoBulk]⟩
  have hlz : len ≤ zs.length := by rw [hz]; split <;> omega
  refine ⟨_, (zs.take len).map (fun n => UInt8.ofNat n.toNat), rfl, ?_, ?_⟩
  · have hll : (bytesV ((zs.take len).map (fun n => UInt8.ofNat n.toNat))).length = len := by rw [bytesV_length, List.length_map, List.length_take]; omega
    refine ⟨some a, cap, by rw [hll], by rw [hll]; exact hl, fun h0 => ?_⟩
    rw [hll] at h0
    obtain ⟨b, o, rfl, hcc⟩ := ints_at hcell (by omega)
    refine ⟨b, o, rfl, fun j y hy => ?_⟩
    have hj : j < len := by have := (List.getElem?_eq_some_iff.1 hy).1; omega
    rw [← addr_add b o j, hcell j (by omega)]
    have hjz : j < zs.length := by omega
    have hw := bounds_u8 (hwf (zs[j]) (List.getElem_mem hjz))
    rw [← hy]
    simp [bytesV, List.getD, hj, hjz]
    omega
  · have h1 := bulk_length (lits (H := H) .u8 (zs.take len))
    simp only [Rows.uptoBulk]
    have h2 : (lits (H := H) .u8 (zs.take len)).length = len := by simp [lits]; omega
    rw [List.length_map, List.length_take]
    omega

/-- A list of lists of bytes: its values ls, the k-th reads B k; its bulk pays all of them. -/
theorem open_lists {t e q : TypeId} (ht : P.underlying t = some (.slice e)) (he : P.underlying e = some (.slice q)) (hq : P.underlying q = some (.int .u8)) (hc : P.cellsOf e = 1) (hcq : P.cellsOf q = 1) (h : DataW.trod enc P w base spare held fuel t cs = some x) :
    ∃ v ls, ∃ B : Nat → List UInt8, cs = [v] ∧ Rd w v ls ∧ (∀ k y, ls[k]? = some y → Rd w y (bytesV (B k))) ∧ (∀ k, ls.length ≤ k → B k = []) ∧ (∀ k, (B k).length ≤ Rows.uptoBulk x.1) ∧ ls.length + ((List.range ls.length).flatMap B).length ≤ Rows.uptoBulk x.1 := by
  rcases Go.Deep.open_slice1 ht hc h with ⟨rfl, rfl⟩ | ⟨a, len, cap, m, n, V, D, Pl, rfl, hb, hl, hm, hmm, rfl, hx⟩
  · exact ⟨_, [], fun _ => [], rfl, ⟨none, 0, rfl, Nat.le_refl _, fun h => by simp at h⟩, fun k y h => by simp at h, fun _ _ => rfl, fun _ => Nat.zero_le _, by simp⟩
  have hlm : len ≤ m := by rw [hmm]; split <;> omega
  obtain ⟨B0, hB0⟩ := Go.Deep.choose_lt (α := List UInt8) (n := len) (p := fun i bs => Rd w (V i) (bytesV bs) ∧ bs.length + 1 ≤ Rows.uptoBulk (D i)) (fun i hi => by
    obtain ⟨v, bs, hv, h1, h2⟩ := open_bytes he hq hcq (hx i (by omega)).2
    injection hv with hv _
    exact ⟨bs, by rw [hv]; exact h1, h2⟩)
  have hpay : ∀ k, k ≤ len → k + ((List.range k).flatMap B0).length ≤ Rows.uptoBulkAll ((List.range k).map D) := by
    intro k
    induction k with
    | zero => intro _; simp [Rows.uptoBulkAll]
    | succ k ih =>
      intro hk
      have h1 := ih (by omega)
      have h2 := (hB0 k (by omega)).2
      rw [List.range_succ, List.flatMap_append, List.map_append, bulk_append, List.length_append]
      simp only [List.flatMap_cons, List.flatMap_nil, List.append_nil, List.map_cons, List.map_nil, Rows.uptoBulkAll]
      omega
  have hone : ∀ k, k < len → (B0 k).length ≤ ((List.range len).flatMap B0).length := fun k hk => fm_one B0 hk
  have hfl : ((List.range len).flatMap fun k => if k < len then B0 k else []) = (List.range len).flatMap B0 := fm_congr fun k hk => if_pos hk
  have hp := hpay len (Nat.le_refl _)
  have hbk : Rows.uptoBulkAll ((List.range len).map D) ≤ Rows.uptoBulk (DataW.slice ((List.range len).map D) ((List.range (m - len)).map fun j => D (len + j))) := by simp only [Rows.uptoBulk]; omega
  refine ⟨_, (List.range len).map V, fun k => if k < len then B0 k else [], rfl, ⟨some a, cap, by simp, by simpa using hl, fun h0 => ?_⟩, fun k y hy => ?_, fun k hk => ?_, fun k => ?_, ?_⟩
  · have h00 := (hx 0 (by simp at h0; omega)).1
    obtain ⟨b, o, sp⟩ := a
    have hs : sp = none := by simpa [Addr.add] using World.cell?_spot h00
    subst hs
    refine ⟨b, o, rfl, fun j y hy => ?_⟩
    have hj : j < len := by have := (List.getElem?_eq_some_iff.1 hy).1; simpa using this
    have h2 := (hx j (by omega)).1
    rw [addr_add] at h2
    rw [h2, ← hy]; simp [hj]
  · have hj : k < len := by have := (List.getElem?_eq_some_iff.1 hy).1; simpa using this
    have hy' : y = V k := by rw [List.getElem?_map, List.getElem?_range hj] at hy; simpa using hy.symm
    dsimp only
    rw [if_pos hj, hy']; exact (hB0 k hj).1
  · simp at hk; exact if_neg (by omega)
  · dsimp only
    split
    · have := hone k (by assumption); exact Nat.le_trans (by omega) hbk
    · exact Nat.zero_le _
  · rw [List.length_map, List.length_range, hfl]; exact Nat.le_trans hp hbk
end
end Go.Proofs.YtaijepjhmjjecaaDoor
