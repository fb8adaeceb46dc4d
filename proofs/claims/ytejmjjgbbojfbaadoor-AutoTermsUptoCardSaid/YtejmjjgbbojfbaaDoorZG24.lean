/- Merged: AcceptsC, Accepts. -/
import Derived.Test.YtejmjjgbbojfbaaDoorZG19
import Derived.Test.YtejmjjgbbojfbaaDoorZSpanP
import Derived.Test.YtejmjjgbbojfbaaDoorZG22
import Derived.Test.YtejmjjgbbojfbaaDoorZG23
import Derived.Deep.RegionHeld3
/- What the document answers is what the machine answers: the contracts of its Accepts and Alive, of whatever was told. -/
namespace Go.Proofs.YtejmjjgbbojfbaaDoor
set_option linter.unusedVariables false
open Go.ChangeShapes Go.WideShapes Go.ChangeAt Go.RowKit

/-- The machine of what an automaton is made of. -/
def OfV.mach (o : OfV) : Mach :=
  if o.k = 3 then wildM ((elems o.s.data.toList).getD []) else if o.k = 4 then fuzzM o.s.data.toList o.n.toNat else if o.k = 2 then prefixM o.s.data.toList
  else if o.k = 5 then spanM o.lop o.lin o.ls o.hop o.hin o.hs else exactM o.s.data.toList
theorem at_mach {w : World} {p : Nat} {o : OfV} (h : AutoAt w p o) (hs : o.s.size ≤ 1000000000) (hl : o.ls.size ≤ 1000000000) (hh : o.hs.size ≤ 1000000000) : IsAuto w p o.mach := by
  obtain ⟨h0, h3, h4, h2, h5, h1⟩ := h
  unfold OfV.mach
  by_cases k3 : o.k = 3
  · rw [if_pos k3]; obtain ⟨es, he, ha⟩ := h3 k3; rw [he]; exact ha
  rw [if_neg k3]
  by_cases k4 : o.k = 4
  · rw [if_pos k4]; exact h4 k4
  rw [if_neg k4]
  by_cases k2 : o.k = 2
  · rw [if_pos k2]; exact prefixM_auto hs (h2 k2)
  rw [if_neg k2]
  by_cases k5 : o.k = 5
  · rw [if_pos k5]; exact spanM_auto hl hh (h5 k5)
  rw [if_neg k5]
  exact exactM_auto hs (h1 k2 k3 k4 k5)
theorem begB_eq (s t : ByteArray) : begB s t = headB s.data.toList t.data.toList := by
  unfold begB headB
  have hsl : s.data.toList.length = s.size := Array.length_toList (xs := s.data)
  have htl : t.data.toList.length = t.size := Array.length_toList (xs := t.data)
  have e : (s.extract 0 t.size).data.toList = s.data.toList.take t.size := by
    rw [ByteArray.data_extract]; simp
  rw [hsl, htl, ByteArray.toList_eq, ByteArray.toList_eq, e]
  congr 1
  rw [Bool.eq_iff_iff, beq_iff_eq, decide_eq_true_eq]
  exact eq_comm
theorem str_eq (x s : ByteArray) : (x.toList == s.toList) = decide (x.data.toList = s.data.toList) := by
  rw [ByteArray.toList_eq, ByteArray.toList_eq, Bool.eq_iff_iff, beq_iff_eq, decide_eq_true_eq]
theorem zero_app (s : ByteArray) : (s ++ ⟨#[0]⟩).data.toList = s.data.toList ++ [0] := by rw [ByteArray.data_append]; simp
theorem racc_of (W : World) (o : OfV) (hb : o.bad = 0) (x : ByteArray) (h1 : o.s.size ≤ 1048576) (h2 : o.ls.size ≤ 1048576) (h3 : o.hs.size ≤ 1048576) (h4 : x.size ≤ 1048576) :
    Calls Tryd.prog 20 #[.agg (rCellsOf o).toArray, .string x] W (RetB W (accM o.mach x.data.toList)) := by
  obtain ⟨k, s, n, lop, lin, ls, hop, hin, hs⟩ := o
  simp only at h1 h2 h3
  have hsl : s.data.toList.length = s.size := Array.length_toList (xs := s.data)
  unfold rCellsOf OfV.mach
  simp only
  by_cases hk : k < 2 ∨ 5 < k
  · rw [if_pos hk, if_neg (by omega), if_neg (by omega), if_neg (by omega), if_neg (by omega), acc_exact _ (by omega), ← str_eq]
    exact racc_exact W s x 0 false false ⟨#[]⟩ false false ⟨#[]⟩
  rw [if_neg hk]
  show Calls Tryd.prog 20 #[.agg #[.int .i64 k, .string s, .int .i64 n, .bool lop, .bool lin, .string ls, .bool hop, .bool hin, .string hs], .string x] W _
  by_cases k3 : k = 3
  · subst k3
    rw [if_pos rfl]
    unfold OfV.bad at hb
    simp only at hb
    cases he : elems s.data.toList with
    | none => rw [he] at hb; simp at hb
    | some es =>
      rw [Option.getD_some, acc_row es (elems_kinds _ _ _ (Nat.le_refl _) he)]
      exact racc_wild W s x es he (by have := elems_len _ _ he; omega) n lop lin ls hop hin hs (by omega) (by omega)
  rw [if_neg k3]
  by_cases k4 : k = 4
  · subst k4
    have hn : 0 ≤ n ∧ n ≤ 2 := by
      unfold OfV.bad at hb
      simp only at hb
      rw [if_neg (fun h => k3 h.1)] at hb
      by_cases hc : n < 0 ∨ 2 < n
      · rw [if_pos ⟨trivial, hc⟩] at hb; cases hb
      · omega
    obtain ⟨m, rfl⟩ : ∃ m : Nat, n = m := ⟨n.toNat, by omega⟩
    rw [if_pos rfl, Int.toNat_natCast, acc_fz _ m (by omega)]
    exact racc_fuzzy W s x m (by omega) lop lin ls hop hin hs h1 h4
  rw [if_neg k4]
  by_cases k2 : k = 2
  · subst k2
    rw [if_pos rfl, acc_prefix _ (by omega), ← begB_eq]
    exact racc_prefix W s x n lop lin ls hop hin hs (by omega) (by omega)
  rw [if_neg k2]
  obtain rfl : k = 5 := by omega
  rw [if_pos rfl, acc_span _ _ _ _ _ _ (by omega) (by omega), ← accSp_eq]
  exact racc_span W s x n lop lin ls hop hin hs
theorem ral_of (W : World) (o : OfV) (hb : o.bad = 0) (x : ByteArray) (h1 : o.s.size ≤ 1048576) (h2 : o.ls.size ≤ 1048576) (h3 : o.hs.size ≤ 1048576) (h4 : x.size ≤ 1048576) :
    Calls Tryd.prog 21 #[.agg (rCellsOf o).toArray, .string x] W (RetB W (aliveM o.mach x.data.toList)) := by
  obtain ⟨k, s, n, lop, lin, ls, hop, hin, hs⟩ := o
  simp only at h1 h2 h3
  have hsl : s.data.toList.length = s.size := Array.length_toList (xs := s.data)
  have hxl : x.data.toList.length = x.size := Array.length_toList (xs := x.data)
  unfold rCellsOf OfV.mach
  simp only
  by_cases hk : k < 2 ∨ 5 < k
  · rw [if_pos hk, if_neg (by omega), if_neg (by omega), if_neg (by omega), if_neg (by omega), alive_exact _ (by omega), ← begB_eq]
    exact ral_exact W s x 0 false false ⟨#[]⟩ false false ⟨#[]⟩ (by omega) (by omega)
  rw [if_neg hk]
  show Calls Tryd.prog 21 #[.agg #[.int .i64 k, .string s, .int .i64 n, .bool lop, .bool lin, .string ls, .bool hop, .bool hin, .string hs], .string x] W _
  by_cases k3 : k = 3
  · subst k3
    rw [if_pos rfl]
    unfold OfV.bad at hb
    simp only at hb
    cases he : elems s.data.toList with
    | none => rw [he] at hb; simp at hb
    | some es =>
      rw [Option.getD_some, alive_row es (elems_kinds _ _ _ (Nat.le_refl _) he)]
      exact ral_wild W s x es he (by have := elems_len _ _ he; omega) n lop lin ls hop hin hs (by omega) (by omega)
  rw [if_neg k3]
  by_cases k4 : k = 4
  · subst k4
    have hn : 0 ≤ n ∧ n ≤ 2 := by
      unfold OfV.bad at hb
      simp only at hb
      rw [if_neg (fun h => k3 h.1)] at hb
      by_cases hc : n < 0 ∨ 2 < n
      · rw [if_pos ⟨trivial, hc⟩] at hb; cases hb
      · omega
    obtain ⟨m, rfl⟩ : ∃ m : Nat, n = m := ⟨n.toNat, by omega⟩
    rw [if_pos rfl, Int.toNat_natCast, alive_fz _ m (by omega), hsl, hxl]
    exact ral_fuzzy W s x m (by omega) lop lin ls hop hin hs h1 h4
  rw [if_neg k4]
  by_cases k2 : k = 2
  · subst k2
    rw [if_pos rfl, alive_prefix _ (by omega), ← begB_eq, ← begB_eq]
    exact ral_prefix W s x n lop lin ls hop hin hs (by omega) (by omega)
  rw [if_neg k2]
  obtain rfl : k = 5 := by omega
  rw [if_pos rfl, alive_span _ _ _ _ _ _ (by omega) (by omega), ← accSp_eq, ← accSp_eq, ← zero_app, ← accSp_eq, ← begB_eq]
  exact ral_span W s x n lop lin ls hop hin hs (by omega) (by omega)
end Go.Proofs.YtejmjjgbbojfbaaDoor

/- The walk of the law AutoAccepts. -/
namespace Go.Proofs.YtejmjjgbbojfbaaDoor
set_option linter.unusedVariables false
open Go.ChangeShapes Go.WideShapes Go.ChangeAt Go.RowKit

/-- Nine cells as they were, and nothing else turned. -/
abbrev SN (T : Nat) (c0 c1 c2 c3 c4 c5 c6 c7 c8 : Value) (W0 W : World) : Prop :=
  W.cell? ⟨T, 0, none⟩ = some c0 ∧ W.cell? ⟨T, 1, none⟩ = some c1 ∧ W.cell? ⟨T, 2, none⟩ = some c2 ∧ W.cell? ⟨T, 3, none⟩ = some c3 ∧ W.cell? ⟨T, 4, none⟩ = some c4 ∧ W.cell? ⟨T, 5, none⟩ = some c5 ∧ W.cell? ⟨T, 6, none⟩ = some c6 ∧ W.cell? ⟨T, 7, none⟩ = some c7 ∧ W.cell? ⟨T, 8, none⟩ = some c8 ∧ Below W0.heap.size W0 W
theorem SN.keep {T : Nat} {c0 c1 c2 c3 c4 c5 c6 c7 c8 : Value} {W0 W W' : World} (h : SN T c0 c1 c2 c3 c4 c5 c6 c7 c8 W0 W) (hb : Below W.heap.size W W') : SN T c0 c1 c2 c3 c4 c5 c6 c7 c8 W0 W' := by
  obtain ⟨h0, h1, h2, h3, h4, h5, h6, h7, h8, hB⟩ := h
  have k : ∀ (i : Nat) (v : Value), W.cell? ⟨T, i, none⟩ = some v → W'.cell? ⟨T, i, none⟩ = some v := fun i v h => by rw [hb.cell (World.block_lt_of_cell? W _ h)]; exact h
  exact ⟨k _ _ h0, k _ _ h1, k _ _ h2, k _ _ h3, k _ _ h4, k _ _ h5, k _ _ h6, k _ _ h7, k _ _ h8, hB.trans (hb.mono hB.size)⟩
set_option maxRecDepth 100000 in
set_option maxHeartbeats 8000000 in
theorem accepts_walk (w : World) (o : OfV) (a : Option Addr) (n c : Nat) (ls : List ByteArray) (hr : Rd w (.slice a n c) (strsV ls))
    (hn : ls.length ≤ 1000000000) (hz : ∀ b ∈ ls, b.size ≤ 1048576) (hos : o.s.size ≤ 1048576) (hol : o.ls.size ≤ 1048576) (hoh : o.hs.size ≤ 1048576) (EA : Nat → Addr) (hE : Sent w EA) :
    Calls Tryd.prog 4 #[.agg o.cells.toArray, .slice a n c] w fun e w' => e = .returned (.bool true) ∧ Below w.heap.size w w' := by
  obtain ⟨ob, hob⟩ : ∃ ob, ob = Obj.cells o.cells.toArray 37 := ⟨_, rfl⟩
  have hb0 : Below w.heap.size w (w.alloc ob) := (Below.refl _ _).alloc (Nat.le_refl _) _
  have hz0 : (w.alloc ob).heap.size = w.heap.size + 1 := by simp
  have hcx : Cells9 (w.alloc ob) w.heap.size o := Cells9.of ((heap_alloc_new w ob).trans (congrArg some hob))
  have C0 := lives_any (w.alloc ob) _ (hE.below hb0).c14
  obtain rfl := (rd_strs hr).1
  have HR := Lib.hid hr
  have HZ := Lib.hid hz
  have HE := Lib.hid hE
  have HB0 := Lib.hid hb0
  have HZ0 := Lib.hid hz0
  have HCX := Lib.hid hcx
  have HOB := Lib.hid hob
  rw [hob] at C0
  clear hr hz hE hb0 hz0 hcx hob
  go_enter Tryd.func4, Tryd.ntmps4
  go_wp2_with fail
  refine C0.mono ?_
  rintro e w1 ⟨rfl, hb1⟩
  rw [← HOB.out] at hb1
  have hcx1 := HCX.out.below hb1 (by rw [HZ0.out]; omega)
  have hB1 := HB0.out.trans (hb1.mono (by rw [HZ0.out]; omega))
  have hz1 := hb1.size
  rw [HZ0.out] at hz1
  have C1 := made_any w1 o (by omega) EA (HE.out.below hB1)
  have HCX1 := Lib.hid hcx1
  obtain ⟨d0, d1, d2, d3, d4, d5, d6, d7, d8⟩ := hcx1
  have HB1 := Lib.hid hB1
  clear C0 hb1 hB1
  go_wp2_with fail
  refine C1.mono ?_
  rintro e w2 ⟨g1, g2⟩
  clear C1 d0 d1 d2 d3 d4 d5 d6 d7 d8
  by_cases hbad : o.bad = 0
  · obtain ⟨p, rfl, hp, ha, hb2⟩ := g1 hbad
    have hM := at_mach ha (by omega) (by omega) (by omega)
    have hB2 := HB1.out.trans (hb2.mono HB1.out.size)
    have hcx2 := HCX1.out.below hb2 (by omega)
    have hz2 : w.heap.size + 1 ≤ w2.heap.size := Nat.le_trans hz1 hb2.size
    have C2 := told_any w2 o
    obtain ⟨q0, q1, q2, q3, q4, q5, q6, q7, q8, hrc⟩ : ∃ q0 q1 q2 q3 q4 q5 q6 q7 q8, rCellsOf o = [(.int .i64 q0), (.string q1), (.int .i64 q2), (.bool q3), (.bool q4), (.string q5), (.bool q6), (.bool q7), (.string q8)] := by
      unfold rCellsOf
      split
      · exact ⟨_, _, _, _, _, _, _, _, _, rfl⟩
      · exact ⟨_, _, _, _, _, _, _, _, _, rfl⟩
    have KA := fun W x => racc_of W o hbad x hos hol hoh
    have KL := fun W x => ral_of W o hbad x hos hol hoh
    rw [hrc] at C2 KA KL
    have HKA := Lib.hid KA
    have HKL := Lib.hid KL
    have HM := Lib.hid hM
    have HB2 := Lib.hid hB2
    have HCX2 := Lib.hid hcx2
    obtain ⟨d0, d1, d2, d3, d4, d5, d6, d7, d8⟩ := hcx2
    clear g1 g2 hbad ha hM hb2 hB2 KA KL hrc
    go_wp2_with fail
    refine C2.mono ?_
    rintro e w3 ⟨rfl, hb3⟩
    clear C2 d0 d1 d2 d3 d4 d5 d6 d7 d8
    have hx3 := HCX2.out.below hb3 (by omega)
    have hz3 : w.heap.size + 1 ≤ w3.heap.size := Nat.le_trans hz2 hb3.size
    have hbA : Below w3.heap.size w3 (w3.alloc (.cells #[(.int .i64 q0), (.string q1), (.int .i64 q2), (.bool q3), (.bool q4), (.string q5), (.bool q6), (.bool q7), (.string q8)] 41)) := (Below.refl _ _).alloc (Nat.le_refl _) _
    have hT := heap_alloc_new w3 (.cells #[(.int .i64 q0), (.string q1), (.int .i64 q2), (.bool q3), (.bool q4), (.string q5), (.bool q6), (.bool q7), (.string q8)] 41)
    have hB4 := (HB2.out.trans (hb3.mono HB2.out.size)).trans (hbA.mono (by omega))
    have hM4 := (HM.out.below hb3).below hbA
    have hx4 := hx3.below hbA (by omega)
    have HT := Lib.hid hT
    have HB4 := Lib.hid hB4
    have HM4 := Lib.hid hM4
    have HX4 := Lib.hid hx4
    clear hx3 hbA hT hB4 hM4 hx4 hb3 HM HB2 HCX2
    go_wp2
    have hT := HT.out
    have hB4 := HB4.out
    have hM4 := HM4.out
    have hx4 := HX4.out
    clear HT HB4 HM4 HX4
    generalize w3.alloc (.cells #[(.int .i64 q0), (.string q1), (.int .i64 q2), (.bool q3), (.bool q4), (.string q5), (.bool q6), (.bool q7), (.string q8)] 41) = W4 at hT hB4 hM4 hx4 ⊢
    obtain ⟨T, hTe⟩ : ∃ T, w3.heap.size = T := ⟨_, rfl⟩
    rw [hTe] at hT hz3 ⊢
    have HT := Lib.hid hT
    have HB4 := Lib.hid hB4
    have HM4 := Lib.hid hM4
    have HX4 := Lib.hid hx4
    have hzT : T < W4.heap.size := lt_of_heap hT
    clear hT hB4 hM4 hx4 hTe
    go_loopw [29] (fun s29 wr => ∃ (i : Nat), s29 = .int .i64 i ∧ i ≤ ls.length ∧ Below W4.heap.size W4 wr) (fun s29 _ => ls.length - (intOf s29).toNat)
    case atStart => exact ⟨0, rfl, Nat.zero_le _, Below.refl _ _⟩
    case round =>
      obtain ⟨i, rfl, hi, hb⟩ := hrel
      have hbw := HB4.out.trans (hb.mono HB4.out.size)
      by_cases hlt : i < ls.length
      · obtain ⟨b, qo, rfl, hc⟩ := (rd_strs (HR.out.below hbw (Nat.le_refl _))).2 i hlt
        have hl := HZ.out ls[i] (List.getElem_mem hlt)
        obtain ⟨l, hle⟩ : ∃ l, ls[i] = l := ⟨_, rfl⟩
        rw [hle] at hc hl
        have hx := HX4.out.below hb (by omega)
        obtain ⟨d0, d1, d2, d3, d4, d5, d6, d7, d8⟩ := hx
        have C3 := small_any wr o l (by omega) (by omega) (by omega) (by omega)
        have HB := Lib.hid hb
        clear hb hbw hle
        go_wp2_with fail
        refine C3.mono ?_
        rintro e w5 ⟨⟨r, rfl⟩, hb5⟩
        clear C3 hc d0 d1 d2 d3 d4 d5 d6 d7 d8
        have HB5 := Lib.hid (HB.out.trans (hb5.mono HB.out.size))
        clear hb5 HB
        cases r with
        | false =>
          go_wp2
          go_roundw
          case rel => exact ⟨i + 1, by go_num, by omega, HB5.out⟩
          case measure => simp [intOf]; omega
        | true =>
          have hT5 := nine HT.out HB5.out
          obtain ⟨y0, y1, y2, y3, y4, y5, y6, y7, y8⟩ := cells9 hT5
          have hM5 := HM4.out.below HB5.out
          have K1 : ∀ W, SN T (.int .i64 q0) (.string q1) (.int .i64 q2) (.bool q3) (.bool q4) (.string q5) (.bool q6) (.bool q7) (.string q8) w5 W → Calls Tryd.prog 15 #[.pointer (some ⟨p, 0, none⟩), .string l] W fun e W' => e = .returned (.bool (accM o.mach l.data.toList)) ∧ SN T (.int .i64 q0) (.string q1) (.int .i64 q2) (.bool q3) (.bool q4) (.string q5) (.bool q6) (.bool q7) (.string q8) w5 W' := fun W hS =>
            (accepts_any W p o.mach (hM5.below hS.2.2.2.2.2.2.2.2.2) l (by omega)).mono fun e W' ⟨h1, h2⟩ => ⟨h1, hS.keep h2⟩
          have K2 : ∀ W, SN T (.int .i64 q0) (.string q1) (.int .i64 q2) (.bool q3) (.bool q4) (.string q5) (.bool q6) (.bool q7) (.string q8) w5 W → Calls Tryd.prog 16 #[.pointer (some ⟨p, 0, none⟩), .string l] W fun e W' => e = .returned (.bool (aliveM o.mach l.data.toList)) ∧ SN T (.int .i64 q0) (.string q1) (.int .i64 q2) (.bool q3) (.bool q4) (.string q5) (.bool q6) (.bool q7) (.string q8) w5 W' := fun W hS =>
            (alive_any W p o.mach (hM5.below hS.2.2.2.2.2.2.2.2.2) l (by omega)).mono fun e W' ⟨h1, h2⟩ => ⟨h1, hS.keep h2⟩
          have K3 : ∀ W, SN T (.int .i64 q0) (.string q1) (.int .i64 q2) (.bool q3) (.bool q4) (.string q5) (.bool q6) (.bool q7) (.string q8) w5 W → Calls Tryd.prog 20 #[.agg #[(.int .i64 q0), (.string q1), (.int .i64 q2), (.bool q3), (.bool q4), (.string q5), (.bool q6), (.bool q7), (.string q8)], .string l] W fun e W' => e = .returned (.bool (accM o.mach l.data.toList)) ∧ SN T (.int .i64 q0) (.string q1) (.int .i64 q2) (.bool q3) (.bool q4) (.string q5) (.bool q6) (.bool q7) (.string q8) w5 W' := fun W hS =>
            (HKA.out W l hl).mono fun e W' ⟨h1, h2⟩ => ⟨h1, hS.keep h2⟩
          have K4 : ∀ W, SN T (.int .i64 q0) (.string q1) (.int .i64 q2) (.bool q3) (.bool q4) (.string q5) (.bool q6) (.bool q7) (.string q8) w5 W → Calls Tryd.prog 21 #[.agg #[(.int .i64 q0), (.string q1), (.int .i64 q2), (.bool q3), (.bool q4), (.string q5), (.bool q6), (.bool q7), (.string q8)], .string l] W fun e W' => e = .returned (.bool (aliveM o.mach l.data.toList)) ∧ SN T (.int .i64 q0) (.string q1) (.int .i64 q2) (.bool q3) (.bool q4) (.string q5) (.bool q6) (.bool q7) (.string q8) w5 W' := fun W hS =>
            (HKL.out W l hl).mono fun e W' ⟨h1, h2⟩ => ⟨h1, hS.keep h2⟩
          obtain ⟨ra, hra⟩ : ∃ ra, accM o.mach l.data.toList = ra := ⟨_, rfl⟩
          obtain ⟨rl, hrl⟩ : ∃ rl, aliveM o.mach l.data.toList = rl := ⟨_, rfl⟩
          rw [hra] at K1 K3
          rw [hrl] at K2 K4
          have HK1 := Lib.hid K1
          have HK2 := Lib.hid K2
          have HK3 := Lib.hid K3
          have HK4 := Lib.hid K4
          have hS : w5.drew.cell? ⟨T, 0, none⟩ = some (.int .i64 q0) ∧ w5.drew.cell? ⟨T, 1, none⟩ = some (.string q1) ∧ w5.drew.cell? ⟨T, 2, none⟩ = some (.int .i64 q2) ∧ w5.drew.cell? ⟨T, 3, none⟩ = some (.bool q3) ∧ w5.drew.cell? ⟨T, 4, none⟩ = some (.bool q4) ∧ w5.drew.cell? ⟨T, 5, none⟩ = some (.string q5) ∧ w5.drew.cell? ⟨T, 6, none⟩ = some (.bool q6) ∧ w5.drew.cell? ⟨T, 7, none⟩ = some (.bool q7) ∧ w5.drew.cell? ⟨T, 8, none⟩ = some (.string q8) ∧ Below w5.heap.size w5 w5.drew := ⟨y0, y1, y2, y3, y4, y5, y6, y7, y8, below_drewN (Below.refl _ _) 1⟩
          clear K1 K2 K3 K4 hM5 hT5 y0 y1 y2 y3 y4 y5 y6 y7 y8 hra hrl
          go_upto_region 13 with fail
          go_region_held3 (fun w' => w'.cell? ⟨T, 0, none⟩ = some (.int .i64 q0) ∧ w'.cell? ⟨T, 1, none⟩ = some (.string q1) ∧ w'.cell? ⟨T, 2, none⟩ = some (.int .i64 q2) ∧ w'.cell? ⟨T, 3, none⟩ = some (.bool q3) ∧ w'.cell? ⟨T, 4, none⟩ = some (.bool q4) ∧ w'.cell? ⟨T, 5, none⟩ = some (.string q5) ∧ w'.cell? ⟨T, 6, none⟩ = some (.bool q6) ∧ w'.cell? ⟨T, 7, none⟩ = some (.bool q7) ∧ w'.cell? ⟨T, 8, none⟩ = some (.string q8) ∧ Below w5.heap.size w5 w') (with_reducible assumption)
            ((first | (go_at_call 15; refine (HK1.out _ (by assumption)).mono ?_; rintro e w' ⟨rfl, hS'⟩) | (go_at_call 16; refine (HK2.out _ (by assumption)).mono ?_; rintro e w' ⟨rfl, hS'⟩) | (go_at_call 20; refine (HK3.out _ (by assumption)).mono ?_; rintro e w' ⟨rfl, hS'⟩) | (go_at_call 21; refine (HK4.out _ (by assumption)).mono ?_; rintro e w' ⟨rfl, hS'⟩)))
          all_goals
            go_wp2
            go_roundw
            case rel => exact ⟨i + 1, by go_num, by omega, HB5.out.trans ((by first | exact hS'.2.2.2.2.2.2.2.2.2 | (rename_i h; exact h.2.2.2.2.2.2.2.2.2) : Below w5.heap.size w5 _).mono HB5.out.size)⟩
            case measure => simp [intOf]; omega
      · obtain rfl : i = ls.length := by omega
        have HB := Lib.hid hbw
        clear hb hbw
        go_wp2
        go_ret
        exact ⟨rfl, HB.out⟩
  · obtain ⟨rfl, hb2⟩ := g2 hbad
    have HB2 := Lib.hid (HB1.out.trans (hb2.mono HB1.out.size))
    clear g1 g2 hbad hb2
    go_wp2
    go_ret
    exact ⟨rfl, HB2.out⟩
end Go.Proofs.YtejmjjgbbojfbaaDoor
