/- The walk of the law DictOneForm. -/
import Derived.Test.YtfeldllcpeibcaaDoorFixed6
namespace Go.Proofs.YtfeldllcpeibcaaDoor
set_option linter.unusedVariables false
open Go.ChangeShapes Go.WideShapes Go.ChangeAt Go.RowKit

theorem rd_take {w : World} {a : Option Addr} {n c : Nat} {xs : List Value} (h : Rd w (.slice a n c) xs) (k : Nat) (hk : k ≤ xs.length) : Rd w (.slice a k c) (xs.take k) := by
  obtain ⟨A, c', e, hc, hr⟩ := h
  injection e with e1 e2 e3
  subst e1 e2 e3
  refine ⟨a, c, by rw [List.length_take, Nat.min_eq_left hk], by rw [List.length_take]; omega, fun h0 => ?_⟩
  obtain ⟨b, o, ha, hcell⟩ := hr (by rw [List.length_take] at h0; omega)
  exact ⟨b, o, ha, fun j x hx => hcell j x (by rw [List.getElem?_take] at hx; split at hx; exact hx; cases hx)⟩
theorem RowE.cap {w : World} {base : Nat} {a : Option Addr} {n c : Nat} {es : List EntV} (h : RowE w base (.slice a n c) es) : n ≤ c := by
  rcases h.2 with ⟨hv, h0⟩ | ⟨g, cap, cur, hv, hb, hgg, hn, hr⟩
  · injection hv with e1 e2 e3; omega
  · injection hv with e1 e2 e3; omega

set_option maxRecDepth 100000 in
set_option maxHeartbeats 2000000 in
theorem dictOneForm_walk (w : World) (a : Option Addr) (m c : Nat) (bs : List UInt8) (hr : Rd w (.slice a m c) (bytesV bs)) (hbs : bs.length ≤ 1048576) (cut : Int) (EA : Nat → Addr) (hS : Sent w EA) :
    Calls Tryd.prog 3 #[.slice a m c, .int .i64 cut] w fun e w' => e = .returned (.bool true) ∧ Below w.heap.size w w' := by
  have hml : m = bs.length := by obtain ⟨A, c', h, _⟩ := hr; injection h with _ h _; rw [h, bytesV_length]
  have hmc : bs.length ≤ c := by obtain ⟨A, c', h, hc, _⟩ := hr; injection h with _ _ h; rw [h]; rwa [bytesV_length] at hc
  subst hml
  have HS := Lib.hid hS
  have HR := Lib.hid hr
  clear hS hr
  go_enter Tryd.func3, Tryd.ntmps3
  go_wp2_with fail
  refine (fixed_any w EA HS.out).mono ?_
  rintro e w1 ⟨rfl, hb1⟩
  have C1 := open_any w1 a bs.length c bs (HR.out.below hb1 (Nat.le_refl _)) (by omega) EA (HS.out.below hb1).derr
  have HB1 := Lib.hid hb1
  clear hb1
  go_wp2_with fail
  refine C1.mono ?_
  rintro e w2 ⟨hyes, hno⟩
  clear C1
  cases hres : parseP bs with
  | none =>
    obtain ⟨rfl, hb2⟩ := hno hres
    have HB2 := Lib.hid (HB1.out.trans (hb2.mono HB1.out.size))
    clear hyes hno hres hb2
    unfold errV
    go_wp2
    go_ret
    exact ⟨rfl, HB2.out⟩
  | some es =>
    obtain ⟨q, v, rfl, hd2, hb2⟩ := hyes es hres
    obtain ⟨him, hok, hris⟩ := parse_form hres
    have hel : es.length ≤ bs.length := by have := (image_len es).1; rw [him] at this; exact this
    have hb02 := HB1.out.trans (hb2.mono HB1.out.size)
    have C2 := dlen_any w2 _ q v es hd2
    have te : decide (bs.length < es.length) = false := decide_eq_false (by omega)
    have HD := Lib.hid hd2
    have HB2 := Lib.hid hb02
    have HRES := Lib.hid hres
    have HIM := Lib.hid him
    have HOK := Lib.hid hok
    have HRIS := Lib.hid hris
    clear hyes hno hres hd2 hb2 hb02 him hok hris
    go_wp2_with fail
    refine C2.mono ?_
    rintro e w3 ⟨rfl, rfl⟩
    clear C2
    go_wp2
    go_loopw [7, 8] (fun s7 s8 wr => ∃ (i : Nat) (A : Option Addr) (C : Nat), s7 = .slice A i C ∧ s8 = .int .i64 i ∧ i ≤ es.length ∧ RowE wr w2.heap.size (.slice A i C) (es.take i) ∧ Below w2.heap.size w2 wr) (fun _ s8 _ => es.length - (intOf s8).toNat)
    case atStart => exact ⟨0, none, 0, rfl, rfl, Nat.zero_le _, rowE_nil _ _, Below.refl _ _⟩
    case round =>
      obtain ⟨i, A, C, rfl, rfl, hi, hrow, hb⟩ := hrel
      have hz := hb.size
      have hdw := HD.out.below hb (Nat.le_refl _)
      have C3 := dlen_any wr _ q v es hdw
      by_cases hlt : i < es.length
      · have C4 := at_in wr _ q v es hdw (by omega) i hlt
        obtain ⟨en, hen⟩ : ∃ en, es[i] = en := ⟨_, rfl⟩
        have htk : es.take (i + 1) = es.take i ++ [en] := by rw [List.take_succ_eq_append_getElem hlt, hen]
        rw [hen] at C4
        obtain ⟨ek, ed, et, ea, es'⟩ := en
        simp only [EntV.cells] at C4
        have HTK := Lib.hid htk
        have HROW := Lib.hid hrow
        have HB := Lib.hid hb
        have i1 : (i : Int) < (es.length : Int) := by omega
        have tl : decide (i < es.length) = true := decide_eq_true hlt
        clear hen htk hrow hb hdw te
        go_wp2_with fail
        refine C3.mono ?_
        rintro e w4 ⟨rfl, rfl⟩
        clear C3
        go_wp2_with fail
        refine C4.mono ?_
        rintro e w5 ⟨rfl, hb5⟩
        clear C4
        have hrow5 := HROW.out.below hb5 (Nat.le_refl _)
        have hb05 := HB.out.trans (hb5.mono hz)
        obtain ⟨w6, hw6⟩ : ∃ w6, w6 = w5.alloc (.cells #[.string ek, .int .i64 ed, .int .i64 et, .int .i64 ea, .int .i64 es'] 32) := ⟨_, rfl⟩
        have hrow6 : RowE w6 w2.heap.size (.slice A i C) (es.take i) := by rw [hw6]; exact hrow5.eff (F := fun _ => False) ((Eff.refl _ _).alloc _) (fun _ _ f => f)
        have hb6 : Below w2.heap.size w2 w6 := by rw [hw6]; exact hb05.alloc hb05.size _
        have hg6 : w6.heap[w5.heap.size]? = some (.cells #[.string ek, .int .i64 ed, .int .i64 et, .int .i64 ea, .int .i64 es'] 32 (0, 0)) := by rw [hw6]; exact heap_alloc_new w5 _
        have d0 := blk_cell hg6 0
        have d1 := blk_cell hg6 1
        have d2 := blk_cell hg6 2
        have d3 := blk_cell hg6 3
        have d4 := blk_cell hg6 4
        have hz6 : w2.heap.size ≤ w6.heap.size := hb6.size
        have hl6 : (es.take i).length ≤ 1000000000 := by rw [List.length_take]; omega
        have HW6 := Lib.hid hw6
        have HROW6 := Lib.hid hrow6
        have HB6 := Lib.hid hb6
        have HL6 := Lib.hid hl6
        clear hrow5 hb05 hw6 hrow6 hb6 hg6 hb5 hl6
        go_upto_region 13 with fail
        rw [← HW6.out]
        go_wp2_with (at_builtin; with_reducible refine apE HROW6.out HL6.out hz6 rfl _ _ rfl rfl rfl ?_)
        intro v7 w7 hrow7 hg7
        rw [← HTK.out] at hrow7
        have hb7 := HROW6.out.grown hg7 HB6.out (Nat.le_refl _)
        obtain ⟨A7, C7, rfl⟩ := hrow7.sl
        rw [show (es.take (i + 1)).length = i + 1 by rw [List.length_take]; omega] at hrow7 ⊢
        have HROW7 := Lib.hid hrow7
        have HB7 := Lib.hid hb7
        clear hrow7 hb7 hg7 d0 d1 d2 d3 d4
        go_wp2
        go_roundw
        case rel => exact ⟨i + 1, A7, C7, rfl, by go_num, by omega, HROW7.out, HB7.out⟩
        case measure => simp [intOf]; omega
      · obtain rfl : i = es.length := by omega
        rw [List.take_of_length_le (Nat.le_refl _)] at hrow
        have hb0 := HB2.out.trans (hb.mono HB2.out.size)
        have C4 := build_any wr A es.length C es hrow.rd hrow.cap (by omega) (fun _ => by rw [HIM.out]; omega) EA (HS.out.below hb0).derr.r
        have tl : decide (es.length < es.length) = false := decide_eq_false (Nat.lt_irrefl _)
        have HB := Lib.hid hb0
        clear hrow hb hdw hlt te hb0
        go_wp2_with fail
        refine C3.mono ?_
        rintro e w4 ⟨rfl, rfl⟩
        clear C3 tl
        go_wp2_with fail
        refine C4.mono ?_
        rintro e w5 ⟨hyes, _⟩
        clear C4
        obtain ⟨v5, rfl, ho5, hb5⟩ := hyes HOK.out HRIS.out
        rw [HIM.out] at ho5
        have hb05 := HB.out.trans (hb5.mono HB.out.size)
        obtain ⟨a5, n5, c5, rfl⟩ := own_sl ho5
        have C5 := equal_any w5 _ _ bs bs (HR.out.below hb05 (Nat.le_refl _)) ho5.rd
        rw [show (bs == bs) = true from beq_self_eq_true bs] at C5
        have HO5 := Lib.hid (own_base ho5 HB.out.size)
        have HB5 := Lib.hid hb05
        clear hyes ho5 hb5 hb05
        go_wp2_with fail
        refine C5.mono ?_
        rintro e w6 ⟨rfl, rfl⟩
        clear C5
        have hl5 : (bytesV bs).length < 1000000000000 := by rw [bytesV_length]; omega
        have hz5 := HB5.out.size
        have HL5 := Lib.hid hl5
        clear hl5
        go_wp2_with (at_builtin; with_reducible refine ap1 elBytes rfl HO5.out HL5.out hz5 rfl _ _ rfl rfl rfl ?_)
        intro v7 w7 ho7 hg7
        have ho7' : Own w7 w.heap.size 5 v7 (bytesV (bs ++ [0])) := by rw [bytesV_append]; exact ho7
        have hb7 : Below w.heap.size w w7 := ((Eff.of_below HB5.out (fun _ => False)).grown hg7 (fun i hi hl => by have := (HO5.out.lt i hi).1; omega)).below (fun _ f => f.elim) (Nat.le_refl _)
        obtain ⟨a7, n7, c7, rfl⟩ := own_sl ho7
        have C7 := open_any w7 a7 n7 c7 (bs ++ [0]) ho7'.rd (by rw [List.length_append, List.length_singleton]; omega) EA (HS.out.below hb7).derr
        rw [parse_more HRES.out 0 (by omega)] at C7
        have HB7 := Lib.hid hb7
        clear ho7 ho7' hg7 hb7
        go_wp2_with fail
        refine C7.mono ?_
        rintro e w8 ⟨_, hno⟩
        clear C7
        obtain ⟨rfl, hb8⟩ := hno rfl
        have hb08 := HB7.out.trans (hb8.mono HB7.out.size)
        have C8 := num_Corrupt w8 EA (HS.out.below hb08)
        have HB8 := Lib.hid hb08
        have HC8 := Lib.hid C8
        clear hno hb8 hb08 C8
        unfold errV
        have C8 := HC8.out
        unfold errV at C8
        go_wp2_with fail
        refine C8.mono ?_
        rintro e w9 ⟨rfl, rfl⟩
        clear C8
        by_cases hc0 : cut < 0
        · have t0 : decide (cut < 0) = true := decide_eq_true hc0
          clear hc0
          go_wp2
          go_ret
          exact ⟨rfl, HB8.out⟩
        · by_cases hc1 : (bs.length : Int) ≤ cut
          · have t0 : decide (cut < 0) = false := decide_eq_false hc0
            have t1 : decide ((bs.length : Int) ≤ cut) = true := decide_eq_true hc1
            clear hc0 hc1
            go_wp2
            go_ret
            exact ⟨rfl, HB8.out⟩
          · obtain ⟨k, rfl⟩ : ∃ k : Nat, cut = k := ⟨cut.toNat, by omega⟩
            have t0 : decide ((k : Int) < 0) = false := decide_eq_false hc0
            have t1 : decide (bs.length ≤ k) = false := decide_eq_false (by omega)
            have hkl : k < bs.length := by omega
            have hrk := rd_take (HR.out.below HB8.out (Nat.le_refl _)) k (by rw [bytesV_length]; omega)
            rw [← bytesV_take] at hrk
            have C9 := open_any w8 a k c (bs.take k) hrk (by rw [List.length_take]; omega) EA (HS.out.below HB8.out).derr
            rw [parse_cut HRES.out k hkl (by omega)] at C9
            clear hrk hc0 hc1
            go_wp2_with fail
            refine C9.mono ?_
            rintro e w10 ⟨_, hno⟩
            clear C9
            obtain ⟨rfl, hb10⟩ := hno rfl
            have hb010 := HB8.out.trans (hb10.mono HB8.out.size)
            have C10 := num_Corrupt w10 EA (HS.out.below hb010)
            have HB10 := Lib.hid hb010
            have HC10 := Lib.hid C10
            clear hno hb10 hb010 C10
            unfold errV
            have C10 := HC10.out
            unfold errV at C10
            go_wp2_with fail
            refine C10.mono ?_
            rintro e w11 ⟨rfl, rfl⟩
            go_wp2
            go_ret
            exact ⟨rfl, HB10.out⟩
end Go.Proofs.YtfeldllcpeibcaaDoor
