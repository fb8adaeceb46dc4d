/- The walk of the law CodecPrefix. -/
import Derived.Test.YtmmflhippbegaaaDoorWire
import Derived.Test.YtmmflhippbegaaaDoorLives
namespace Go.Proofs.YtmmflhippbegaaaDoor
set_option linter.unusedVariables false
open Go.ChangeShapes Go.WideShapes Go.ChangeAt Go.RowKit

theorem pckB_len (l : List Nat) (hf : ∀ x ∈ l, x < 2 ^ 63) (hl : l.length ≤ 1048576) : (pckB l).length ≤ 19000000 := by
  have h1 := (uvar_le l.length (by omega)).2
  have h2 := widL_63 hf
  have h3 : l.length * widL l ≤ 1048576 * 63 := Nat.mul_le_mul hl h2
  unfold pckB
  rw [List.length_append]
  split
  · simp; omega
  · rw [packB, List.length_cons, leB_length]; omega
theorem risB_len {l : List Int} (hf : FitL l) (hn : anyNeg l = false) (hl : l.length ≤ 1048576) : (risB l).length ≤ 19000000 := by
  have h1 := (uvar_le l.length (by omega)).2
  have h2 := gapsB_le hf (-1) (by omega) (fun z hz => neg_mem hn hz)
  rw [risB, List.length_append]; omega
theorem wire_len {w : World} {B0 : Nat} {o : OpV} {bl : List UInt8} {l : List Int} (h : OpRd w B0 o bl l) (hok : wOk o l) : (wire o bl l).length ≤ 19000000 := by
  have hu := h.u
  have hb := h.sb
  have hs := h.ss
  have hl := h.sl
  have e : o.s.size = o.s.data.toList.length := (Array.length_toList (xs := o.s.data)).symm
  have u1 := (uvar_le o.u.toNat (by omega)).2
  have u2 := (uvar_le (zigI o.i).toNat (by have := zigI_bd o.i h.i.1 h.i.2; omega)).2
  have u3 := (uvar_le o.s.size (by omega)).2
  unfold wire
  split
  · simp
  split
  · omega
  split
  · omega
  split
  · rw [leB_length]; omega
  split
  · rw [leB_length]; omega
  split
  · omega
  split
  · rw [List.length_append]; omega
  split
  · next e => exact risB_len h.fit (hok.2.2.1 e).1 hl
  split
  · next e => exact pckB_len _ (natOf_fit h.fit) (by rw [natOf_length]; exact hl)
  · omega
theorem Rdr.low {w : World} {B B0 p : Nat} {v : Value} {bs : List UInt8} {k : Nat} (h : Rdr w B p v bs k) (hB : B0 ≤ B) : Rdr w B0 p v bs k := ⟨h.blk, Nat.le_trans hB h.hp, own_base h.own hB, h.le, h.sm⟩
theorem Cells8.below {w w' : World} {B b : Nat} {c0 c1 c2 c3 c4 c5 c6 c7 : Value} (h : Cells8 w b c0 c1 c2 c3 c4 c5 c6 c7) (hb : Below B w w') (hB : b < B) : Cells8 w' b c0 c1 c2 c3 c4 c5 c6 c7 :=
  ⟨by rw [hb.cell hB]; exact h.c0, by rw [hb.cell hB]; exact h.c1, by rw [hb.cell hB]; exact h.c2, by rw [hb.cell hB]; exact h.c3, by rw [hb.cell hB]; exact h.c4, by rw [hb.cell hB]; exact h.c5, by rw [hb.cell hB]; exact h.c6, by rw [hb.cell hB]; exact h.c7⟩

set_option maxRecDepth 100000 in
set_option maxHeartbeats 2000000 in
theorem prefix_walk (w : World) (o : OpV) (bl : List UInt8) (l : List Int) (hop : OpRd w w.heap.size o bl l) (a : Option Addr) (n c : Nat) (tl : List UInt8) (ht : Rd w (.slice a n c) (bytesV tl)) (htl : tl.length ≤ 1048576) (cut : Int) (hc0 : -9223372036854775808 ≤ cut) (hc1 : cut ≤ 9223372036854775807)
    (EA : Nat → Addr) (hE : RErr w EA) :
    Calls Tryd.prog 8 #[.agg o.cells.toArray, .slice a n c, .int .i64 cut] w fun e w' => e = .returned (.bool true) ∧ Below w.heap.size w w' := by
  have hG : GLow w.heap.size := hE.lt
  have hnl : n = tl.length := by obtain ⟨A, c', e, _⟩ := ht; injection e with _ e _; rw [e, bytesV_length]
  subst hnl
  obtain ⟨o1, ho1⟩ : ∃ o1, o1 = Obj.cells o.cells.toArray 46 := ⟨_, rfl⟩
  have hb0 : Below w.heap.size w (w.alloc o1) := (Below.refl _ _).alloc (Nat.le_refl _) _
  have hbx : Cells8 (w.alloc o1) w.heap.size (.int .i64 o.kd) (.bool o.sec) (.int .i64 o.n) (.int .u64 o.u) (.int .i64 o.i) (.slice o.ba o.bn o.bc) (.string o.s) (.slice o.la o.ln o.lc) := by
    subst ho1; exact Cells8.of (heap_alloc_new w _)
  have hE0 := hE.eff (Eff.of_below hb0 (fun _ => False)) hG (fun _ f => f.elim)
  have C0 := lives_any (w.alloc o1) (errV EA) hE0.s hE0.v
  have HBX := Lib.hid hbx
  have HB0 := Lib.hid hb0
  have HG := Lib.hid hG
  have HE := Lib.hid hE
  have HOP := Lib.hid hop
  have HT := Lib.hid ht
  rw [ho1] at C0
  have HO := Lib.hid ho1
  clear hbx hb0 hG hE hE0 hop ht ho1
  go_enter Tryd.func8, Tryd.ntmps8
  go_wp2_with fail
  refine C0.mono ?_
  rintro e w1 ⟨rfl, hb1⟩
  rw [← HO.out] at hb1
  clear C0
  go_wp2_with fail
  refine (nw_any w1).mono ?_
  rintro e w2 ⟨rfl, hw2⟩
  have hs0 : (w.alloc o1).heap.size = w.heap.size + 1 := by simp
  have hb2 : Below (w.heap.size + 1) (w.alloc o1) w2 := by rw [hw2]; rw [hs0] at hb1; exact hb1.alloc (by have := hb1.size; rw [hs0] at this; exact this) _
  have hwr2 : Wr w2 w1.heap.size w1.heap.size (.slice none 0 0) [] := by rw [hw2]; exact wr_new w1
  have hz2 : w1.heap.size ≤ w2.heap.size := by rw [hw2]; simp
  have hz1 : w.heap.size + 1 ≤ w1.heap.size := by have := hb1.size; rw [hs0] at this; exact this
  have hB2 : Below w.heap.size w w2 := HB0.out.trans (hb2.mono (by omega))
  have C1 := write_any w2 w1.heap.size w1.heap.size _ [] hwr2 hz2 (by simp) w.heap.size (by omega) o bl l (HOP.out.below hB2) EA (HE.out.eff (Eff.of_below hB2 (fun _ => False)) HG.out (fun _ f => f.elim)) HG.out
  have HX2 := Lib.hid (HBX.out.below hb2 (by omega))
  obtain ⟨d0, d1, d2, d3, d4, d5, d6, d7⟩ := HX2.out
  have HB2 := Lib.hid hB2
  have HW2 := Lib.hid hwr2
  clear hb1 hw2 hb2 hwr2 hB2
  go_wp2_with fail
  refine C1.mono ?_
  rintro e w3 ⟨hyes, hno⟩
  clear C1 d0 d1 d2 d3 d4 d5 d6 d7
  by_cases hok : wOk o l
  · obtain ⟨rfl, v3, hw3, hwr3⟩ := hyes hok
    have hB3 := HB2.out.trans ((hwr3.below HW2.out hz2).mono (by omega))
    have HX3 := Lib.hid (HX2.out.below (hwr3.below HW2.out hz2) (by omega))
    have hz3 := hwr3.eff.size
    have HOK := Lib.hid hok
    have hlen := wire_len HOP.out hok
    obtain ⟨W, hW⟩ : ∃ W, wire o bl l = W := ⟨_, rfl⟩
    rw [List.nil_append, hW] at hw3
    rw [hW] at hlen
    have HWW := Lib.hid hW
    have C2 := wbytes_any w3 _ _ _ _ hw3 (by omega)
    have HB3 := Lib.hid hB3
    clear hyes hno hok hW hB3 hw3 hwr3
    go_wp2_with fail
    refine C2.mono ?_
    rintro e w4 ⟨v4, rfl, ho4, hb4⟩
    clear C2
    obtain ⟨a4, n4, c4, rfl⟩ := own_sl ho4
    obtain rfl : n4 = W.length := by have := ho4.len; rw [bytesV_length] at this; exact this
    have hB4 := HB3.out.trans (hb4.mono (by omega))
    have hX4 := HX3.out.below hb4 (by omega)
    have hz4 := hb4.size
    have hz5 : (w4.alloc (.cells #[.slice a4 W.length c4, .slice a tl.length c] 37)).heap.size = w4.heap.size + 1 := by simp
    have hb5 : Below w4.heap.size w4 (w4.alloc (.cells #[.slice a4 W.length c4, .slice a tl.length c] 37)) := (Below.refl _ _).alloc (Nat.le_refl _) _
    have ho5 := ho4.alloc (.cells #[.slice a4 W.length c4, .slice a tl.length c] 37)
    have hB5 := hB4.trans (hb5.mono (by omega))
    have hX5 := hX4.below hb5 (by omega)
    have hls := (own_lit w4 w4.heap.size 37 [.slice a4 W.length c4, .slice a tl.length c] (Nat.le_refl _) (by simp [maxLen])).rd
    have hcl : catL (fun k => if k = 0 then W else tl) 2 = W ++ tl := by simp [catL, List.range_succ]
    have hrds : Rds (w4.alloc (.cells #[.slice a4 W.length c4, .slice a tl.length c] 37)) [.slice a4 W.length c4, .slice a tl.length c] (fun k => if k = 0 then W else tl) := fun k x hx => by
      have hk : k < 2 := (List.getElem?_eq_some_iff.1 hx).1
      rcases (show k = 0 ∨ k = 1 by omega) with rfl | rfl
      · rw [← Option.some.inj hx]; exact ho5.rd
      · rw [← Option.some.inj hx]; exact HT.out.below hB5 (Nat.le_refl _)
    have C3 := cat_any _ _ 2 2 [.slice a4 W.length c4, .slice a tl.length c] _ hls hrds (by simp) (by rw [show [Value.slice a4 W.length c4, .slice a tl.length c].length = 2 from rfl, hcl, List.length_append]; omega)
    rw [show [Value.slice a4 W.length c4, .slice a tl.length c].length = 2 from rfl, hcl] at C3
    have HX5 := Lib.hid hX5
    have HB5 := Lib.hid hB5
    have HO5 := Lib.hid ho5
    clear hX5 hX4 hB5 hB4 ho5 hls hrds hcl hb5 ho4 hb4
    go_wp2_with fail
    refine C3.mono ?_
    rintro e w6 ⟨v6, rfl, ho6, hb6⟩
    clear C3
    rw [hz5] at ho6 hb6
    obtain ⟨a6, n6, c6, rfl⟩ := own_sl ho6
    have C4 := nr_any w6 a6 n6 c6 (W ++ tl) ho6.rd (by rw [List.length_append]; omega)
    have hz6 := hb6.size
    rw [hz5] at hz6
    have HB6 := Lib.hid (HB5.out.trans (hb6.mono (by omega)))
    have HO6 := Lib.hid (HO5.out.below hb6 (by omega))
    have HX6 := Lib.hid (HX5.out.below hb6 (by omega))
    clear ho6 hb6
    go_wp2_with fail
    refine C4.mono ?_
    rintro e w7 ⟨p, v, rfl, hr7, hb7⟩
    clear C4
    have hz7 := hb7.size
    have hpp := hr7.hp
    have hr7' := hr7.low (B0 := w.heap.size) (by omega)
    have hB7 := HB6.out.trans (hb7.mono (by omega))
    have HX7 := Lib.hid (HX6.out.below hb7 (by omega))
    have HO7 := Lib.hid (HO6.out.below hb7 (by omega))
    have C5 := back_any w7 w.heap.size p v (W ++ tl) 0 hr7' (by omega) o bl l (HOP.out.below hB7) HOK.out EA (HE.out.eff (Eff.of_below hB7 (fun _ => False)) HG.out (fun _ f => f.elim)) HG.out tl (by rw [List.drop_zero, HWW.out])
    obtain ⟨d0, d1, d2, d3, d4, d5, d6, d7⟩ := HX7.out
    have HB7 := Lib.hid hB7
    clear hr7 hr7' hb7 hB7
    go_wp2_with fail
    refine C5.mono ?_
    rintro e w8 ⟨rfl, hr8, he8⟩
    clear C5 d0 d1 d2 d3 d4 d5 d6 d7
    rw [HWW.out, Nat.zero_add] at hr8
    have C6 := rat_any w8 _ _ _ _ _ hr8
    have C7 := rleft_any w8 _ _ _ _ _ hr8
    rw [List.length_append] at C7
    have q1 : ((W.length + tl.length : Nat) : Int) - (W.length : Int) = (tl.length : Int) := by omega
    rw [q1] at C7
    have hb8 : Below w7.heap.size w7 w8 → True := fun _ => trivial
    have HE8 := Lib.hid he8
    clear q1 hr8 he8 hb8
    go_wp2_with fail
    refine C6.mono ?_
    rintro e w9 ⟨rfl, rfl⟩
    go_wp2_with fail
    refine C7.mono ?_
    rintro e w9 ⟨rfl, d, rfl⟩
    clear C6 C7
    have hB8 := HB7.out.trans (HE8.out.below (B := w.heap.size) (fun i hi => by subst hi; omega) (by omega))
    have ho8 : Own w8 w3.heap.size 5 (.slice a4 W.length c4) (bytesV W) := HO7.out.eff HE8.out (fun k hk e => by have := (HO6.out.lt k hk).2; omega)
    have HB9 := Lib.hid (below_drewN hB8 d)
    have HO9 := Lib.hid (ho8.drewN d)
    have HX9 := Lib.hid (show Cells8 (w8.drewN d) w.heap.size (.int .i64 o.kd) (.bool o.sec) (.int .i64 o.n) (.int .u64 o.u) (.int .i64 o.i) (.slice o.ba o.bn o.bc) (.string o.s) (.slice o.la o.ln o.lc) from by
      have h := HX7.out.below (HE8.out.below (B := w6.heap.size) (fun i hi => by subst hi; omega) (by omega)) (by omega)
      exact ⟨h.c0, h.c1, h.c2, h.c3, h.c4, h.c5, h.c6, h.c7⟩)
    have hz9 : w6.heap.size ≤ (w8.drewN d).heap.size := Nat.le_trans hz7 HE8.out.size
    clear hB8 ho8
    generalize w8.drewN d = w9 at *
    by_cases h0 : W = []
    · subst h0
      go_wp2
      go_ret
      exact ⟨rfl, HB9.out⟩
    · have hK : 0 < W.length := List.length_pos_iff.2 h0
      obtain ⟨K, hKK⟩ : ∃ K, W.length = K := ⟨_, rfl⟩
      have HKK := Lib.hid hKK
      rw [hKK] at hK hlen HO9
      rw [hKK]
      clear hKK h0
      obtain ⟨g, rfl⟩ := HO9.someAt hK
      have hcap := (own_cap HO9).1
      have hml : ((cut.tmod K) < 0 → -(K : Int) < cut.tmod K) ∧ cut.tmod K < K := ⟨fun _ => by have := Int.lt_tmod_of_pos cut (show (0 : Int) < K by omega); omega, Int.tmod_lt_of_pos cut (by omega)⟩
      obtain ⟨J, hJ⟩ : ∃ J : Nat, (J : Int) = if cut.tmod K < 0 then cut.tmod K + K else cut.tmod K := ⟨(if cut.tmod K < 0 then cut.tmod K + K else cut.tmod K).toNat, by split <;> omega⟩
      have hJK : J < K := by split at hJ <;> omega
      have hoJ : Own w9 w3.heap.size 5 (.slice (some ⟨g, 0, none⟩) J c4) (bytesV (W.take J)) := by
        rw [bytesV_take]; exact own_take HO9 (by rw [bytesV_length, HKK.out]; omega)
      have C8 := nr_any w9 (some ⟨g, 0, none⟩) J c4 (W.take J) hoJ.rd (by rw [List.length_take]; omega)
      have HO10 := Lib.hid HO9
      clear hoJ HO9
      by_cases hneg : cut.tmod K < 0
      · rw [if_pos hneg] at hJ
        have q1 : wrap64 (cut.tmod K + K) = (J : Int) := by rw [← hJ]; simp only [wrap64]; omega
        clear hJ hml
        go_wp2_with fail
        refine C8.mono ?_
        rintro e w10 ⟨p2, v2, rfl, hr10, hb10⟩
        clear C8
        have hr10' := hr10.low (B0 := w.heap.size) (by omega)
        have hB10 := HB9.out.trans (hb10.mono (by omega))
        have C9 := short_any w10 w.heap.size p2 v2 (W.take J) hr10' (by have := hb10.size; omega) o bl l (HOP.out.below hB10) HOK.out EA (HE.out.eff (Eff.of_below hB10 (fun _ => False)) HG.out (fun _ f => f.elim)) HG.out J (by rw [HWW.out, HKK.out]; exact hJK) (by rw [HWW.out])
        obtain ⟨d0, d1, d2, d3, d4, d5, d6, d7⟩ := HX9.out.below hb10 (by omega)
        have hp2 := hr10.hp
        have HB10 := Lib.hid hB10
        have hz10 := hb10.size
        clear hr10 hr10' hb10 hB10
        go_wp2_with fail
        refine C9.mono ?_
        rintro e w11 ⟨rfl, he11⟩
        have HB11 := Lib.hid (HB10.out.trans (he11.below (B := w.heap.size) (fun i hi => by subst hi; omega) (by omega)))
        clear he11 C9
        go_wp2
        go_ret
        exact ⟨rfl, HB11.out⟩
      · rw [if_neg hneg] at hJ
        have q1 : cut.tmod K = (J : Int) := hJ.symm
        clear hJ hml hneg
        go_wp2_with fail
        refine C8.mono ?_
        rintro e w10 ⟨p2, v2, rfl, hr10, hb10⟩
        clear C8
        have hr10' := hr10.low (B0 := w.heap.size) (by omega)
        have hB10 := HB9.out.trans (hb10.mono (by omega))
        have C9 := short_any w10 w.heap.size p2 v2 (W.take J) hr10' (by have := hb10.size; omega) o bl l (HOP.out.below hB10) HOK.out EA (HE.out.eff (Eff.of_below hB10 (fun _ => False)) HG.out (fun _ f => f.elim)) HG.out J (by rw [HWW.out, HKK.out]; exact hJK) (by rw [HWW.out])
        obtain ⟨d0, d1, d2, d3, d4, d5, d6, d7⟩ := HX9.out.below hb10 (by omega)
        have hp2 := hr10.hp
        have HB10 := Lib.hid hB10
        have hz10 := hb10.size
        clear hr10 hr10' hb10 hB10
        go_wp2_with fail
        refine C9.mono ?_
        rintro e w11 ⟨rfl, he11⟩
        have HB11 := Lib.hid (HB10.out.trans (he11.below (B := w.heap.size) (fun i hi => by subst hi; omega) (by omega)))
        clear he11 C9
        go_wp2
        go_ret
        exact ⟨rfl, HB11.out⟩
  · obtain ⟨rfl, hw3, hwr3⟩ := hno hok
    have hB3 := HB2.out.trans ((hwr3.below HW2.out hz2).mono (by omega))
    clear hyes hno hok hw3 hwr3
    go_wp2
    go_ret
    exact ⟨rfl, hB3⟩
end Go.Proofs.YtmmflhippbegaaaDoor
