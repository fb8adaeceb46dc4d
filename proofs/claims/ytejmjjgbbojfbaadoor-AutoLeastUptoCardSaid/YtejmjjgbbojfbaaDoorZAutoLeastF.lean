/- The walk of the law AutoLeast. -/
import Derived.Test.YtejmjjgbbojfbaaDoorZTable
import Derived.Test.YtejmjjgbbojfbaaDoorZAlone
import Derived.Test.YtejmjjgbbojfbaaDoorZDead
import Derived.Test.YtejmjjgbbojfbaaDoorZG5
namespace Go.Proofs.YtejmjjgbbojfbaaDoor
set_option linter.unusedVariables false
open Go.ChangeShapes Go.WideShapes Go.ChangeAt Go.RowKit

/-- fits. -/
def fitB (o : OfV) : Bool := decide (o.s.size ≤ 24) && decide (o.ls.size ≤ 24) && decide (o.hs.size ≤ 24)
set_option maxRecDepth 100000 in
theorem fits_any (w : World) (o : OfV) : Calls Tryd.prog 34 #[.agg o.cells.toArray] w fun e w' => e = .returned (.bool (fitB o)) ∧ Below w.heap.size w w' := by
  obtain ⟨ob, hob⟩ : ∃ ob, ob = Obj.cells o.cells.toArray 37 := ⟨_, rfl⟩
  have hb0 : Below w.heap.size w (w.alloc ob) := (Below.refl _ _).alloc (Nat.le_refl _) _
  have hcx : Cells9 (w.alloc ob) w.heap.size o := Cells9.of ((heap_alloc_new w ob).trans (congrArg some hob))
  obtain ⟨d0, d1, d2, d3, d4, d5, d6, d7, d8⟩ := hcx
  have HB0 := Lib.hid hb0
  have HOB := Lib.hid hob
  clear hb0 hob d0 d2 d3 d4 d6 d7
  obtain ⟨k, s, n, lop, lin, ls, hop, hin, hs'⟩ := o
  show Calls Tryd.prog 34 #[.agg #[.int .i64 k, .string s, .int .i64 n, .bool lop, .bool lin, .string ls, .bool hop, .bool hin, .string hs']] w _
  have HOB : RowKit.Hid (ob = Obj.cells #[.int .i64 k, .string s, .int .i64 n, .bool lop, .bool lin, .string ls, .bool hop, .bool hin, .string hs'] 37) := HOB
  have d1 : (w.alloc ob).cell? ⟨w.heap.size, 1, none⟩ = some (.string s) := d1
  have d5 : (w.alloc ob).cell? ⟨w.heap.size, 5, none⟩ = some (.string ls) := d5
  have d8 : (w.alloc ob).cell? ⟨w.heap.size, 8, none⟩ = some (.string hs') := d8
  have hres : fitB ⟨k, s, n, lop, lin, ls, hop, hin, hs'⟩ = (decide (s.size ≤ 24) && decide (ls.size ≤ 24) && decide (hs'.size ≤ 24)) := rfl
  rw [hres]
  clear hres
  obtain ⟨r, hr0⟩ : ∃ r, (decide (s.size ≤ 24) && decide (ls.size ≤ 24) && decide (hs'.size ≤ 24)) = r := ⟨_, rfl⟩
  rw [hr0]
  have HR0 := Lib.hid hr0
  clear hr0
  go_enter Tryd.func34, Tryd.ntmps34
  go_upto_region 1 with fail
  rw [← HOB.out]
  generalize w.alloc ob = W at d1 d5 d8 HB0 ⊢
  generalize w.heap.size = z at d1 d5 d8 ⊢
  by_cases h1 : s.size ≤ 24
  · have i1 : (s.size : Int) ≤ 24 := by omega
    by_cases h2 : ls.size ≤ 24
    · have i2 : (ls.size : Int) ≤ 24 := by omega
      by_cases h3 : hs'.size ≤ 24
      · have i3 : (hs'.size : Int) ≤ 24 := by omega
        obtain rfl : r = true := by rw [← HR0.out]; simp [h1, h2, h3]
        clear HR0 h1 h2 h3
        go_wp2
        go_ret
        exact ⟨rfl, HB0.out⟩
      · have i3 : decide ((hs'.size : Int) ≤ 24) = false := decide_eq_false (by omega)
        obtain rfl : r = false := by rw [← HR0.out]; simp [h3]
        clear HR0 h1 h2 h3
        go_wp2
        go_ret
        exact ⟨rfl, HB0.out⟩
    · have i2 : decide ((ls.size : Int) ≤ 24) = false := decide_eq_false (by omega)
      obtain rfl : r = false := by rw [← HR0.out]; simp [h2]
      clear HR0 h1 h2
      go_wp2
      go_ret
      exact ⟨rfl, HB0.out⟩
  · have i1 : decide ((s.size : Int) ≤ 24) = false := decide_eq_false (by omega)
    obtain rfl : r = false := by rw [← HR0.out]; simp [h1]
    clear HR0 h1
    go_wp2
    go_ret
    exact ⟨rfl, HB0.out⟩
set_option maxRecDepth 100000 in
set_option maxHeartbeats 4000000 in
theorem autoleast_walk (w : World) (o : OfV) (hos : o.s.size ≤ 1000000000) (hol : o.ls.size ≤ 1000000000) (hoh : o.hs.size ≤ 1000000000) (EA : Nat → Addr) (hE : Sent w EA) :
    Calls Tryd.prog 10 #[.agg o.cells.toArray] w fun e w' => e = .returned (.bool true) ∧ Below w.heap.size w w' := by
  obtain ⟨ob, hob⟩ : ∃ ob, ob = Obj.cells o.cells.toArray 37 := ⟨_, rfl⟩
  have hb0 : Below w.heap.size w (w.alloc ob) := (Below.refl _ _).alloc (Nat.le_refl _) _
  have hz0 : (w.alloc ob).heap.size = w.heap.size + 1 := by simp
  have hcx : Cells9 (w.alloc ob) w.heap.size o := Cells9.of ((heap_alloc_new w ob).trans (congrArg some hob))
  have C0 := lives_any (w.alloc ob) _ (hE.below hb0).c14
  have HE := Lib.hid (show ∀ X, Below w.heap.size w X → Sent X EA from fun X e => hE.below e)
  have HB0 := Lib.hid hb0
  have HZ0 := Lib.hid hz0
  have HCX := Lib.hid hcx
  have HOB := Lib.hid hob
  clear hE hb0 hz0 hcx hob
  go_enter Tryd.func10, Tryd.ntmps10
  go_upto_region 1 with fail
  rw [← HOB.out]
  generalize w.alloc ob = W at C0 HB0 HZ0 HCX ⊢
  obtain ⟨z, hz⟩ : ∃ z, z = w.heap.size := ⟨_, rfl⟩
  have HCX : RowKit.Hid (Cells9 W z o) := by rw [hz]; exact HCX
  have hz1 : z < W.heap.size := by rw [hz, HZ0.out]; omega
  rw [← hz]
  have HZ := Lib.hid hz
  clear hz HZ0
  go_wp2_with fail
  refine C0.mono ?_
  rintro e w1 ⟨rfl, hb1⟩
  have hB1 := HB0.out.trans (hb1.mono HB0.out.size)
  have hcx1 := HCX.out.below hb1 hz1
  have HB1 := Lib.hid hB1
  have C1 := fits_any w1 o
  obtain ⟨d0, d1, d2, d3, d4, d5, d6, d7, d8⟩ := hcx1
  clear C0 hb1 hB1
  cases hf : fitB o with
  | false =>
    rw [hf] at C1
    have HF := Lib.hid hf
    clear hf
    go_wp2_with fail
    refine C1.mono ?_
    rintro e w2 ⟨rfl, hb2⟩
    have HB2 := Lib.hid (HB1.out.trans (hb2.mono HB1.out.size))
    clear C1 hb2
    go_wp2
    go_ret
    exact ⟨rfl, HB2.out⟩
  | true =>
    rw [hf] at C1
    clear hf
    go_wp2_with fail
    refine C1.mono ?_
    rintro e w2 ⟨rfl, hb2⟩
    have hB2 := HB1.out.trans (hb2.mono HB1.out.size)
    have hzz : z < w1.heap.size := World.block_lt_of_cell? w1 _ d0
    have hcx2 := (show Cells9 w1 z o from ⟨d0, d1, d2, d3, d4, d5, d6, d7, d8⟩).below hb2 hzz
    have HB2 := Lib.hid hB2
    have C2 := made_any w2 o hos EA (HE.out _ hB2)
    clear C1 hb2 hB2 d0 d1 d2 d3 d4 d5 d6 d7 d8 hzz
    obtain ⟨d0, d1, d2, d3, d4, d5, d6, d7, d8⟩ := hcx2
    go_wp2_with fail
    refine C2.mono ?_
    rintro e w3 ⟨g1, g2⟩
    clear C2 d0 d1 d2 d3 d4 d5 d6 d7 d8
    by_cases hbad : o.bad = 0
    · obtain ⟨p, rfl, hp, ha, hb3⟩ := g1 hbad
      obtain ⟨M, hM⟩ := auto_at ha hos hol hoh
      have hB3 := HB2.out.trans (hb3.mono HB2.out.size)
      have HB3 := Lib.hid hB3
      have C3 := tabl_any w3 p M hM 120 EA (HE.out _ hB3).c15
      have hmin : min (120 : Int) 1024 = 120 := rfl
      rw [hmin] at C3
      clear g1 g2 hbad ha hb3 hB3 hmin hM hp
      go_wp2_with fail
      refine C3.mono ?_
      rintro e w4 hpost
      clear C3
      rcases hpost with ⟨A, X, ca, cx, T, N, rfl, htab, hcan, hn0, hnN, -, hN, hb4⟩ | ⟨rfl, -, hb4⟩
      · have hn2 : T.n ≤ 120 := by omega
        have HB4 := Lib.hid (HB3.out.trans (hb4.mono HB3.out.size))
        have HT := Lib.hid htab
        have HC := Lib.hid hcan
        clear htab hcan hb4 hN hnN
        go_upto_region 8 with fail
        have hb5 : Below w4.heap.size w4 (w4.alloc (.cells #[.int .i64 0, .slice A T.n ca, .slice X (256 * T.n) cx] 54)) := (Below.refl _ _).alloc (Nat.le_refl _) _
        have hblk := heap_alloc_new w4 (.cells #[.int .i64 0, .slice A T.n ca, .slice X (256 * T.n) cx] 54)
        have ht5 := HT.out.below hb5 (Nat.le_refl _)
        have hB5 := HB4.out.trans (hb5.mono HB4.out.size)
        generalize w4.alloc (.cells #[.int .i64 0, .slice A T.n ca, .slice X (256 * T.n) cx] 54) = W5 at hblk ht5 hB5 ⊢
        generalize w4.heap.size = tb at hblk ⊢
        have c0 : W5.cell? ⟨tb, 0, none⟩ = some (.int .i64 0) := blk_cell hblk 0
        have c1 : W5.cell? ⟨tb, 1, none⟩ = some (.slice A T.n ca) := blk_cell hblk 1
        have c2 : W5.cell? ⟨tb, 2, none⟩ = some (.slice X (256 * T.n) cx) := blk_cell hblk 2
        have C5 := whole_any W5 _ A X ca cx T ht5 hn0 (by omega) HC.out.rng
        have HT5 := Lib.hid ht5
        have HBK := Lib.hid hblk
        have HB5 := Lib.hid hB5
        clear hb5 hblk ht5 hB5 HB4 HT
        have i0 : ¬ ((120 : Int) < (T.n : Int)) := by omega
        go_upto_region 11 with fail
        go_wp2_with (with_reducible refine C5.mono ?_; rintro e w6 ⟨rfl, hb6⟩; (have d0 : w6.cell? ⟨tb, 0, none⟩ = some (.int .i64 0) := by rw [hb6.cell (World.block_lt_of_cell? W5 _ c0)]; exact c0))
        clear C5
        have hbk6 := (hb6.block tb (lt_of_heap HBK.out)).trans HBK.out
        have e0 : w6.cell? ⟨tb, 0, none⟩ = some (.int .i64 0) := blk_cell hbk6 0
        have e1 : w6.cell? ⟨tb, 1, none⟩ = some (.slice A T.n ca) := blk_cell hbk6 1
        have ht6 := HT5.out.below hb6 (Nat.le_refl _)
        obtain ⟨xb, rfl, -, -, hx⟩ := ht6.nxAt hn0
        have e2 : w6.cell? ⟨tb, 2, none⟩ = some (.slice (some ⟨xb, 0, none⟩) (256 * T.n) cx) := blk_cell hbk6 2
        have HX := Lib.hid hx
        have HT6 := Lib.hid ht6
        have HB6 := Lib.hid (HB5.out.trans (hb6.mono HB5.out.size))
        clear hbk6 ht6 hx hb6 c0 c1 c2 d0 HT5 HBK HB5
        have hm0 : T.met (256 * 0) = 1 := rfl
        go_loop [8, 9] (fun s8 s9 => ∃ s : Nat, s9 = .int .i64 (s : Nat) ∧ s ≤ T.n ∧ s8 = .int .i64 ((T.met (256 * s) : Nat) : Int)) (fun _ s9 => T.n - (intOf s9).toNat)
        case atStart => exact ⟨0, rfl, Nat.zero_le _, by rw [hm0]; rfl⟩
        case round =>
          clear hm0
          obtain ⟨s, rfl, hs, rfl⟩ := hrel
          by_cases hlt : s < T.n
          · have hrow := HC.out.row s hlt
            obtain ⟨m, hm⟩ : ∃ m, T.met (256 * s) = m := ⟨_, rfl⟩
            rw [hm] at hrow ⊢
            have hml : m ≤ T.n := by rw [← hm]; exact HC.out.met_n (by omega)
            have t1 : decide (s < T.n) = true := decide_eq_true hlt
            have t2 : decide (m ≤ s) = false := decide_eq_false (by omega)
            have HM := Lib.hid hm
            clear hm hrow
            go_upto_region 20 with fail
            clear t1 t2
            have hm1 : T.met (256 * s + 0) = m := HM.out
            go_loop [8, 10] (fun s8 s10 => ∃ c : Nat, s10 = .int .i64 (c : Nat) ∧ c ≤ 256 ∧ s8 = .int .i64 ((T.met (256 * s + c) : Nat) : Int)) (fun _ s10 => 256 - (intOf s10).toNat)
            case atStart => exact ⟨0, rfl, Nat.zero_le _, by rw [hm1]⟩
            case round =>
              clear hm1
              obtain ⟨c, rfl, hc, rfl⟩ := hrel
              by_cases hlc : c < 256
              · have hnum := HC.out.num (256 * s + c) (by omega)
                have hnext : T.met (256 * s + (c + 1)) = if T.nx ((256 * s + c) / 256) ((256 * s + c) % 256) = T.met (256 * s + c) then T.met (256 * s + c) + 1 else T.met (256 * s + c) := rfl
                have x1 := HX.out (256 * s + c) (by omega)
                have hmn := HC.out.met_n (p := 256 * s + c) (by omega)
                obtain ⟨v, hv⟩ : ∃ v, T.nx ((256 * s + c) / 256) ((256 * s + c) % 256) = v := ⟨_, rfl⟩
                rw [hv] at hnum hnext x1
                obtain ⟨m2, hm2⟩ : ∃ m, T.met (256 * s + c) = m := ⟨_, rfl⟩
                rw [hm2] at hnum hnext hmn ⊢
                obtain ⟨a1, e5⟩ : ∃ v, 256 * s = v := ⟨_, rfl⟩
                obtain ⟨q, e7⟩ : ∃ v, a1 + c = v := ⟨_, rfl⟩
                have j1 : IntKind.i64.wrap (256 * (s : Int)) = (a1 : Int) := by rw [IntKind.wrap_i64]; omega
                have j3 : IntKind.i64.wrap ((a1 : Int) + (c : Int)) = (q : Int) := by rw [IntKind.wrap_i64]; omega
                have i4 : (q : Int) < ((256 * T.n : Nat) : Int) := by omega
                rw [e5, e7] at x1
                have t3 : decide (m2 < v) = false := decide_eq_false (by omega)
                by_cases heq : v = m2
                · have t4 : ((v : Int) == (m2 : Int)) = true := by rw [beq_iff_eq]; omega
                  rw [if_pos heq] at hnext
                  have HNX := Lib.hid hnext
                  clear hnext hv hm2 e5 e7 hnum heq
                  go_wp2
                  go_round
                  case rel => exact ⟨c + 1, by go_num, by omega, by rw [HNX.out]; go_num⟩
                  case measure => simp [intOf]; omega
                · have t4 : ((v : Int) == (m2 : Int)) = false := by rw [beq_eq_false_iff_ne]; omega
                  rw [if_neg heq] at hnext
                  have HNX := Lib.hid hnext
                  clear hnext hv hm2 e5 e7 hnum heq
                  go_wp2
                  go_round
                  case rel => exact ⟨c + 1, by go_num, by omega, by rw [HNX.out]⟩
                  case measure => simp [intOf]; omega
              · obtain rfl : c = 256 := by omega
                have hm3 : T.met (256 * s + 256) = T.met (256 * (s + 1)) := rfl
                rw [hm3]
                clear hm3
                obtain ⟨m4, hm4⟩ : ∃ m, T.met (256 * (s + 1)) = m := ⟨_, rfl⟩
                rw [hm4]
                have HM4 := Lib.hid hm4
                clear hm4
                go_wp2
                go_round
                case rel => exact ⟨s + 1, by go_num, by omega, by rw [HM4.out]⟩
                case measure => simp [intOf]; omega
          · obtain rfl : s = T.n := by omega
            rw [HC.out.all]
            have C7 := alone_any w6 _ A (some ⟨xb, 0, none⟩) ca cx T (langM M) HT6.out hn0 hn2 HC.out
            have t5 : ((T.n : Int) == (T.n : Int)) = true := by rw [beq_iff_eq]
            go_wp2_with (with_reducible refine C7.mono ?_; rintro e w8 ⟨rfl, hb8⟩)
            go_ret
            exact ⟨rfl, HB6.out.trans (hb8.mono HB6.out.size)⟩
      · have hB4 := HB3.out.trans (hb4.mono HB3.out.size)
        have hb5 : Below w4.heap.size w4 (w4.alloc (.cells #[.int .i64 0, .slice none 0 0, .slice none 0 0] 54)) := (Below.refl _ _).alloc (Nat.le_refl _) _
        have hblk := heap_alloc_new w4 (.cells #[.int .i64 0, .slice none 0 0, .slice none 0 0] 54)
        have hB5 := hB4.trans (hb5.mono hB4.size)
        have hes := HE.out _ hB5
        clear hb4 hB4 hb5
        go_upto_region 8 with fail
        generalize w4.alloc (.cells #[.int .i64 0, .slice none 0 0, .slice none 0 0] 54) = W5 at hblk hB5 hes ⊢
        generalize w4.heap.size = tb at hblk ⊢
        have c1 : W5.cell? ⟨tb, 1, none⟩ = some (.slice none 0 0) := blk_cell hblk 1
        have c2 : W5.cell? ⟨tb, 2, none⟩ = some (.slice none 0 0) := blk_cell hblk 2
        have e15 := hes.c15
        have hsame := err_same (EA 15) W5
        have HB5 := Lib.hid hB5
        clear hblk hB5 hes
        unfold errV at e15 ⊢
        go_wp2
        go_ret
        exact ⟨rfl, HB5.out⟩
    · obtain ⟨rfl, hb3⟩ := g2 hbad
      have HB3 := Lib.hid (HB2.out.trans (hb3.mono HB2.out.size))
      clear g1 g2 hbad hb3
      go_wp2
      go_ret
      exact ⟨rfl, HB3.out⟩
end Go.Proofs.YtejmjjgbbojfbaaDoor
