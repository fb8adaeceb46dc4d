/- DictPlays: the walk. -/
import Derived.Test.YtfeldllcpeibcaaDoorRef6G
import Derived.Test.YtfeldllcpeibcaaDoorAnsSeek
import Derived.Test.YtfeldllcpeibcaaDoorFixed6
import Derived.Test.YtfeldllcpeibcaaDoorOpenA
namespace Go.Proofs.YtfeldllcpeibcaaDoor
set_option linter.unusedVariables false
open Go.ChangeShapes Go.WideShapes Go.ChangeAt Go.RowKit

theorem RdAsk.below {w w' : World} {a : Option Addr} {n B : Nat} {qs : List AskV} (h : RdAsk w a n qs) (hb : Below B w w') (hB : w.heap.size ≤ B) : RdAsk w' a n qs := by
  refine ⟨h.1, fun h0 => ?_⟩
  obtain ⟨b, o, e, hg⟩ := h.2 h0
  refine ⟨b, o, e, fun i hi j v hv => ?_⟩
  have h1 := hg i hi j v hv
  rw [hb.cell (by have := World.block_lt_of_cell? w _ h1; exact Nat.lt_of_lt_of_le this hB)]; exact h1
set_option maxRecDepth 100000 in
set_option maxHeartbeats 4000000 in
theorem dictPlays_walk (W : World) (a : Option Addr) (n c : Nat) (es : List EntV) (hl : RdEnt W a n es) (hnc : n ≤ c) (hel : es.length ≤ 1048576) (a2 : Option Addr) (n2 c2 : Nat) (qs : List AskV) (hq : RdAsk W a2 n2 qs) (hqi : ∀ q ∈ qs, q.i ≤ 9223372036854775807) (hql : qs.length ≤ 1048576) (EA : Nat → Addr) (hS : Sent W EA) :
    Calls Tryd.prog 4 #[.slice a n c, .slice a2 n2 c2] W fun e W' => e = .returned (.bool true) ∧ Below W.heap.size W W' := by
  obtain rfl := hl.1
  obtain rfl := hq.1
  have C1 := fixed_any W EA hS
  have HS := Lib.hid hS
  have HL := Lib.hid hl
  have HQ := Lib.hid hq
  have HQI := Lib.hid hqi
  clear hS hl hq hqi
  go_enter Tryd.func4, Tryd.ntmps4
  go_wp2_with fail
  refine C1.mono ?_
  rintro e w1 ⟨rfl, hb1⟩
  clear C1
  have C2 := rbuild_any w1 a es.length c es (HL.out.below hb1 (Nat.le_refl _)) (by omega) (fun ok => image_most hel ok)
  have HB1 := Lib.hid hb1
  clear hb1
  go_wp2_with fail
  refine C2.mono ?_
  rintro e w2 ⟨c0, c4, c3⟩
  clear C2
  by_cases hok : ∀ x ∈ es, entOk x = true
  · by_cases hris : rising none es
    · obtain ⟨v1, rfl, ho1, hb2⟩ := c0 hok hris
      have hb02 := HB1.out.trans (hb2.mono HB1.out.size)
      have C3 := build_any w2 a es.length c es (HL.out.below hb02 (Nat.le_refl _)) hnc (by omega) (fun ok => image_most hel ok) EA (HS.out.below hb02).derr.r
      obtain ⟨A1, N1, X1, rfl⟩ := own_sl ho1
      have HO1 := Lib.hid ho1
      have HB2 := Lib.hid hb02
      clear c0 c4 c3 ho1 hb2 hb02
      go_wp2_with fail
      refine C3.mono ?_
      rintro e w3 ⟨c0, _, _⟩
      clear C3
      obtain ⟨v2, rfl, ho2, hb3⟩ := c0 hok hris
      obtain ⟨A2, N2, X2, rfl⟩ := own_sl ho2
      have hb03 := HB2.out.trans (hb3.mono HB2.out.size)
      have C4 := num_nil w3
      have hrd1 := HO1.out.rd.below hb3 (Nat.le_refl _)
      have C5 := equal_any w3 _ _ _ _ ho2.rd hrd1
      rw [show (imageB es == imageB es) = true from beq_self_eq_true _] at C5
      have C6 := open_any w3 A1 N1 X1 (imageB es) hrd1 (image_most hel hok) EA (HS.out.below hb03).derr
      have hpp := parse_put hok hris (by have := image_most hel hok; omega)
      rw [hpp] at C6
      have HB3 := Lib.hid hb03
      have HRIS := Lib.hid hris
      clear c0 ho2 hb3 hb03 hrd1 hpp hok hris
      go_wp2_with fail
      refine C4.mono ?_
      rintro e w4 ⟨rfl, rfl⟩
      clear C4
      go_wp2_with fail
      refine C5.mono ?_
      rintro e w4 ⟨rfl, rfl⟩
      clear C5
      go_wp2_with fail
      refine C6.mono ?_
      rintro e w4 ⟨hy, _⟩
      clear C6
      obtain ⟨q, v, rfl, hd4, hb4⟩ := hy es rfl
      have hb04 := HB3.out.trans (hb4.mono HB3.out.size)
      have HB4 := Lib.hid hb04
      have HD4 := Lib.hid hd4
      clear hy hb4 hb04 hd4
      go_wp2
      obtain ⟨wo, rfl⟩ : ∃ wo : World, wo = w4 := ⟨_, rfl⟩
      go_loopw [52] (fun s52 wr => ∃ (i : Nat), s52 = .int .i64 i ∧ i ≤ qs.length ∧ Below wo.heap.size wo wr) (fun s52 _ => qs.length - (intOf s52).toNat)
      case atStart => exact ⟨0, rfl, Nat.zero_le _, Below.refl _ _⟩
      case round =>
        obtain ⟨i, rfl, hi, hb⟩ := hrel
        have hb05 := HB4.out.trans (hb.mono HB4.out.size)
        have hdr := HD4.out.below hb (Nat.le_refl _)
        have hlr := HL.out.below hb05 (Nat.le_refl _)
        by_cases hlt : i < qs.length
        · have hqr := HQ.out.below hb05 (Nat.le_refl _)
          obtain ⟨b, o, rfl, hg⟩ := hqr.2 (by omega)
          have hgi := hg i hlt
          have hqb := HQI.out qs[i] (List.getElem_mem hlt)
          obtain ⟨x, hx⟩ : ∃ x, qs[i] = x := ⟨_, rfl⟩
          rw [hx] at hgi hqb
          obtain ⟨qk, qi, qz⟩ := x
          have d0 := hgi 0 _ rfl
          have d1 := hgi 1 _ rfl
          have d2 := hgi 2 _ rfl
          rw [Nat.add_zero] at d0
          have C7 := answer_any (wr.alloc (.cells #[.int .i64 qk, .int .i64 qi, .string qz] 44)) _ q v es (hdr.below ((Below.refl _ _).alloc (Nat.le_refl _) _) (Nat.le_refl _)) HRIS.out (by omega) a es.length c (hlr.below ((Below.refl _ _).alloc (Nat.le_refl _) _) (Nat.le_refl _)) qk qi hqb qz
          have hb7 := hb.alloc hb.size (.cells #[.int .i64 qk, .int .i64 qi, .string qz] 44)
          have i1 : (i : Int) < (qs.length : Int) := by omega
          have HB7 := Lib.hid hb7
          clear hg hgi hqr hx hqb hb7 hb hb05 hdr hlr
          go_wp2_with fail
          refine C7.mono ?_
          rintro e w5 ⟨rfl, hb5⟩
          clear C7 d0 d1 d2
          have HB8 := Lib.hid (HB7.out.trans (hb5.mono HB7.out.size))
          clear hb5
          go_wp2
          go_roundw
          case rel => exact ⟨i + 1, by go_num, by omega, HB8.out⟩
          case measure => simp [intOf]; omega
        · have C7 := answer_size wr _ q v es hdr (by omega) a es.length c rfl 0 ⟨#[]⟩
          have i1 : ¬ ((i : Int) < (qs.length : Int)) := by omega
          have HB5 := Lib.hid hb05
          clear hb hb05 hdr hlr
          go_wp2_with fail
          refine C7.mono ?_
          rintro e w5 ⟨rfl, hb5⟩
          clear C7
          have HB6 := Lib.hid (HB5.out.trans (hb5.mono HB5.out.size))
          clear hb5
          go_wp2
          go_ret
          exact ⟨rfl, HB6.out⟩
    · obtain ⟨rfl, hb2⟩ := c4 hok hris
      have hb02 := HB1.out.trans (hb2.mono HB1.out.size)
      have C3 := build_any w2 a es.length c es (HL.out.below hb02 (Nat.le_refl _)) hnc (by omega) (fun ok => image_most hel ok) EA (HS.out.below hb02).derr.r
      have HB2 := Lib.hid hb02
      clear c0 c4 c3 hb2 hb02
      go_wp2_with fail
      refine C3.mono ?_
      rintro e w3 ⟨_, c4, _⟩
      clear C3
      obtain ⟨rfl, hb3⟩ := c4 hok hris
      have hb03 := HB2.out.trans (hb3.mono HB2.out.size)
      have C4 := num_Order w3 EA (HS.out.below hb03)
      have C5 := equal_any w3 (.slice none 0 0) (.slice none 0 0) [] [] (own_nil w3 0 0).rd (own_nil w3 0 0).rd
      have HB3 := Lib.hid hb03
      clear c4 hb3 hb03 hok hris
      go_wp2_with fail
      refine C4.mono ?_
      rintro e w4 ⟨rfl, rfl⟩
      clear C4
      go_wp2_with fail
      refine C5.mono ?_
      rintro e w4 ⟨rfl, rfl⟩
      clear C5
      go_wp2
      go_ret
      exact ⟨rfl, HB3.out⟩
  · obtain ⟨rfl, hb2⟩ := c3 hok
    have hb02 := HB1.out.trans (hb2.mono HB1.out.size)
    have C3 := build_any w2 a es.length c es (HL.out.below hb02 (Nat.le_refl _)) hnc (by omega) (fun ok => image_most hel ok) EA (HS.out.below hb02).derr.r
    have HB2 := Lib.hid hb02
    clear c0 c4 c3 hb2 hb02
    go_wp2_with fail
    refine C3.mono ?_
    rintro e w3 ⟨_, _, c3⟩
    clear C3
    obtain ⟨rfl, hb3⟩ := c3 hok
    have hb03 := HB2.out.trans (hb3.mono HB2.out.size)
    have C4 := num_Limit w3 EA (HS.out.below hb03)
    have C5 := equal_any w3 (.slice none 0 0) (.slice none 0 0) [] [] (own_nil w3 0 0).rd (own_nil w3 0 0).rd
    have HB3 := Lib.hid hb03
    clear c3 hb3 hb03 hok
    go_wp2_with fail
    refine C4.mono ?_
    rintro e w4 ⟨rfl, rfl⟩
    clear C4
    go_wp2_with fail
    refine C5.mono ?_
    rintro e w4 ⟨rfl, rfl⟩
    clear C5
    go_wp2
    go_ret
    exact ⟨rfl, HB3.out⟩
end Go.Proofs.YtfeldllcpeibcaaDoor
