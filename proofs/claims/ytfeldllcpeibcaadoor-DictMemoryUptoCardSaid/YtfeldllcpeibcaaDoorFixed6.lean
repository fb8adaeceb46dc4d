/- The chapter's example: the law's fixed calls. -/
import Derived.Test.YtfeldllcpeibcaaDoorDictT
import Derived.Test.YtfeldllcpeibcaaDoorNumE
namespace Go.Proofs.YtfeldllcpeibcaaDoor
set_option linter.unusedVariables false
open Go.ChangeShapes Go.WideShapes Go.ChangeAt Go.RowKit

theorem Sent.derr {w : World} {EA : Nat → Addr} (h : Sent w EA) : DErr w EA := ⟨⟨h.c1, h.c2, h.c3, h.c4, h.c8⟩, h.c10, h.c5⟩
def img2 : List UInt8 := [2, 16, 0, 2, 97, 98, 1, 2, 0, 5, 2, 1, 100, 1, 1, 5, 130, 1]
theorem img2_parse : parseP img2 = some twoE := by
  have h := parse_put two_ok two_rising (by rw [two_image]; decide)
  rw [two_image] at h; exact h
theorem nil_parse : parseP [] = none := rfl
theorem two_find : findP twoE (⟨#[97, 98, 100]⟩ : ByteArray).data.toList = (1, true) := by decide

set_option maxRecDepth 100000 in
set_option maxHeartbeats 1000000 in
theorem fixed_any (w : World) (EA : Nat → Addr) (hS : Sent w EA) : Calls Tryd.prog 10 #[] w fun e w' => e = .returned (.bool true) ∧ Below w.heap.size w w' := by
  have HS := Lib.hid hS
  clear hS
  go_enter Tryd.func10, Tryd.ntmps10
  go_wp2_with fail
  refine (two_any w).mono ?_
  rintro e w1 ⟨a, rfl, hr1, _, hb1⟩
  have C2 := build_any w1 a 2 2 twoE hr1 (Nat.le_refl _) (by decide) (fun _ => by rw [two_image]; decide) EA (HS.out.below hb1).derr.r
  have HB1 := Lib.hid hb1
  clear hb1 hr1
  go_wp2_with fail
  refine C2.mono ?_
  rintro e w2 ⟨hyes, _⟩
  clear C2
  obtain ⟨v, rfl, ho2, hb2⟩ := hyes two_ok two_rising
  rw [two_image] at ho2
  have hb02 := HB1.out.trans (hb2.mono HB1.out.size)
  obtain ⟨a2, n2, c2, rfl⟩ := own_sl ho2
  have hr3 : Rd (w2.alloc (.cells #[.int .u8 2, .int .u8 16, .int .u8 0, .int .u8 2, .int .u8 97, .int .u8 98, .int .u8 1, .int .u8 2, .int .u8 0, .int .u8 5, .int .u8 2, .int .u8 1, .int .u8 100, .int .u8 1, .int .u8 1, .int .u8 5, .int .u8 130, .int .u8 1] 5)) (.slice a2 n2 c2) (bytesV img2) := (ho2.alloc _).rd
  have hr4 : Rd (w2.alloc (.cells #[.int .u8 2, .int .u8 16, .int .u8 0, .int .u8 2, .int .u8 97, .int .u8 98, .int .u8 1, .int .u8 2, .int .u8 0, .int .u8 5, .int .u8 2, .int .u8 1, .int .u8 100, .int .u8 1, .int .u8 1, .int .u8 5, .int .u8 130, .int .u8 1] 5)) (.slice (some ⟨w2.heap.size, 0, none⟩) 18 18) (bytesV img2) :=
    (own_lit w2 0 5 (bytesV img2) (Nat.zero_le _) (by decide)).rd
  have C3 := equal_any _ _ _ _ _ hr3 hr4
  rw [show (img2 == img2) = true by decide] at C3
  have hb3 : Below w.heap.size w (w2.alloc (.cells #[.int .u8 2, .int .u8 16, .int .u8 0, .int .u8 2, .int .u8 97, .int .u8 98, .int .u8 1, .int .u8 2, .int .u8 0, .int .u8 5, .int .u8 2, .int .u8 1, .int .u8 100, .int .u8 1, .int .u8 1, .int .u8 5, .int .u8 130, .int .u8 1] 5)) := hb02.alloc hb02.size _
  have HR3 := Lib.hid hr3
  have HB3 := Lib.hid hb3
  clear hb2 hb02 ho2 hr3 hr4 hb3
  go_wp2_with fail
  refine C3.mono ?_
  rintro e w3 ⟨rfl, rfl⟩
  clear C3
  obtain ⟨w3, hw3⟩ : ∃ w3, w3 = w2.alloc (.cells #[.int .u8 2, .int .u8 16, .int .u8 0, .int .u8 2, .int .u8 97, .int .u8 98, .int .u8 1, .int .u8 2, .int .u8 0, .int .u8 5, .int .u8 2, .int .u8 1, .int .u8 100, .int .u8 1, .int .u8 1, .int .u8 5, .int .u8 130, .int .u8 1] 5) := ⟨_, rfl⟩
  have hr3 := HR3.out
  have hb3 := HB3.out
  rw [← hw3] at hr3 hb3 ⊢
  have C4 := open_any w3 a2 n2 c2 img2 hr3 (by decide) EA (HS.out.below hb3).derr
  rw [img2_parse] at C4
  have HB4 := Lib.hid hb3
  clear hr3 hb3 HR3 HB3 hw3
  go_wp2_with fail
  refine C4.mono ?_
  rintro e w4 ⟨hyes, _⟩
  clear C4
  obtain ⟨q, v4, rfl, hd4, hb4⟩ := hyes _ rfl
  have hb04 := HB4.out.trans (hb4.mono HB4.out.size)
  have C5 := find_any w4 _ q v4 twoE hd4 two_rising (by decide) ⟨#[97, 98, 100]⟩
  rw [two_find] at C5
  have HD4 := Lib.hid hd4
  have HB5 := Lib.hid hb04
  clear hyes hd4 hb4 hb04
  go_wp2_with fail
  refine C5.mono ?_
  rintro e w5 ⟨rfl, hb5⟩
  clear C5
  have hd5 := HD4.out.below hb5 (Nat.le_refl _)
  have hb05 := HB5.out.trans (hb5.mono HB5.out.size)
  have C6 := open_any w5 none 0 0 [] ⟨none, 0, rfl, Nat.le_refl _, fun h => by simp [bytesV] at h⟩ (by decide) EA (HS.out.below hb05).derr
  rw [nil_parse] at C6
  have HD5 := Lib.hid hd5
  have HB6 := Lib.hid hb05
  clear hd5 hb05 hb5
  go_wp2_with fail
  refine C6.mono ?_
  rintro e w6 ⟨_, hno⟩
  clear C6
  obtain ⟨rfl, hb6⟩ := hno rfl
  have hd6 := HD5.out.below hb6 (Nat.le_refl _)
  have hb06 := HB6.out.trans (hb6.mono HB6.out.size)
  have C7 := dlen_any w6 _ q v4 twoE hd6
  have C8 := num_Corrupt w6 EA (HS.out.below hb06)
  rw [show ((twoE.length : Nat) : Int) = 2 from rfl] at C7
  have HB7 := Lib.hid hb06
  have HC8 := Lib.hid C8
  clear hno hd6 hb06 hb6 C8
  unfold errV
  have C8 := HC8.out
  unfold errV at C8
  go_wp2_with fail
  refine C7.mono ?_
  rintro e w7 ⟨rfl, rfl⟩
  clear C7
  go_wp2_with fail
  refine C8.mono ?_
  rintro e w8 ⟨rfl, rfl⟩
  go_wp2
  go_ret
  exact ⟨rfl, HB7.out⟩
end Go.Proofs.YtfeldllcpeibcaaDoor
