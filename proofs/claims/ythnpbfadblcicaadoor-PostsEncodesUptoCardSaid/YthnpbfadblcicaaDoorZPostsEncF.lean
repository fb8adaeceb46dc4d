/- posts: the walk of the law PostsEncodes. -/
import Derived.Test.YthnpbfadblcicaaDoorZPLives
import Derived.Test.YthnpbfadblcicaaDoorZREncode
namespace Go.Proofs.YthnpbfadblcicaaDoor
set_option linter.unusedVariables false
open Go.ChangeShapes Go.WideShapes Go.ChangeAt Go.RowKit

set_option maxRecDepth 100000 in
set_option maxHeartbeats 2000000 in
theorem postsEncodes_walk (w : World) (a : Option Addr) (n c : Nat) (ps : List PostV) (hr : RdPost w a n ps) (hnc : n ≤ c) (hf : FitP ps) (hl : ps.length ≤ 1048576) (hT : totalV ps ≤ 20000000) (EA : Nat → Addr) (hS : Sent w EA) :
    Calls Tryd.prog 3 #[.slice a n c] w fun e w' => e = .returned (.bool true) ∧ Below w.heap.size w w' := by
  have C1 := lives_any w EA hS
  have HS := Lib.hid hS
  have HR := Lib.hid hr
  have HF := Lib.hid hf
  clear hS hr hf
  go_enter Tryd.func3, Tryd.ntmps3
  go_wp2_with fail
  with_reducible refine C1.mono ?_
  rintro e w1 ⟨rfl, hb1⟩
  clear C1
  have C2 := encode_any w1 a n c ps (HR.out.below hb1 (Nat.le_refl _)) hnc HF.out hl hT EA (HS.out.below hb1)
  have HB1 := Lib.hid hb1
  clear hb1
  go_wp2_with fail
  with_reducible refine C2.mono ?_
  rintro e w2 ⟨hyes, hno⟩
  clear C2
  by_cases ok : okV (-1) ps
  · obtain ⟨A, N, C, rfl, ho2, hb2⟩ := hyes ok
    have hb12 := HB1.out.trans (hb2.mono HB1.out.size)
    have C3 := renc_any w2 a n c ps (HR.out.below hb12 (Nat.le_refl _)) hnc HF.out hl hT EA (HS.out.below hb12)
    have HB2 := Lib.hid hb12
    have HO2 := Lib.hid ho2
    clear hyes hno hb2 hb12 ho2
    go_wp2_with fail
    with_reducible refine C3.mono ?_
    rintro e w3 ⟨hyes, -⟩
    clear C3
    obtain ⟨A3, N3, C3, rfl, ho3, hb3⟩ := hyes ok
    have hb13 := HB2.out.trans (hb3.mono HB2.out.size)
    have r1 := run_str (P := Tryd.prog) Tryd.underlying24 Tryd.underlying5 Tryd.underlying9 (HO2.out.below hb3 (Nat.le_refl _)).rd
    have r2 := run_str (P := Tryd.prog) Tryd.underlying24 Tryd.underlying5 Tryd.underlying9 ho3.rd
    have C4 := num_nil w3
    have HB3 := Lib.hid hb13
    clear hyes hb3 hb13 ho3 ok HO2
    go_wp2_with fail
    with_reducible refine C4.mono ?_
    rintro e w4 ⟨rfl, rfl⟩
    go_wp2
    go_ret
    exact ⟨rfl, HB3.out⟩
  · obtain ⟨rfl, hb2⟩ := hno ok
    have hb12 := HB1.out.trans (hb2.mono HB1.out.size)
    have C3 := renc_any w2 a n c ps (HR.out.below hb12 (Nat.le_refl _)) hnc HF.out hl hT EA (HS.out.below hb12)
    have hcs := checkV_cases (-1) ps
    have hnk : ∀ w : World, Sent w EA → Calls Tryd.prog 12 #[errV EA (checkV (-1) ps)] w fun e w' => e = .returned (.int .i64 (checkV (-1) ps : Nat)) ∧ w = w' := fun w h => by
      rcases hcs with e | e | e
      · exact absurd e ok
      · rw [e]; exact num_Order w EA h
      · rw [e]; exact num_Range w EA h
    obtain ⟨G, hG⟩ : ∃ G, checkV (-1) ps = G := ⟨_, rfl⟩
    rw [hG] at hnk
    have HNK := Lib.hid hnk
    have HB2 := Lib.hid hb12
    have HG := Lib.hid hG
    clear hyes hno hb2 hb12 hnk hcs
    rw [hG]
    clear hG
    go_wp2_with fail
    with_reducible refine C3.mono ?_
    rintro e w3 ⟨-, hno⟩
    clear C3
    obtain ⟨rfl, hb3⟩ := hno ok
    rw [HG.out]
    have hb13 := HB2.out.trans (hb3.mono HB2.out.size)
    have r1 := run_str (P := Tryd.prog) Tryd.underlying24 Tryd.underlying5 Tryd.underlying9 (show Rd w3 (.slice none 0 0) (bytesV []) from (own_nil w3 0 5).rd)
    have C4 := HNK.out w3 (HS.out.below hb13)
    have HB3 := Lib.hid hb13
    clear hno hb3 hb13 ok
    go_wp2_with fail
    with_reducible refine C4.mono ?_
    rintro e w4 ⟨rfl, rfl⟩
    go_wp2
    go_ret
    exact ⟨rfl, HB3.out⟩
end Go.Proofs.YthnpbfadblcicaaDoor
