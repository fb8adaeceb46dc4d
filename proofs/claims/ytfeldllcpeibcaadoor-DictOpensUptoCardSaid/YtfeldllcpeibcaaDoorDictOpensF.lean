/- DictOpens: the walk. -/
import Derived.Test.YtfeldllcpeibcaaDoorRef6G
import Derived.Test.YtfeldllcpeibcaaDoorAnsSz
import Derived.Test.YtfeldllcpeibcaaDoorFixed6
import Derived.Test.YtfeldllcpeibcaaDoorWalked
namespace Go.Proofs.YtfeldllcpeibcaaDoor
set_option linter.unusedVariables false
open Go.ChangeShapes Go.WideShapes Go.ChangeAt Go.RowKit

set_option maxRecDepth 100000 in
set_option maxHeartbeats 2000000 in
theorem dictOpens_walk (W : World) (a : Option Addr) (n c : Nat) (bs : List UInt8) (hr : Rd W (.slice a n c) (bytesV bs)) (hbs : bs.length ≤ 1048576) (EA : Nat → Addr) (hS : Sent W EA) :
    Calls Tryd.prog 5 #[.slice a n c] W fun e W' => e = .returned (.bool true) ∧ Below W.heap.size W W' := by
  have C1 := fixed_any W EA hS
  have HS := Lib.hid hS
  have HR := Lib.hid hr
  clear hS hr
  go_enter Tryd.func5, Tryd.ntmps5
  go_wp2_with fail
  refine C1.mono ?_
  rintro e w1 ⟨rfl, hb1⟩
  clear C1
  have C2 := ropen_any w1 a n c bs (HR.out.below hb1 (Nat.le_refl _)) hbs
  have HB1 := Lib.hid hb1
  clear hb1
  go_wp2_with fail
  refine C2.mono ?_
  rintro e w2 ⟨hy2, hn2⟩
  clear C2
  cases hp : parseP bs with
  | none =>
    obtain ⟨rfl, hb2⟩ := hn2 hp
    have hb02 := HB1.out.trans (hb2.mono HB1.out.size)
    have C3 := open_any w2 a n c bs (HR.out.below hb02 (Nat.le_refl _)) (by omega) EA (HS.out.below hb02).derr
    have HB2 := Lib.hid hb02
    clear hy2 hn2 hb2 hb02
    go_wp2_with fail
    refine C3.mono ?_
    rintro e w3 ⟨_, hn3⟩
    clear C3
    obtain ⟨rfl, hb3⟩ := hn3 hp
    have hb03 := HB2.out.trans (hb3.mono HB2.out.size)
    have C4 := num_Corrupt w3 EA (HS.out.below hb03)
    have HB3 := Lib.hid hb03
    clear hn3 hb3 hb03 hp
    go_wp2_with fail
    refine C4.mono ?_
    rintro e w4 ⟨rfl, rfl⟩
    clear C4
    go_wp2
    go_ret
    exact ⟨rfl, HB3.out⟩
  | some l =>
    obtain ⟨a2, c2, rfl, hrow2, hb2⟩ := hy2 l hp
    have hb02 := HB1.out.trans (hb2.mono HB1.out.size)
    have C3 := open_any w2 a n c bs (HR.out.below hb02 (Nat.le_refl _)) (by omega) EA (HS.out.below hb02).derr
    have hll : l.length ≤ 1048576 := by
      have := (image_len l).1
      rw [(parse_form hp).1] at this; omega
    have HB2 := Lib.hid hb02
    have HROW := Lib.hid hrow2
    clear hy2 hn2 hb2 hb02 hrow2
    go_wp2_with fail
    refine C3.mono ?_
    rintro e w3 ⟨hy3, _⟩
    clear C3
    obtain ⟨q, v, rfl, hd3, hb3⟩ := hy3 l hp
    have hb03 := HB2.out.trans (hb3.mono HB2.out.size)
    have C4 := num_nil w3
    have C5 := answer_size w3 _ q v l hd3 (by omega) a2 l.length c2 rfl 0 ⟨#[]⟩
    have hrd3 := HROW.out.rd.below hb3 (Nat.le_refl _)
    have HB3 := Lib.hid hb03
    have HD3 := Lib.hid hd3
    have HRD3 := Lib.hid hrd3
    clear hy3 hb3 hb03 hp hd3 hrd3
    go_wp2_with fail
    refine C4.mono ?_
    rintro e w4 ⟨rfl, rfl⟩
    clear C4
    go_wp2_with fail
    refine C5.mono ?_
    rintro e w5 ⟨rfl, hb5⟩
    clear C5
    have C6 := walked_any w5 _ q v l (HD3.out.below hb5 (Nat.le_refl _)) a2 l.length c2 (HRD3.out.below hb5 (Nat.le_refl _)) (by omega) 0 (by omega)
    have hb05 := HB3.out.trans (hb5.mono HB3.out.size)
    have HB5 := Lib.hid hb05
    clear hb5 hb05
    go_wp2_with fail
    refine C6.mono ?_
    rintro e w6 ⟨rfl, hb6⟩
    clear C6
    have HB6 := Lib.hid (HB5.out.trans (hb6.mono HB5.out.size))
    clear hb6
    go_wp2
    go_ret
    exact ⟨rfl, HB6.out⟩
end Go.Proofs.YtfeldllcpeibcaaDoor
