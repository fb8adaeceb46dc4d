/- The law's answer, of the size alone. -/
import Derived.Test.YtfeldllcpeibcaaDoorDictT
namespace Go.Proofs.YtfeldllcpeibcaaDoor
set_option linter.unusedVariables false
open Go.ChangeShapes Go.WideShapes Go.ChangeAt Go.RowKit

set_option maxRecDepth 100000 in
theorem blocks_any (w : World) (base q : Nat) (v : Value) (es : List EntV) (hD : DictAt w base q v es) (hel : es.length ≤ 1000000000) :
    Calls Tryd.prog 48 #[.pointer (some ⟨q, 0, none⟩)] w fun e w' => e = .returned (.int .i64 ((es.length + 15) / 16 : Nat)) ∧ w = w' := by
  obtain ⟨a, c, rfl, hc, _⟩ := hD.sl
  have tB : ((es.length : Int) + 15).tdiv 16 = (((es.length + 15) / 16 : Nat) : Int) := by rw [Int.tdiv_eq_ediv_of_nonneg (by omega)]; omega
  have tB2 : ((es.length : Int) + 16 - 1).tdiv 16 = (((es.length + 15) / 16 : Nat) : Int) := by rw [Int.tdiv_eq_ediv_of_nonneg (by omega)]; omega
  obtain ⟨B, hB⟩ : ∃ B, (es.length + 15) / 16 = B := ⟨_, rfl⟩
  have hBl : B ≤ 1000000000 := by omega
  rw [hB] at tB tB2 ⊢
  clear hD hB
  go_enter Tryd.func48, Tryd.ntmps48
  go_wp2
  go_ret
  exact ⟨rfl, rfl⟩
set_option maxRecDepth 100000 in
set_option maxHeartbeats 1000000 in
theorem answer_size (w : World) (base q : Nat) (v : Value) (es : List EntV) (hD : DictAt w base q v es) (hel : es.length ≤ 1000000000) (a : Option Addr) (n c : Nat) (hn : n = es.length) (i : Int) (s : ByteArray) :
    Calls Tryd.prog 18 #[.pointer (some ⟨q, 0, none⟩), .slice a n c, .agg #[.int .i64 6, .int .i64 i, .string s]] w fun e w' => e = .returned (.bool true) ∧ Below w.heap.size w w' := by
  subst hn
  obtain ⟨W, hW⟩ : ∃ W, W = w.alloc (.cells #[.int .i64 6, .int .i64 i, .string s] 44) := ⟨_, rfl⟩
  have hbW : Below w.heap.size w W := by rw [hW]; exact (Below.refl _ _).alloc (Nat.le_refl _) _
  have hdW := hD.below hbW (Nat.le_refl _)
  have C1 := dlen_any W base q v es hdW
  have C2 := blocks_any W base q v es hdW hel
  have tB : ((es.length : Int) + 15).tdiv 16 = (((es.length + 15) / 16 : Nat) : Int) := by rw [Int.tdiv_eq_ediv_of_nonneg (by omega)]; omega
  have tB2 : ((es.length : Int) + 16 - 1).tdiv 16 = (((es.length + 15) / 16 : Nat) : Int) := by rw [Int.tdiv_eq_ediv_of_nonneg (by omega)]; omega
  obtain ⟨B, hB⟩ : ∃ B, (es.length + 15) / 16 = B := ⟨_, rfl⟩
  have hBl : B ≤ 1000000000 := by omega
  rw [hB] at tB tB2 C2
  rw [hW] at C1 C2
  have HBW := Lib.hid (show Below w.heap.size w _ from hW ▸ hbW)
  clear hW hbW hdW hD hB
  go_enter Tryd.func18, Tryd.ntmps18
  go_wp2_with fail
  refine C1.mono ?_
  rintro e w1 ⟨rfl, rfl⟩
  go_wp2_with fail
  refine C2.mono ?_
  rintro e w1 ⟨rfl, rfl⟩
  go_wp2
  go_ret
  exact ⟨rfl, HBW.out⟩
end Go.Proofs.YtfeldllcpeibcaaDoor
