/- codec.Writer: Raw, Text. -/
import Derived.Test.YthnpbfadblcicaaDoorZWriter
import Derived.Test.YthnpbfadblcicaaDoorZApp
namespace Go.Proofs.YthnpbfadblcicaaDoor
set_option linter.unusedVariables false
open Go.ChangeShapes Go.WideShapes Go.ChangeAt Go.RowKit

set_option maxRecDepth 100000 in
theorem wraw_any (w : World) (base p : Nat) (v : Value) (bs : List UInt8) (h : Wr w base p v bs) (hb : base ≤ w.heap.size) (hl : bs.length ≤ 10000000000) (s : Value) (cs : List UInt8) (hr : Rd w s (bytesV cs)) (hcs : cs.length ≤ 10000000000) :
    Calls Tryd.prog 34 #[.pointer (some ⟨p, 0, none⟩), s] w fun e w' => e = .returned (.tuple #[]) ∧ ∃ v', Wr w' base p v' (bs ++ cs) ∧ Wrote w w' p v v' := by
  have hl' : (bytesV bs).length + (bytesV cs).length < 1000000000001 := by rw [bytesV_length, bytesV_length]; omega
  have hc := h.read
  have hown := h.own
  have HO := Lib.hid (bytesV_one cs)
  have HR := Lib.hid hr
  obtain ⟨av, nv, cv, rfl⟩ := own_sl hown
  obtain ⟨as_, ns, cs_, rfl⟩ : ∃ a n c, s = .slice a n c := by obtain ⟨A, c, h, _⟩ := hr; exact ⟨_, _, _, h⟩
  clear hr
  go_enter Tryd.func34, Tryd.ntmps34
  go_wp2_with (at_builtin; with_reducible refine apN elBytes hown HR.out HO.out hl' hb rfl _ _ rfl rfl rfl ?_)
  intro v1 w1 g1 g2 g3 g4
  obtain ⟨hc1, hf1⟩ := wr_cell h g4
  obtain ⟨a1, n1, c1, rfl⟩ := own_sl g1
  rw [← bytesV_append] at g1
  obtain ⟨hw2, hwr2⟩ := wr_app h g1 (g3.imp id (fun h => ⟨_, h.1, Nat.le_refl _⟩)) g4
  go_wp2
  go_end0
  exact ⟨rfl, _, hw2, hwr2⟩

end Go.Proofs.YthnpbfadblcicaaDoor
