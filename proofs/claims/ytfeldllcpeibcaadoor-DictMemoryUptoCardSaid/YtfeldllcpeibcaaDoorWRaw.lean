/- codec.Writer: Raw, Text. -/
import Derived.Test.YtfeldllcpeibcaaDoorWriter
import Derived.Test.YtfeldllcpeibcaaDoorApp
namespace Go.Proofs.YtfeldllcpeibcaaDoor
set_option linter.unusedVariables false
open Go.ChangeShapes Go.WideShapes Go.ChangeAt Go.RowKit

set_option maxRecDepth 100000 in
theorem wraw_any (w : World) (base p : Nat) (v : Value) (bs : List UInt8) (h : Wr w base p v bs) (hb : base ≤ w.heap.size) (hl : bs.length ≤ 10000000000) (s : Value) (cs : List UInt8) (hr : Rd w s (bytesV cs)) (hcs : cs.length ≤ 10000000000) :
    Calls Tryd.prog 39 #[.pointer (some ⟨p, 0, none⟩), s] w fun e w' => e = .returned (.tuple #[]) ∧ ∃ v', Wr w' base p v' (bs ++ cs) ∧ Wrote w w' p v v' := by
  have hl' : (bytesV bs).length + (bytesV cs).length < 1000000000001 := by rw [bytesV_length, bytesV_length]; omega
  have hc := h.read
  have hown := h.own
  have HO := Lib.hid (bytesV_one cs)
  have HR := Lib.hid hr
  obtain ⟨av, nv, cv, rfl⟩ := own_sl hown
  obtain ⟨as_, ns, cs_, rfl⟩ : ∃ a n c, s = .slice a n c := by obtain ⟨A, c, h, _⟩ := hr; exact ⟨_, _, _, h⟩
  clear hr
  go_enter Tryd.func39, Tryd.ntmps39
  go_wp2_with (at_builtin; with_reducible refine apN elBytes hown HR.out HO.out hl' hb rfl _ _ rfl rfl rfl ?_)
  intro v1 w1 g1 g2 g3 g4
  obtain ⟨hc1, hf1⟩ := wr_cell h g4
  obtain ⟨a1, n1, c1, rfl⟩ := own_sl g1
  rw [← bytesV_append] at g1
  obtain ⟨hw2, hwr2⟩ := wr_app h g1 (g3.imp id (fun h => ⟨_, h.1, Nat.le_refl _⟩)) g4
  go_wp2
  go_end0
  exact ⟨rfl, _, hw2, hwr2⟩

set_option maxRecDepth 100000 in
theorem wtext_any (w : World) (base p : Nat) (v : Value) (bs : List UInt8) (h : Wr w base p v bs) (hb : base ≤ w.heap.size) (hl : bs.length ≤ 10000000000) (s : ByteArray) (hs : s.size ≤ 10000000000) :
    Calls Tryd.prog 71 #[.pointer (some ⟨p, 0, none⟩), .string s] w fun e w' => e = .returned (.tuple #[]) ∧ ∃ v', Wr w' base p v' (bs ++ (uvar s.size ++ s.data.toList)) ∧ Wrote w w' p v v' := by
  have hu := (uvar_le s.size (by omega)).2
  have C1 := wuv_any w base p v bs h hb (by omega) s.size (by omega)
  go_enter Tryd.func71, Tryd.ntmps71
  go_wp2_with fail
  refine C1.mono ?_
  rintro e w1 ⟨rfl, v1, hw1, hr1⟩
  have hl' : (bytesV (bs ++ uvar s.size)).length + s.size < 1000000000001 := by rw [bytesV_length, List.length_append]; omega
  have hc := hw1.read
  have hown := hw1.own
  have hb1 := Nat.le_trans hb hr1.eff.size
  obtain ⟨av, nv, cv, rfl⟩ := own_sl hown
  go_wp2_with (at_builtin; with_reducible refine apS elBytes Tryd.underlying9 hown hl' hb1 rfl _ _ rfl rfl rfl ?_)
  intro v2 w2 g1 g2 g3 g4
  obtain ⟨hc1, hf1⟩ := wr_cell hw1 g4
  obtain ⟨a1, n1, c1, rfl⟩ := own_sl g1
  rw [← bytesV_append, List.append_assoc] at g1
  obtain ⟨hw2, hwr2⟩ := wr_app hw1 g1 (g3.imp id (fun h => ⟨_, h.1, Nat.le_refl _⟩)) g4
  go_wp2
  go_end0
  exact ⟨rfl, _, hw2, hr1.trans hwr2⟩
end Go.Proofs.YtfeldllcpeibcaaDoor
