/- All the sentinels, as a row's list lays them (printed by wip/gen_sent.py). -/
import Derived.Test.YthnpbfadblcicaaDoorZG6
import Derived.Test.YthnpbfadblcicaaDoorZG6
namespace Go.Proofs.YthnpbfadblcicaaDoor
set_option linter.unusedVariables false
open Go.ChangeShapes Go.WideShapes Go.ChangeAt Go.RowKit

def errL24 : List (Nat × String × List UInt8) := [(1, "concord/api.ErrShort", [99, 111, 110, 99, 111, 114, 100, 58, 32, 116, 111, 111, 32, 115, 104, 111, 114, 116]), (2, "concord/api.ErrVarint", [99, 111, 110, 99, 111, 114, 100, 58, 32, 118, 97, 114, 105, 110, 116]), (3, "concord/api.ErrLimit", [99, 111, 110, 99, 111, 114, 100, 58, 32, 108, 105, 109, 105, 116]), (4, "concord/api.ErrOrder", [99, 111, 110, 99, 111, 114, 100, 58, 32, 111, 114, 100, 101, 114]), (5, "concord/api.ErrTail", [99, 111, 110, 99, 111, 114, 100, 58, 32, 116, 97, 105, 108]), (6, "concord/api.ErrTag", [99, 111, 110, 99, 111, 114, 100, 58, 32, 116, 97, 103]), (7, "concord/api.ErrSum", [99, 111, 110, 99, 111, 114, 100, 58, 32, 115, 117, 109]), (8, "concord/api.ErrRange", [99, 111, 110, 99, 111, 114, 100, 58, 32, 114, 97, 110, 103, 101]), (9, "concord/api.ErrSize", [99, 111, 110, 99, 111, 114, 100, 58, 32, 115, 105, 122, 101]), (10, "concord/api.ErrCorrupt", [99, 111, 110, 99, 111, 114, 100, 58, 32, 99, 111, 114, 114, 117, 112, 116]), (11, "concord/api.ErrSchema", [99, 111, 110, 99, 111, 114, 100, 58, 32, 115, 99, 104, 101, 109, 97]), (12, "concord/api.ErrField", [99, 111, 110, 99, 111, 114, 100, 58, 32, 102, 105, 101, 108, 100]), (13, "concord/api.ErrValue", [99, 111, 110, 99, 111, 114, 100, 58, 32, 118, 97, 108, 117, 101]), (14, "concord/api.ErrPattern", [99, 111, 110, 99, 111, 114, 100, 58, 32, 112, 97, 116, 116, 101, 114, 110]), (15, "concord/api.ErrStates", [99, 111, 110, 99, 111, 114, 100, 58, 32, 115, 116, 97, 116, 101, 115]), (16, "concord/api.ErrSyntax", [99, 111, 110, 99, 111, 114, 100, 58, 32, 115, 121, 110, 116, 97, 120]), (17, "concord/api.ErrDeep", [99, 111, 110, 99, 111, 114, 100, 58, 32, 116, 111, 111, 32, 100, 101, 101, 112]), (18, "concord/api.ErrNode", [99, 111, 110, 99, 111, 114, 100, 58, 32, 110, 111, 100, 101]), (19, "concord/api.ErrTerms", [99, 111, 110, 99, 111, 114, 100, 58, 32, 116, 111, 111, 32, 109, 97, 110, 121, 32, 116, 101, 114, 109, 115]), (20, "concord/api.ErrScore", [99, 111, 110, 99, 111, 114, 100, 58, 32, 115, 99, 111, 114, 101, 32, 111, 118, 101, 114, 102, 108, 111, 119]), (21, "concord/api.ErrCode", [99, 111, 110, 99, 111, 114, 100, 58, 32, 99, 111, 100, 101]), (22, "concord/api.ErrFuel", [99, 111, 110, 99, 111, 114, 100, 58, 32, 102, 117, 101, 108]), (23, "concord/api.ErrDoc", [99, 111, 110, 99, 111, 114, 100, 58, 32, 100, 111, 99, 117, 109, 101, 110, 116]), (24, "concord/api.ErrCommand", [99, 111, 110, 99, 111, 114, 100, 58, 32, 99, 111, 109, 109, 97, 110, 100])]
set_option maxRecDepth 100000 in
theorem sent_of {W : World} {EA : Nat → Addr} (h : Errs W EA (errL24.map fun x => (x.1, x.2.1))) : Sent W EA where
  c1 := h.cell (k := 1) (n := "concord/api.ErrShort") (by decide) (by kernel_rfl)
  c2 := h.cell (k := 2) (n := "concord/api.ErrVarint") (by decide) (by kernel_rfl)
  c3 := h.cell (k := 3) (n := "concord/api.ErrLimit") (by decide) (by kernel_rfl)
  c4 := h.cell (k := 4) (n := "concord/api.ErrOrder") (by decide) (by kernel_rfl)
  c5 := h.cell (k := 5) (n := "concord/api.ErrTail") (by decide) (by kernel_rfl)
  c6 := h.cell (k := 6) (n := "concord/api.ErrTag") (by decide) (by kernel_rfl)
  c7 := h.cell (k := 7) (n := "concord/api.ErrSum") (by decide) (by kernel_rfl)
  c8 := h.cell (k := 8) (n := "concord/api.ErrRange") (by decide) (by kernel_rfl)
  c9 := h.cell (k := 9) (n := "concord/api.ErrSize") (by decide) (by kernel_rfl)
  c10 := h.cell (k := 10) (n := "concord/api.ErrCorrupt") (by decide) (by kernel_rfl)
  c11 := h.cell (k := 11) (n := "concord/api.ErrSchema") (by decide) (by kernel_rfl)
  c12 := h.cell (k := 12) (n := "concord/api.ErrField") (by decide) (by kernel_rfl)
  c13 := h.cell (k := 13) (n := "concord/api.ErrValue") (by decide) (by kernel_rfl)
  c14 := h.cell (k := 14) (n := "concord/api.ErrPattern") (by decide) (by kernel_rfl)
  c15 := h.cell (k := 15) (n := "concord/api.ErrStates") (by decide) (by kernel_rfl)
  c16 := h.cell (k := 16) (n := "concord/api.ErrSyntax") (by decide) (by kernel_rfl)
  c17 := h.cell (k := 17) (n := "concord/api.ErrDeep") (by decide) (by kernel_rfl)
  c18 := h.cell (k := 18) (n := "concord/api.ErrNode") (by decide) (by kernel_rfl)
  c19 := h.cell (k := 19) (n := "concord/api.ErrTerms") (by decide) (by kernel_rfl)
  c20 := h.cell (k := 20) (n := "concord/api.ErrScore") (by decide) (by kernel_rfl)
  c21 := h.cell (k := 21) (n := "concord/api.ErrCode") (by decide) (by kernel_rfl)
  c22 := h.cell (k := 22) (n := "concord/api.ErrFuel") (by decide) (by kernel_rfl)
  c23 := h.cell (k := 23) (n := "concord/api.ErrDoc") (by decide) (by kernel_rfl)
  c24 := h.cell (k := 24) (n := "concord/api.ErrCommand") (by decide) (by kernel_rfl)
  blk k h1 h2 := by
    have hm : ∀ k : Fin 25, 1 ≤ k.1 → ∃ s, (k.1, s) ∈ errL24.map fun x => (x.1, x.2.1) := by
      intro k hk
      have : (errL24.map fun x => (x.1, x.2.1))[k.1 - 1]? = some (k.1, ((errL24.map fun x => (x.1, x.2.1))[k.1 - 1]?.map (·.2)).getD "") := by
        revert k; decide
      exact ⟨_, List.mem_of_getElem? this⟩
    obtain ⟨s, hs⟩ := hm ⟨k, by omega⟩ h1
    obtain ⟨g, _, _, hb⟩ := h.at_ _ hs
    exact hb
  ne i j h1 h2 h3 h4 hn := by
    have hm : ∀ k : Fin 25, 1 ≤ k.1 → ∃ s, (k.1, s) ∈ errL24.map fun x => (x.1, x.2.1) := by
      intro k hk
      have : (errL24.map fun x => (x.1, x.2.1))[k.1 - 1]? = some (k.1, ((errL24.map fun x => (x.1, x.2.1))[k.1 - 1]?.map (·.2)).getD "") := by
        revert k; decide
      exact ⟨_, List.mem_of_getElem? this⟩
    obtain ⟨s, hs⟩ := hm ⟨i, by omega⟩ h1
    obtain ⟨t, ht⟩ := hm ⟨j, by omega⟩ h3
    exact h.ne _ hs _ ht hn
end Go.Proofs.YthnpbfadblcicaaDoor
