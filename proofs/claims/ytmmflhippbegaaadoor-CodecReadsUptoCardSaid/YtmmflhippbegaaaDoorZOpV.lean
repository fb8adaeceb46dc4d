/- A script: a list of Op, as cells. -/
import Derived.Test.YtmmflhippbegaaaDoorZLib
namespace Go.Proofs.YtmmflhippbegaaaDoor
set_option linter.unusedVariables false
open Go.ChangeShapes Go.WideShapes Go.ChangeAt Go.RowKit

/-- One call of a script, as its cells. -/
structure OpV where
  kd : Int
  sec : Bool
  n : Int
  u : Int
  i : Int
  ba : Option Addr
  bn : Nat
  bc : Nat
  s : ByteArray
  la : Option Addr
  ln : Nat
  lc : Nat
def OpV.cells (o : OpV) : List Value := [.int .i64 o.kd, .bool o.sec, .int .i64 o.n, .int .u64 o.u, .int .i64 o.i, .slice o.ba o.bn o.bc, .string o.s, .slice o.la o.ln o.lc]
/-- A script that reads. -/
def RdOps (w : World) (a : Option Addr) (n : Nat) (ops : List OpV) : Prop :=
  n = ops.length ∧ (0 < ops.length → ∃ b o, a = some ⟨b, o, none⟩ ∧ ∀ (i : Nat) (h : i < ops.length) (j : Nat) (v : Value), (ops[i]).cells[j]? = some v → w.cell? ⟨b, o + i * 8 + j, none⟩ = some v)
theorem RdOps.below {w w' : World} {a : Option Addr} {n B : Nat} {ops : List OpV} (h : RdOps w a n ops) (hb : Below B w w') (hB : w.heap.size ≤ B) : RdOps w' a n ops := by
  refine ⟨h.1, fun h0 => ?_⟩
  obtain ⟨b, o, e, hg⟩ := h.2 h0
  refine ⟨b, o, e, fun i hi j v hv => ?_⟩
  have h1 := hg i hi j v hv
  rw [hb.cell (by have := World.block_lt_of_cell? w _ h1; exact Nat.lt_of_lt_of_le this hB)]; exact h1
end Go.Proofs.YtmmflhippbegaaaDoor
