/- Entries compared. -/
import Derived.Test.YtfeldllcpeibcaaDoorDictT
import Derived.Laws.StructEq
namespace Go.Proofs.YtfeldllcpeibcaaDoor
set_option linter.unusedVariables false
open Go.ChangeShapes Go.WideShapes Go.ChangeAt Go.RowKit
def entEq (x y : EntV) : Bool := (x.k.toList == y.k.toList) && ((x.d == y.d) && ((x.t == y.t) && ((x.a == y.a) && (x.s == y.s))))
theorem entEq_iff (x y : EntV) : entEq x y = true ↔ x = y := by
  unfold entEq
  rw [ba_list, ba_list]
  simp only [Bool.and_eq_true, beq_iff_eq]
  exact ⟨fun ⟨h0, h1, h2, h3, h4⟩ => EntV.ext2 h0 h1 h2 h3 h4, fun e => by subst e; exact ⟨rfl, rfl, rfl, rfl, rfl⟩⟩
theorem guard_ent : Tryd.prog.eqGuardType Tryd.prog.depth 32 = false := by kernel_rfl
theorem neq_ent (w : World) (x y : EntV) : (binOp .neq 32 (.agg #[.string x.k, .int .i64 x.d, .int .i64 x.t, .int .i64 x.a, .int .i64 x.s]) (.agg #[.string y.k, .int .i64 y.d, .int .i64 y.t, .int .i64 y.a, .int .i64 y.s])).run Tryd.prog w = .ok (.bool (!entEq x y)) w := by
  have hS : Tryd.prog.underlying 32 = some (.struct (Tryd.prog.fieldsOf 32)) := by kernel_rfl
  have hp : Tryd.prog.stoodInHeld 32 = false := by kernel_rfl
  rw [run_neq_struct, show (10000 : Nat) = 9998 + 1 + 1 from rfl, run_equalIn_agg w _ 32 _ _ hS hp]
  obtain ⟨k, d, t, a, s⟩ := x
  obtain ⟨k', d', t', a', s'⟩ := y
  unfold entEq
  simp [go_sem, Tryd.underlying32, Program.fieldsOf]
  repeat' split
  all_goals simp_all
theorem eql_ent (w : World) (x y : EntV) : (binOp .eql 32 (.agg #[.string x.k, .int .i64 x.d, .int .i64 x.t, .int .i64 x.a, .int .i64 x.s]) (.agg #[.string y.k, .int .i64 y.d, .int .i64 y.t, .int .i64 y.a, .int .i64 y.s])).run Tryd.prog w = .ok (.bool (entEq x y)) w := by
  have hS : Tryd.prog.underlying 32 = some (.struct (Tryd.prog.fieldsOf 32)) := by kernel_rfl
  have hp : Tryd.prog.stoodInHeld 32 = false := by kernel_rfl
  rw [run_eql_struct, show (10000 : Nat) = 9998 + 1 + 1 from rfl, run_equalIn_agg w _ 32 _ _ hS hp]
  obtain ⟨k, d, t, a, s⟩ := x
  obtain ⟨k', d', t', a', s'⟩ := y
  unfold entEq
  simp [go_sem, Tryd.underlying32, Program.fieldsOf]
  repeat' split
  all_goals simp_all
end Go.Proofs.YtfeldllcpeibcaaDoor
