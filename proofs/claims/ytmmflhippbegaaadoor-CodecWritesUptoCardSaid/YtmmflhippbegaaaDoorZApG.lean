/- Appends under a guard that is open. -/
import Derived.Test.YtmmflhippbegaaaDoorZLib
namespace Go.Proofs.YtmmflhippbegaaaDoor
set_option linter.unusedVariables false
open Go.ChangeShapes Go.WideShapes Go.ChangeAt Go.RowKit
/-- append(v, x) as a law of the walk, where the operation bears a guard that is open. -/
theorem ap1g {P : Program} {t e : TypeId} {z : Value} {bytes : Nat} (E : Elem P t e z bytes) {w0 : World} {x : Value} (hx1 : x.oneCell' = true)
    {base : Nat} {v : Value} {xs : List Value} (hown : Own w0 base e v xs) (hlen : xs.length < 1000000000000) (hbase : base ≤ w0.heap.size)
    {ops : Array Oper} {rest : List Oper} {o : Oper} {a : Act} {Q : Exit → Act → World → Prop} (hgd : Region.wanted o (yielded ops a.tmps) = true) (s y : Operand)
    (ho : o.op = .call { callee := .builtin .append, args := #[s, y], argTypes := #[t, t] }) (hs : a.eval s = v) (hy : a.eval y = .slice (some ⟨w0.heap.size, 0, none⟩) 1 1)
    (h : ∀ v' w', Own w' base e v' (xs ++ [x]) → Keeps w0 w' v xs.length → (v'.ownBlock = v.ownBlock ∨ (v'.ownBlock = some (w0.heap.size + 1) ∧ Below w0.heap.size w0 w')) → w0.grownBy w' v.ownBlock → wpList P ops Q rest (a.put o.dst v') w') : wpList P ops Q (o :: rest) a (w0.alloc (.cells #[x] e)) :=
  wpList_step fun _ hK => by
    rw [if_pos hgd]
    exact wp_ap1 E hx1 hown hlen hbase s y ho hs hy fun v' w' h2 h3 => hK _ _ (h v' w' h2.1 h2.2.1 h2.2.2 h3)
end Go.Proofs.YtmmflhippbegaaaDoor
