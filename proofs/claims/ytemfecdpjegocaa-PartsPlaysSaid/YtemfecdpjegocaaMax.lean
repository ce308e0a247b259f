/- max of two numbers at the operation. -/
import Derived.Test.YtemfecdpjegocaaObj
import Derived.OwnWalk
namespace Go.Proofs.Ytemfecdpjegocaa
open Go.RowKit
set_option linter.unusedVariables false

theorem wpList_max_int {P : Program} {t : TypeId} {ops : Array Oper} {rest : List Oper} {o : Oper} {a : Act} {w : World} {Q : Exit → Act → World → Prop} (hg : o.guard = none) (x y : Operand)
    (hop : o.op = .call { callee := .builtin .max, args := #[x, y], argTypes := #[t, t] }) (i j m : Int) (hx : a.eval x = .int .i64 i) (hy : a.eval y = .int .i64 j) (hm : max i j = m)
    (h : wpList P ops Q rest (a.put o.dst (.int .i64 m)) w) : wpList P ops Q (o :: rest) a w := by
  refine wpList_plain hg fun K' hK' => ?_
  unfold Oper.wp
  have he : (if j > i then j else i) = m := by rw [← hm]; split <;> omega
  simp [execOp, resolve, invoke, builtin, hop, hx, hy, run_max_int2, Result.andThen]
  have he' : (if i < j then j else i) = m := he
  rw [he']
  exact hK' _ _ h
end Go.Proofs.Ytemfecdpjegocaa
