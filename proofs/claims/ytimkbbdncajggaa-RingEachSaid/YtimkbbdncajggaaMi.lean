/- min and max of two numbers, as laws at the operation: the walk is not parted. -/
import Derived.Test.YtimkbbdncajggaaM
namespace Go.Proofs.Ytimkbbdncajggaa
open Go.RowKit Go.BigFrame
theorem run_min_one {P : Program} (w : World) (ts : Array TypeId) (t : TypeId) (k k' : IntKind) (x y : Int) : (Builtin.min_ ts t #[.int k x, .int k' y]).run P w = .ok (.int k (min x y)) w := by
  rw [run_min_int2]
  split
  · rw [Int.min_eq_right (by omega)]
  · rw [Int.min_eq_left (by omega)]
theorem run_max_one {P : Program} (w : World) (ts : Array TypeId) (t : TypeId) (k k' : IntKind) (x y : Int) : (Builtin.max_ ts t #[.int k x, .int k' y]).run P w = .ok (.int k (max x y)) w := by
  rw [run_max_int2]
  split
  · rw [Int.max_eq_right (by omega)]
  · rw [Int.max_eq_left (by omega)]
section
variable {P : Program} {w : World} {ops : Array Oper} {rest : List Oper} {o : Oper} {a : Act} {Q : Exit → Act → World → Prop}
/-- Nothing is done: it stands where an operation is next, and there alone. -/
theorem wpList_it (h : wpList P ops Q (o :: rest) a w) : wpList P ops Q (o :: rest) a w := h
theorem wpList_min_one (hg : o.guard = none) (x y : Operand) (t : TypeId) (hop : o.op = Op.call { callee := Callee.builtin Builtin.min, args := #[x, y], argTypes := #[t, t] }) (u v : Int) (hx : a.eval x = .int .i64 u) (hy : a.eval y = .int .i64 v)
    (h : wpList P ops Q rest (a.put o.dst (.int .i64 (min u v))) w) : wpList P ops Q (o :: rest) a w := by
  refine wpList_plain hg fun K hK => ?_
  unfold Oper.wp execOp
  simp only [hop, resolve, invoke, builtin, Sem.run_bind, Sem.run_pure, Result.andThen_ok, List.map_toArray, List.map_cons, List.map_nil, hx, hy, run_min_one]
  exact hK _ _ h
theorem wpList_max_one (hg : o.guard = none) (x y : Operand) (t : TypeId) (hop : o.op = Op.call { callee := Callee.builtin Builtin.max, args := #[x, y], argTypes := #[t, t] }) (u v : Int) (hx : a.eval x = .int .i64 u) (hy : a.eval y = .int .i64 v)
    (h : wpList P ops Q rest (a.put o.dst (.int .i64 (max u v))) w) : wpList P ops Q (o :: rest) a w := by
  refine wpList_plain hg fun K hK => ?_
  unfold Oper.wp execOp
  simp only [hop, resolve, invoke, builtin, Sem.run_bind, Sem.run_pure, Result.andThen_ok, List.map_toArray, List.map_cons, List.map_nil, hx, hy, run_max_one]
  exact hK _ _ h
end
end Go.Proofs.Ytimkbbdncajggaa
