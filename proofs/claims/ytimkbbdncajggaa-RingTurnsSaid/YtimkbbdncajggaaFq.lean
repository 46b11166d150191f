/- A function value compared with nil. -/
import Derived.Test.YtimkbbdncajggaaM
import Derived.Tactics
namespace Go.Proofs.Ytimkbbdncajggaa
theorem run_equalIn_func_nil {P : Program} (w : World) (d : Nat) (t : TypeId) {ps rs : Array TypeId} {va : Bool} (f : Fn) (a c : Array Value) (h : P.underlying t = some (.func ps rs va)) :
    (Op.equalIn (d + 1) t (.func f a c) .nilFunc).run P w = .ok false w := by
  simp [Op.equalIn, run_underlying h]
theorem run_equalIn_nil_nil {P : Program} (w : World) (d : Nat) (t : TypeId) {ps rs : Array TypeId} {va : Bool} (h : P.underlying t = some (.func ps rs va)) :
    (Op.equalIn (d + 1) t .nilFunc .nilFunc).run P w = .ok true w := by
  simp [Op.equalIn, run_underlying h]
theorem run_eql_func_nil {P : Program} (w : World) (t : TypeId) {ps rs : Array TypeId} {va : Bool} (f : Fn) (a c : Array Value) (h : P.underlying t = some (.func ps rs va)) :
    (binOp .eql t (.func f a c) .nilFunc).run P w = .ok (.bool false) w := by
  simp only [binOp]
  simp [Op.equal, Op.maxDepth, run_equalIn_func_nil w 9999 t f a c h]
theorem run_eql_nil_nil {P : Program} (w : World) (t : TypeId) {ps rs : Array TypeId} {va : Bool} (h : P.underlying t = some (.func ps rs va)) :
    (binOp .eql t .nilFunc .nilFunc).run P w = .ok (.bool true) w := by
  simp only [binOp]
  simp [Op.equal, Op.maxDepth, run_equalIn_nil_nil w 9999 t h]
end Go.Proofs.Ytimkbbdncajggaa
