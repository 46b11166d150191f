/-
  No cell of these rows narrows 'for every input' (looked for: loops, veiled, ifaces, maps, wideKeys, modest, calm, conditions, laid).
  DERIVED. THE GIVEN ROWS OF THIS SEAT. 7 by the template 'for every input the law returns true; each argument reads behind the call as it read before'; 0 by the template 'total and deterministic' (their statements: YtibjllfabalfjaaTotals.lean).
  GIVEN WITH THE SEED: the statements are not yours to turn. If you find one false, say at which input.
  Laid BY PROGRAM, IN A SANDBOX (cutbox-rows.mjs): the forced cells as the released guide's own fill.sh prints them over the translation c7bd97cb800af0c6… (all of the seat's roots in one cut). By AI agents, Wed Nov 11 2026. No macro, syntax, notation, axiom, sorry.
-/
import Derived.Test.YtibjllfabalfjaaChecked
import GoSem.Claim
import GoSem.ClaimJoined
import GoSem.ClaimMapViews
import Derived.JoinedTies
import Derived.KernelRfl
namespace Go.Proofs.Ytibjllfabalfjaa
/- THE CELL 'sum', in the pinned program and in every row, IS THE sha256 OF THE DUMP (.gsa) THAT YtibjllfabalfjaaProg.lean LOADS. Nothing in Lean hashes anything: it is a label: what it is worth is what the hold of that sum in a sandbox is worth. -/
noncomputable def Try.pinned : Pinned := { name := "ytibjllfabalfjaa", sum := "c7bd97cb800af0c6b16c09ca655fbe953acfd52cf89775783d358e6be2c7e402", checked := Try.checked }
namespace Rows
def none {H : Type} : Left H := { results := [], args := [] }

/-- 'souffleurlaw09.SumOf': WHATEVER THE INPUT: true; the input reads as it did. -/
def sumOfSpec : ChangeSpec := { name := "sumOf", fn := fun _ => fun
  | [d] => { results := [.lit (.bool true)], args := [d] }
  | _ => none }
def sumOfRow : OpenClaim := { program := "ytibjllfabalfjaa", sum := "c7bd97cb800af0c6b16c09ca655fbe953acfd52cf89775783d358e6be2c7e402", func := "souffleur/souffleurlaw09.SumOf", spec := "sumOf", apart := false }
def SumOfSaid : Prop := sumOfRow.holds Try.pinned (OpenSpec.ofChange sumOfSpec)

/-- ITS FALSE NEIGHBOUR: 'it returns false'. Refute it at one input. -/
def sumOfWrong : ChangeSpec := { name := "sumOf", fn := fun _ => fun
  | [d] => { results := [.lit (.bool false)], args := [d] }
  | _ => none }
def SumOfWrongFalsely : Prop := sumOfRow.holds Try.pinned (OpenSpec.ofChange sumOfWrong)

/-- 'souffleurlaw09.SumParts': WHATEVER THE INPUT: true; the input reads as it did. -/
def sumPartsSpec : ChangeSpec := { name := "sumParts", fn := fun _ => fun
  | [d] => { results := [.lit (.bool true)], args := [d] }
  | _ => none }
def sumPartsRow : OpenClaim := { program := "ytibjllfabalfjaa", sum := "c7bd97cb800af0c6b16c09ca655fbe953acfd52cf89775783d358e6be2c7e402", func := "souffleur/souffleurlaw09.SumParts", spec := "sumParts", apart := false }
def SumPartsSaid : Prop := sumPartsRow.holds Try.pinned (OpenSpec.ofChange sumPartsSpec)

/-- ITS FALSE NEIGHBOUR: 'it returns false'. Refute it at one input. -/
def sumPartsWrong : ChangeSpec := { name := "sumParts", fn := fun _ => fun
  | [d] => { results := [.lit (.bool false)], args := [d] }
  | _ => none }
def SumPartsWrongFalsely : Prop := sumPartsRow.holds Try.pinned (OpenSpec.ofChange sumPartsWrong)

/-- 'souffleurlaw09.SumJoins': WHATEVER THE INPUT: true; the input reads as it did. -/
def sumJoinsSpec : ChangeSpec := { name := "sumJoins", fn := fun _ => fun
  | [d1, d2] => { results := [.lit (.bool true)], args := [d1, d2] }
  | _ => none }
def sumJoinsRow : OpenClaim := { program := "ytibjllfabalfjaa", sum := "c7bd97cb800af0c6b16c09ca655fbe953acfd52cf89775783d358e6be2c7e402", func := "souffleur/souffleurlaw09.SumJoins", spec := "sumJoins", apart := false }
def SumJoinsSaid : Prop := sumJoinsRow.holds Try.pinned (OpenSpec.ofChange sumJoinsSpec)

/-- ITS FALSE NEIGHBOUR: 'it returns false'. Refute it at one input. -/
def sumJoinsWrong : ChangeSpec := { name := "sumJoins", fn := fun _ => fun
  | [d1, d2] => { results := [.lit (.bool false)], args := [d1, d2] }
  | _ => none }
def SumJoinsWrongFalsely : Prop := sumJoinsRow.holds Try.pinned (OpenSpec.ofChange sumJoinsWrong)

/-- 'souffleurlaw09.SumShifts': WHATEVER THE INPUT: true; the input reads as it did. -/
def sumShiftsSpec : ChangeSpec := { name := "sumShifts", fn := fun _ => fun
  | [d1, d2] => { results := [.lit (.bool true)], args := [d1, d2] }
  | _ => none }
def sumShiftsRow : OpenClaim := { program := "ytibjllfabalfjaa", sum := "c7bd97cb800af0c6b16c09ca655fbe953acfd52cf89775783d358e6be2c7e402", func := "souffleur/souffleurlaw09.SumShifts", spec := "sumShifts", apart := false }
def SumShiftsSaid : Prop := sumShiftsRow.holds Try.pinned (OpenSpec.ofChange sumShiftsSpec)

/-- ITS FALSE NEIGHBOUR: 'it returns false'. Refute it at one input. -/
def sumShiftsWrong : ChangeSpec := { name := "sumShifts", fn := fun _ => fun
  | [d1, d2] => { results := [.lit (.bool false)], args := [d1, d2] }
  | _ => none }
def SumShiftsWrongFalsely : Prop := sumShiftsRow.holds Try.pinned (OpenSpec.ofChange sumShiftsWrong)

/-- 'souffleurlaw09.SumLinear': WHATEVER THE INPUT: true; the input reads as it did. -/
def sumLinearSpec : ChangeSpec := { name := "sumLinear", fn := fun _ => fun
  | [d1, d2, d3] => { results := [.lit (.bool true)], args := [d1, d2, d3] }
  | _ => none }
def sumLinearRow : OpenClaim := { program := "ytibjllfabalfjaa", sum := "c7bd97cb800af0c6b16c09ca655fbe953acfd52cf89775783d358e6be2c7e402", func := "souffleur/souffleurlaw09.SumLinear", spec := "sumLinear", apart := false }
def SumLinearSaid : Prop := sumLinearRow.holds Try.pinned (OpenSpec.ofChange sumLinearSpec)

/-- ITS FALSE NEIGHBOUR: 'it returns false'. Refute it at one input. -/
def sumLinearWrong : ChangeSpec := { name := "sumLinear", fn := fun _ => fun
  | [d1, d2, d3] => { results := [.lit (.bool false)], args := [d1, d2, d3] }
  | _ => none }
def SumLinearWrongFalsely : Prop := sumLinearRow.holds Try.pinned (OpenSpec.ofChange sumLinearWrong)

/-- 'souffleurlaw09.SumBytes': WHATEVER THE INPUT: true; the input reads as it did. -/
def sumBytesSpec : ChangeSpec := { name := "sumBytes", fn := fun _ => fun
  | [d1, d2] => { results := [.lit (.bool true)], args := [d1, d2] }
  | _ => none }
def sumBytesRow : OpenClaim := { program := "ytibjllfabalfjaa", sum := "c7bd97cb800af0c6b16c09ca655fbe953acfd52cf89775783d358e6be2c7e402", func := "souffleur/souffleurlaw09.SumBytes", spec := "sumBytes", apart := false }
def SumBytesSaid : Prop := sumBytesRow.holds Try.pinned (OpenSpec.ofChange sumBytesSpec)

/-- ITS FALSE NEIGHBOUR: 'it returns false'. Refute it at one input. -/
def sumBytesWrong : ChangeSpec := { name := "sumBytes", fn := fun _ => fun
  | [d1, d2] => { results := [.lit (.bool false)], args := [d1, d2] }
  | _ => none }
def SumBytesWrongFalsely : Prop := sumBytesRow.holds Try.pinned (OpenSpec.ofChange sumBytesWrong)

/-- 'souffleurlaw09.SumTold': WHATEVER THE INPUT: true; the input reads as it did. -/
def sumToldSpec : ChangeSpec := { name := "sumTold", fn := fun _ => fun
  | [d1, d2, d3] => { results := [.lit (.bool true)], args := [d1, d2, d3] }
  | _ => none }
def sumToldRow : OpenClaim := { program := "ytibjllfabalfjaa", sum := "c7bd97cb800af0c6b16c09ca655fbe953acfd52cf89775783d358e6be2c7e402", func := "souffleur/souffleurlaw09.SumTold", spec := "sumTold", apart := false }
def SumToldSaid : Prop := sumToldRow.holds Try.pinned (OpenSpec.ofChange sumToldSpec)

/-- ITS FALSE NEIGHBOUR: 'it returns false'. Refute it at one input. -/
def sumToldWrong : ChangeSpec := { name := "sumTold", fn := fun _ => fun
  | [d1, d2, d3] => { results := [.lit (.bool false)], args := [d1, d2, d3] }
  | _ => none }
def SumToldWrongFalsely : Prop := sumToldRow.holds Try.pinned (OpenSpec.ofChange sumToldWrong)

/- THE SECOND FORM. 'bulk': how many values and letters a reading holds, each counted each time it is reached (what is shared counts as often as it is met; a slice's spare places count too). A statement '..UptoSaid' is the law's where the arguments, and the package variables that the reading takes, are together of bulk at most 1048576: NARROWER than '..Said'. Prove '..Said' where nothing that the law and all that it calls make is longer than what came in: it says more and counts as full. Else prove '..UptoSaid'. A law counts once. -/
mutual
def uptoBulk {H : Type} : DataW H → Nat
  | .lit (.string bytes) => bytes.length + 1
  | .lit _ => 1
  | .nil => 1
  | .ptr d => uptoBulk d + 1
  | .slice elems spare => uptoBulkAll elems + uptoBulkAll spare + 1
  | .agg parts => uptoBulkAll parts + 1
  | .iface _ d => uptoBulk d + 1
  | .map entries => uptoBulkEntries entries + 1
  | .held _ => 1
def uptoBulkAll {H : Type} : List (DataW H) → Nat
  | [] => 0
  | d :: r => uptoBulk d + uptoBulkAll r
def uptoBulkEntries {H : Type} : List (Lit × DataW H) → Nat
  | [] => 0
  | x :: r => uptoBulkEntry x + uptoBulkEntries r
def uptoBulkEntry {H : Type} : Lit × DataW H → Nat
  | (.string bytes, d) => bytes.length + uptoBulk d + 1
  | (_, d) => uptoBulk d + 1
 end
def uptoSmall : (H : Type) → List (DataW H) → Bool := fun _ ds => decide (uptoBulkAll ds ≤ 1048576)
def OpenSpec.upto (s : _root_.Go.ChangeSpec) : _root_.Go.OpenSpec := { _root_.Go.OpenSpec.ofChange s with cond := some uptoSmall }

/-- 'souffleurlaw09.SumOf', WHERE WHAT IT READS IS OF BULK AT MOST 1048576: true; the input reads as it did. -/
def sumOfUptoRow : OpenClaim := { program := "ytibjllfabalfjaa", sum := "c7bd97cb800af0c6b16c09ca655fbe953acfd52cf89775783d358e6be2c7e402", func := "souffleur/souffleurlaw09.SumOf", spec := "sumOf", apart := false, narrowed := true }
def SumOfUptoSaid : Prop := sumOfUptoRow.holds Try.pinned (OpenSpec.upto sumOfSpec)

/-- 'souffleurlaw09.SumParts', WHERE WHAT IT READS IS OF BULK AT MOST 1048576: true; the input reads as it did. -/
def sumPartsUptoRow : OpenClaim := { program := "ytibjllfabalfjaa", sum := "c7bd97cb800af0c6b16c09ca655fbe953acfd52cf89775783d358e6be2c7e402", func := "souffleur/souffleurlaw09.SumParts", spec := "sumParts", apart := false, narrowed := true }
def SumPartsUptoSaid : Prop := sumPartsUptoRow.holds Try.pinned (OpenSpec.upto sumPartsSpec)

/-- 'souffleurlaw09.SumJoins', WHERE WHAT IT READS IS OF BULK AT MOST 1048576: true; the input reads as it did. -/
def sumJoinsUptoRow : OpenClaim := { program := "ytibjllfabalfjaa", sum := "c7bd97cb800af0c6b16c09ca655fbe953acfd52cf89775783d358e6be2c7e402", func := "souffleur/souffleurlaw09.SumJoins", spec := "sumJoins", apart := false, narrowed := true }
def SumJoinsUptoSaid : Prop := sumJoinsUptoRow.holds Try.pinned (OpenSpec.upto sumJoinsSpec)

/-- 'souffleurlaw09.SumShifts', WHERE WHAT IT READS IS OF BULK AT MOST 1048576: true; the input reads as it did. -/
def sumShiftsUptoRow : OpenClaim := { program := "ytibjllfabalfjaa", sum := "c7bd97cb800af0c6b16c09ca655fbe953acfd52cf89775783d358e6be2c7e402", func := "souffleur/souffleurlaw09.SumShifts", spec := "sumShifts", apart := false, narrowed := true }
def SumShiftsUptoSaid : Prop := sumShiftsUptoRow.holds Try.pinned (OpenSpec.upto sumShiftsSpec)

/-- 'souffleurlaw09.SumLinear', WHERE WHAT IT READS IS OF BULK AT MOST 1048576: true; the input reads as it did. -/
def sumLinearUptoRow : OpenClaim := { program := "ytibjllfabalfjaa", sum := "c7bd97cb800af0c6b16c09ca655fbe953acfd52cf89775783d358e6be2c7e402", func := "souffleur/souffleurlaw09.SumLinear", spec := "sumLinear", apart := false, narrowed := true }
def SumLinearUptoSaid : Prop := sumLinearUptoRow.holds Try.pinned (OpenSpec.upto sumLinearSpec)

/-- 'souffleurlaw09.SumBytes', WHERE WHAT IT READS IS OF BULK AT MOST 1048576: true; the input reads as it did. -/
def sumBytesUptoRow : OpenClaim := { program := "ytibjllfabalfjaa", sum := "c7bd97cb800af0c6b16c09ca655fbe953acfd52cf89775783d358e6be2c7e402", func := "souffleur/souffleurlaw09.SumBytes", spec := "sumBytes", apart := false, narrowed := true }
def SumBytesUptoSaid : Prop := sumBytesUptoRow.holds Try.pinned (OpenSpec.upto sumBytesSpec)

/-- 'souffleurlaw09.SumTold', WHERE WHAT IT READS IS OF BULK AT MOST 1048576: true; the input reads as it did. -/
def sumToldUptoRow : OpenClaim := { program := "ytibjllfabalfjaa", sum := "c7bd97cb800af0c6b16c09ca655fbe953acfd52cf89775783d358e6be2c7e402", func := "souffleur/souffleurlaw09.SumTold", spec := "sumTold", apart := false, narrowed := true }
def SumToldUptoSaid : Prop := sumToldUptoRow.holds Try.pinned (OpenSpec.upto sumToldSpec)

end Rows
end Go.Proofs.Ytibjllfabalfjaa
