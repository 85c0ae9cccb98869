/- Texts merged: Y28. -/
import Derived.Test.YtffckdfcmdmnoaaDoorM27
section
/- Where a run stands. -/
set_option linter.unusedVariables false
set_option linter.unusedSimpArgs false
set_option linter.unusedSectionVars false
namespace Go.Sy
open Go Go.RowKit
variable [Globs]
def headReg : List Item → Option Nat
  | .code (.region id _ _) :: _ => some id
  | _ => none
section
variable {P : Program} {f : FuncId} {fn : Func} {n0 : Nat} {Q : PV → St → Prop} {k : List Item} {env : Env} {st : St}
/-- A run that stands ahead of region number 'id'. -/
theorem Run.atReg (id : Nat) (h : headReg k = some id) (hr : Run P f fn n0 Q k env st) : Run P f fn n0 Q k env st := hr
end
end Go.Sy
end
