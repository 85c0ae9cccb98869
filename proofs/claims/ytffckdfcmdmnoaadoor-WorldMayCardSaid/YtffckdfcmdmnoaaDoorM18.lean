/- Texts merged: Num. -/
import Derived.Lib.AtoiAll
import Derived.Lib.AtoiAllCases
import Derived.Lib.ItoaNum
import Derived.Lib.ItoaLen
import Derived.Lib.ItoaMem
section
/- Decimal numerals: what strconv.Itoa writes strconv.Atoi reads, and nothing else is written for it. Plain Lean, no program. -/
set_option linter.unusedVariables false
namespace Go.Lib
end Go.Lib
end
