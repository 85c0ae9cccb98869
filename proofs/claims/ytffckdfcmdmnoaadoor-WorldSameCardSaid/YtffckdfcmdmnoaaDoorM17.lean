/- Texts merged: O0. -/
import Derived.Test.YtffckdfcmdmnoaaDoorM16
import Derived.Test.YtffckdfcmdmnoaaDoorM1
section
/- What comes in: numbers, and rows of them. -/
set_option linter.unusedVariables false
set_option linter.unusedSimpArgs false
set_option maxRecDepth 100000
namespace Go.Proofs.YtffckdfcmdmnoaaDoor.W
open Go Go.Sy Go.RowKit

end Go.Proofs.YtffckdfcmdmnoaaDoor.W
end
