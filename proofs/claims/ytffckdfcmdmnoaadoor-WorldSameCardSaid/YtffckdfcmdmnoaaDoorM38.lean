/- Texts merged: F7. -/
import Derived.Test.YtffckdfcmdmnoaaDoorM34
import Derived.Test.YtffckdfcmdmnoaaDoorM37
import Derived.Test.YtffckdfcmdmnoaaDoorM35
section
/- Walks: the law of a program's start (chapter 9). -/
set_option linter.unusedVariables false
set_option linter.unusedSimpArgs false
set_option linter.unusedSectionVars false
set_option pp.maxSteps 40000
set_option maxHeartbeats 4000000
namespace Go.Proofs.YtffckdfcmdmnoaaDoor.W
open Go Go.Sy

theorem numsText_four (a b c d : Int) : numsText [a, b, c, d] = Lib.itoa a ++ 32 :: (Lib.itoa b ++ 32 :: (Lib.itoa c ++ 32 :: Lib.itoa d)) := by
  simp [numsText, Lib.join]
end Go.Proofs.YtffckdfcmdmnoaaDoor.W
end
