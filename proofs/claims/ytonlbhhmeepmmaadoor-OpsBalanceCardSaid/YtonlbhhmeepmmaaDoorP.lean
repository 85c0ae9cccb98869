-- WRITTEN BY xprint.py (a session's program over the print's text).
import Derived.Test.YtonlbhhmeepmmaaDoorP0
import Derived.Test.YtonlbhhmeepmmaaDoorP1
import Derived.Test.YtonlbhhmeepmmaaDoorP2
import Derived.Test.YtonlbhhmeepmmaaDoorP3
import Derived.Test.YtonlbhhmeepmmaaDoorP4
namespace Go.Proofs.YtonlbhhmeepmmaaDoor.P
open Go.RowKit Go.Proofs.YtonlbhhmeepmmaaDoorW.PrintWords Go.Proofs.YtonlbhhmeepmmaaDoorW.PrintLast Go.Proofs.YtonlbhhmeepmmaaDoorW.PrintMore
attribute [local go_sem] max2_int min2_int max_two min_two max_three min_three max_four min_four   -- for this text's walks alone
set_option linter.unusedVariables false
set_option linter.unusedSimpArgs false

end Go.Proofs.YtonlbhhmeepmmaaDoor.P
