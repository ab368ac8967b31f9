-- written by gprint.py: the printer run with given contracts
import Derived.Test.YtidhllheipopbaaXColx0
import Derived.Test.YtidhllheipopbaaXColx1
import Derived.Test.YtidhllheipopbaaXColx3
import Derived.Test.YtidhllheipopbaaXColx4
import Derived.Test.YtidhllheipopbaaColGiven
namespace Go.Proofs.Ytidhllheipopbaa.XCol
open Go.RowKit Go.Proofs.YtidhllheipopbaaW.PrintWords Go.Proofs.YtidhllheipopbaaW.PrintLast Go.Proofs.YtidhllheipopbaaW.PrintMore
attribute [local go_sem] max2_int min2_int max_two min_two max_three min_three max_four min_four   -- for this text's walks alone
set_option linter.unusedVariables false
set_option linter.unusedSimpArgs false

end Go.Proofs.Ytidhllheipopbaa.XCol
