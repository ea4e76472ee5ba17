-- by the turned print: Ytoinhkilgijilaa
import Derived.Test.YtoinhkilgijilaaMHoursWiderx0
import Derived.Test.YtoinhkilgijilaaMHoursWiderx1
import Derived.Test.YtoinhkilgijilaaMHoursWiderx2
namespace Go.Proofs.Ytoinhkilgijilaa.MHoursWider
open Go.RowKit Go.Proofs.YtoinhkilgijilaaW.PrintWords Go.Proofs.YtoinhkilgijilaaW.PrintLast Go.Proofs.YtoinhkilgijilaaW.PrintMore
attribute [local go_sem] max2_int min2_int max_two min_two max_three min_three max_four min_four   -- for this text's walks alone
set_option linter.unusedVariables false
set_option linter.unusedSimpArgs false

end Go.Proofs.Ytoinhkilgijilaa.MHoursWider
