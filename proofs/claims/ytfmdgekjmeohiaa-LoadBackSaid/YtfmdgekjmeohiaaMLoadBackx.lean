-- by the turned print: Ytfmdgekjmeohiaa
import Derived.Test.YtfmdgekjmeohiaaMLoadBackx0
import Derived.Test.YtfmdgekjmeohiaaMLoadBackx1
import Derived.Test.YtfmdgekjmeohiaaMLoadBackx2
import Derived.Test.YtfmdgekjmeohiaaMLoadBackx3
namespace Go.Proofs.Ytfmdgekjmeohiaa.MLoadBack
open Go.RowKit Go.Proofs.YtfmdgekjmeohiaaW.PrintWords Go.Proofs.YtfmdgekjmeohiaaW.PrintLast Go.Proofs.YtfmdgekjmeohiaaW.PrintMore
attribute [local go_sem] max2_int min2_int max_two min_two max_three min_three max_four min_four   -- for this text's walks alone
set_option linter.unusedVariables false
set_option linter.unusedSimpArgs false

end Go.Proofs.Ytfmdgekjmeohiaa.MLoadBack
