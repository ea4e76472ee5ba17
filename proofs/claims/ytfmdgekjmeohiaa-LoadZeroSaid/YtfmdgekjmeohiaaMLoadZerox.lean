-- by the turned print: Ytfmdgekjmeohiaa
import Derived.Test.YtfmdgekjmeohiaaMLoadZerox0
import Derived.Test.YtfmdgekjmeohiaaMLoadZerox1
import Derived.Test.YtfmdgekjmeohiaaMLoadZerox2
import Derived.Test.YtfmdgekjmeohiaaMLoadZerox3
namespace Go.Proofs.Ytfmdgekjmeohiaa.MLoadZero
open Go.RowKit Go.Proofs.YtfmdgekjmeohiaaW.PrintWords Go.Proofs.YtfmdgekjmeohiaaW.PrintLast Go.Proofs.YtfmdgekjmeohiaaW.PrintMore
attribute [local go_sem] max2_int min2_int max_two min_two max_three min_three max_four min_four   -- for this text's walks alone
set_option linter.unusedVariables false
set_option linter.unusedSimpArgs false

end Go.Proofs.Ytfmdgekjmeohiaa.MLoadZero
