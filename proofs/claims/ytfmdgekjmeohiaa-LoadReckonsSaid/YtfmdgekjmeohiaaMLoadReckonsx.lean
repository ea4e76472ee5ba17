-- by the turned print: Ytfmdgekjmeohiaa
import Derived.Test.YtfmdgekjmeohiaaMLoadReckonsx0
import Derived.Test.YtfmdgekjmeohiaaMLoadReckonsx1
import Derived.Test.YtfmdgekjmeohiaaMLoadReckonsx2
import Derived.Test.YtfmdgekjmeohiaaMLoadReckonsx3
import Derived.Test.YtfmdgekjmeohiaaMLoadReckonsx4
import Derived.Test.YtfmdgekjmeohiaaMLoadReckonsx5
namespace Go.Proofs.Ytfmdgekjmeohiaa.MLoadReckons
open Go.RowKit Go.Proofs.YtfmdgekjmeohiaaW.PrintWords Go.Proofs.YtfmdgekjmeohiaaW.PrintLast Go.Proofs.YtfmdgekjmeohiaaW.PrintMore
attribute [local go_sem] max2_int min2_int max_two min_two max_three min_three max_four min_four   -- for this text's walks alone
set_option linter.unusedVariables false
set_option linter.unusedSimpArgs false

end Go.Proofs.Ytfmdgekjmeohiaa.MLoadReckons
