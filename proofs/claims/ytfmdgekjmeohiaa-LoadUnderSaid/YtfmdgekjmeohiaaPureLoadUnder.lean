/- The pure statement of LoadUnder, as the printed row wants it. Conditions: none. -/
import Derived.Test.YtfmdgekjmeohiaaLLoadUnder
namespace Go.Proofs.Ytfmdgekjmeohiaa.Pure
theorem LoadUnder : Go.Proofs.Ytfmdgekjmeohiaa.MLoadUnder.haulierlaw09_LoadUnder.Pure := Go.Proofs.Ytfmdgekjmeohiaa.MLoadUnder.LoadUnder
end Go.Proofs.Ytfmdgekjmeohiaa.Pure
