/- The pure statement of LoadZero, as the printed row wants it. Conditions: none. -/
import Derived.Test.YtfmdgekjmeohiaaLLoadZero
namespace Go.Proofs.Ytfmdgekjmeohiaa.Pure
theorem LoadZero : Go.Proofs.Ytfmdgekjmeohiaa.MLoadZero.haulierlaw09_LoadZero.Pure := Go.Proofs.Ytfmdgekjmeohiaa.MLoadZero.LoadZero
end Go.Proofs.Ytfmdgekjmeohiaa.Pure
