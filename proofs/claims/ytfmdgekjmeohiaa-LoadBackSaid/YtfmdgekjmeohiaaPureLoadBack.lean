/- The pure statement of LoadBack, as the printed row wants it. Conditions: none. -/
import Derived.Test.YtfmdgekjmeohiaaLLoadBack
namespace Go.Proofs.Ytfmdgekjmeohiaa.Pure
theorem LoadBack : Go.Proofs.Ytfmdgekjmeohiaa.MLoadBack.haulierlaw09_LoadBack.Pure := Go.Proofs.Ytfmdgekjmeohiaa.MLoadBack.LoadBack
end Go.Proofs.Ytfmdgekjmeohiaa.Pure
