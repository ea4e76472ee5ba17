/- The pure statement of LoadReckons, as the printed row wants it. Conditions: none. -/
import Derived.Test.YtfmdgekjmeohiaaLLoadReckons
namespace Go.Proofs.Ytfmdgekjmeohiaa.Pure
theorem LoadReckons : Go.Proofs.Ytfmdgekjmeohiaa.MLoadReckons.haulierlaw09_LoadReckons.Pure := Go.Proofs.Ytfmdgekjmeohiaa.MLoadReckons.LoadReckons
end Go.Proofs.Ytfmdgekjmeohiaa.Pure
