/- The plain statement of the law RingSteps, over the printed functions. -/
import Derived.Test.YtcfclhlgjpidhaaRingLaw
namespace Go.Proofs.Ytcfclhlgjpidhaa.Pure
theorem RingSteps : PA.tracerylaw02_RingSteps.Pure := PA.steps_pure
end Go.Proofs.Ytcfclhlgjpidhaa.Pure
