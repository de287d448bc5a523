/- The plain statement of the law RingStays, over the printed functions. -/
import Derived.Test.YtcfclhlgjpidhaaPartsLaw
namespace Go.Proofs.Ytcfclhlgjpidhaa.Pure
theorem RingStays : PA.tracerylaw02_RingStays.Pure := PA.stays_pure
end Go.Proofs.Ytcfclhlgjpidhaa.Pure
