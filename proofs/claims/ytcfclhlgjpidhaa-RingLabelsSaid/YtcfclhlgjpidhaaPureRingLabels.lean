/- The plain statement of the law RingLabels, over the printed functions. -/
import Derived.Test.YtcfclhlgjpidhaaRingLaw
namespace Go.Proofs.Ytcfclhlgjpidhaa.Pure
theorem RingLabels : PA.tracerylaw02_RingLabels.Pure := PA.labels_pure
end Go.Proofs.Ytcfclhlgjpidhaa.Pure
