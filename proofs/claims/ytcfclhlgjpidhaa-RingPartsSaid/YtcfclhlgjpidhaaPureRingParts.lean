/- The plain statement of the law RingParts, over the printed functions. -/
import Derived.Test.YtcfclhlgjpidhaaPartsLaw
namespace Go.Proofs.Ytcfclhlgjpidhaa.Pure
theorem RingParts : PA.tracerylaw02_RingParts.Pure := PA.parts_pure
end Go.Proofs.Ytcfclhlgjpidhaa.Pure
