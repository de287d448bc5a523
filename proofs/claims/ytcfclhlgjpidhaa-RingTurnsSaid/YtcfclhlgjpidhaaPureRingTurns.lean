/- The plain statement of the law RingTurns, over the printed functions. -/
import Derived.Test.YtcfclhlgjpidhaaTurnsLaw
namespace Go.Proofs.Ytcfclhlgjpidhaa.Pure
theorem RingTurns : PA.tracerylaw02_RingTurns.Pure := PA.turns_pure
end Go.Proofs.Ytcfclhlgjpidhaa.Pure
