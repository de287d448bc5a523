/- The plain statement of the law WordSplits, over the printed functions. -/
import Derived.Test.YtdhnoclkepopgaaSplitLaw
namespace Go.Proofs.Ytdhnoclkepopgaa.Pure
theorem WordSplits : PA.tracerylaw01_WordSplits.Pure := PA.splits_pure
end Go.Proofs.Ytdhnoclkepopgaa.Pure
