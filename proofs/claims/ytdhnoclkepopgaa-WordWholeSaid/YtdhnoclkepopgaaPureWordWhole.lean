/- The plain statement of the law WordWhole, over the printed functions. -/
import Derived.Test.YtdhnoclkepopgaaSplitLaw
namespace Go.Proofs.Ytdhnoclkepopgaa.Pure
theorem WordWhole : PA.tracerylaw01_WordWhole.Pure := PA.whole_pure
end Go.Proofs.Ytdhnoclkepopgaa.Pure
