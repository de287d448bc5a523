/- The plain statement of the law WordNumbers, over the printed functions. -/
import Derived.Test.YtdhnoclkepopgaaNumberLaw
namespace Go.Proofs.Ytdhnoclkepopgaa.Pure
theorem WordNumbers : PA.tracerylaw01_WordNumbers.Pure := PA.numbers_pure
end Go.Proofs.Ytdhnoclkepopgaa.Pure
