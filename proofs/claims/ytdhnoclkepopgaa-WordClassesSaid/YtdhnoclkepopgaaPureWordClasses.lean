/- The plain statement of the law WordClasses, over the printed functions. -/
import Derived.Test.YtdhnoclkepopgaaClassLaw
namespace Go.Proofs.Ytdhnoclkepopgaa.Pure
theorem WordClasses : PA.tracerylaw01_WordClasses.Pure := PA.classes_pure
end Go.Proofs.Ytdhnoclkepopgaa.Pure
