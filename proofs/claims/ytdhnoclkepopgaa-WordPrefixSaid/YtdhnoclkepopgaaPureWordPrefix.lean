/- The plain statement of the law WordPrefix: its given function says it at once. -/
import Derived.Test.YtdhnoclkepopgaaPAx21
namespace Go.Proofs.Ytdhnoclkepopgaa.Pure
theorem WordPrefix : PA.tracerylaw01_WordPrefix.Pure := by
  intro a0 a1 h _
  unfold PA.tracerylaw01_WordPrefix.f
  rw [if_pos h]
end Go.Proofs.Ytdhnoclkepopgaa.Pure
