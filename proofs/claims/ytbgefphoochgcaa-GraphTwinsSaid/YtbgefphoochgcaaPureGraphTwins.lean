/- The statement GraphTwins over numbers and lists: each dart leaves what its twin comes to, and is among the darts of what it leaves. -/
import Derived.Test.YtbgefphoochgcaaTwinsLaw
import Derived.OpenShut
namespace Go.Proofs.Ytbgefphoochgcaa.Pure

theorem GraphTwins (n0 : Int) (l0 : List PA.S56) (a1 : Int) (_ : (Lit.int .i64 n0).wf = true) (_ : l0.length ≤ maxLen) (w1 : (Lit.int .i64 a1).wf = true) : ∃ k, PA.tracerylaw04_GraphTwins.f k n0 l0 a1 = some true :=
  PA.twins n0 l0 a1 (bounds_i64 w1)
end Go.Proofs.Ytbgefphoochgcaa.Pure
