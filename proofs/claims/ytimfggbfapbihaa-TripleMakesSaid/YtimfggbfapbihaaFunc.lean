/-
  Contracts: the library's slices.IndexFunc, ContainsFunc over ints, at whatever predicate is quiet. No condition.
-/
import Derived.Test.YtimfggbfapbihaaRows
import Derived.Test.YtimfggbfapbihaaPure
namespace Go.Proofs.Ytimfggbfapbihaa
open Go.RowKit
end Go.Proofs.Ytimfggbfapbihaa
