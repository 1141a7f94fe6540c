/-
  Contract: the reference's Lies (is a number in a list?). No condition.
-/
import Derived.Test.YtimfggbfapbihaaSlice
namespace Go.Proofs.Ytimfggbfapbihaa
open Go.RowKit
end Go.Proofs.Ytimfggbfapbihaa
