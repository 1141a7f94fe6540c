/-
  Contracts: the reference's look at a square. No condition.
-/
import Derived.Test.YtdbfpdhcaiiiaaaDoorRows
import Derived.Test.YtdbfpdhcaiiiaaaDoorPure
namespace Go.Proofs.YtdbfpdhcaiiiaaaDoor
open Go.RowKit
end Go.Proofs.YtdbfpdhcaiiiaaaDoor
