/-
  Contracts: are two squares orthogonal (the reference's and the program's). No condition.
-/
import Derived.Test.YtdbfpdhcaiiiaaaDoorLatin3
namespace Go.Proofs.YtdbfpdhcaiiiaaaDoor
open Go.RowKit
end Go.Proofs.YtdbfpdhcaiiiaaaDoor
