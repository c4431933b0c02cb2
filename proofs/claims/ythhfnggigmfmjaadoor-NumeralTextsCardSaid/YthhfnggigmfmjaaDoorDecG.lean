/-
  The walks of dec: Cmp.
-/
import Derived.Test.YthhfnggigmfmjaaDoorDecF
namespace Go.Proofs.YthhfnggigmfmjaaDoor
set_option linter.unusedSimpArgs false
set_option linter.unusedVariables false
open Go.RowKit

end Go.Proofs.YthhfnggigmfmjaaDoor
