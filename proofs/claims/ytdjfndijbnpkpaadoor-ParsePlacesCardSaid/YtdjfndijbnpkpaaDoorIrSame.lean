/-
  Contract: Same.
-/
import Derived.Test.YtdjfndijbnpkpaaDoorIrRep
set_option linter.unusedVariables false
set_option linter.unusedSimpArgs false
set_option linter.unusedSectionVars false
set_option maxRecDepth 100000
namespace Go.Proofs.YtdjfndijbnpkpaaDoor.Sh
open Go Go.AM Go.Proofs
deriving instance DecidableEq for Phi
deriving instance DecidableEq for Block
variable {K : Ctx} (hF : Fix pgF K)
include hF
end Go.Proofs.YtdjfndijbnpkpaaDoor.Sh
