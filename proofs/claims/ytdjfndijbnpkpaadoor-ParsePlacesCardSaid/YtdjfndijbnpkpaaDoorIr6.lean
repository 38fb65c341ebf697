/-
  Contracts: slices.Equal on numbers; Awake of layer 3.
-/
import Derived.Test.YtdjfndijbnpkpaaDoorIr5
set_option linter.unusedVariables false
set_option linter.unusedSimpArgs false
set_option linter.unusedSectionVars false
namespace Go.Proofs.YtdjfndijbnpkpaaDoor.Sh
open Go Go.AM Go.Proofs
variable {K : Ctx} (hF : Fix pgF K)
include hF
end Go.Proofs.YtdjfndijbnpkpaaDoor.Sh
