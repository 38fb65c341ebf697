/-
  Small programs that came in.
-/
import Derived.Test.YtdjfndijbnpkpaaDoorIrSmall
set_option linter.unusedVariables false
set_option linter.unusedSimpArgs false
set_option linter.unusedSectionVars false
set_option maxRecDepth 100000
namespace Go.Proofs.YtdjfndijbnpkpaaDoor.Sh
open Go Go.AM Go.Proofs
end Go.Proofs.YtdjfndijbnpkpaaDoor.Sh
