/-
  The laws' own functions of chapter 4: number, word, Token, Awake.
-/
import Derived.Test.YtefdkodjpcabmaaDoorLx4
import Derived.Test.YtefdkodjpcabmaaDoorLxR
set_option linter.unusedVariables false
set_option linter.unusedSimpArgs false
set_option linter.unusedSectionVars false
set_option maxRecDepth 100000
namespace Go.AM
end Go.AM
namespace Go.Proofs.YtefdkodjpcabmaaDoor.Sh
open Go Go.AM Go.Proofs Go.AM.Lx
variable {K : Ctx} (hF : Fix pgF K)
include hF
end Go.Proofs.YtefdkodjpcabmaaDoor.Sh
