/-
  Texts of pieces: what is read of them.
-/
import Derived.Test.YtefdkodjpcabmaaDoorLx6
import Derived.Test.YtefdkodjpcabmaaDoorAmC
set_option linter.unusedVariables false
set_option linter.unusedSimpArgs false
set_option linter.unusedSectionVars false
set_option maxRecDepth 100000
namespace Go.AM.Lx
def shift (d : Nat) (t : Tok) : Tok := ⟨t.kind, t.at_ + d, t.text, t.n⟩
end Go.AM.Lx
namespace Go.Proofs.YtefdkodjpcabmaaDoor.Sh
open Go Go.AM Go.Proofs Go.AM.Lx
theorem cellEq_i (k : IntKind) (a b : Int) : cellEq .int (.int k a) (.int k b) = some (decide (a = b)) := by
 simp [cellEq]
 rfl
theorem sEq_tok (a b : Tok) (s : St) : sEq true (.fields [(0, .int), (1, .int), (2, .str), (3, .int)]) (vTok a) (vTok b) s = .ok (B (!decide (a = b)), s) := by
 obtain ⟨k, p, x, n⟩ := a
 obtain ⟨k', p', x', n'⟩ := b
 have hp : ((p : Nat) : Int) = p' ↔ p = p' := by omega
 by_cases h1 : k = k' <;> by_cases h2 : p = p' <;> by_cases h3 : x = x' <;> by_cases h4 : n = n' <;> simp [sEq, aeq, vTok, cTok, fieldsEq, cellEq_T, cellEq_i, h1, h2, h3, h4, hp]
structure Pc where
 k : Int
 g : Int
 n : Int
structure Pc.Ok (p : Pc) : Prop where
 k : 0 ≤ p.k ∧ p.k ≤ 255
 g : 0 ≤ p.g ∧ p.g ≤ 255
 n : -9223372036854775808 ≤ p.n ∧ p.n ≤ 9223372036854775807
section
variable (p : Pc) (s : St)
end
variable {K : Ctx} (hF : Fix pgF K)
include hF
end Go.Proofs.YtefdkodjpcabmaaDoor.Sh
