/-
  THE ABSTRACT MACHINE, 30: a law is closed: from what its function comes to, over every context, to what the model does.
-/
import Derived.Test.YtfknooeebmdfoaaAmUse
set_option linter.unusedVariables false
namespace Go.AM
open Go.RowKit

theorem law_true {P : Program} (hm : P.follows .mixedOrders = true) {N : Nat} {f : FuncId} {args : List Value} (hN : P.globals.size ≤ N) (hc : args.all constOk = true)
    (h : ∀ K, Fix (funs P) K → Ok (K.go (.call f args) (st0 N)) fun r => r.1 = .bool true) (w : World) :
    Calls P f args.toArray w fun e w' => e = .returned (.bool true) ∧ Below w.heap.size w w' := by
  obtain ⟨⟨v, st'⟩, hr, ht⟩ := h _ (fix_lim _)
  obtain ⟨n, hn⟩ := run_lim hr
  simp only at ht
  subst ht
  have hrel : RelL (gh0 P) args args := .of_flat fun x hx => constOk_rel _ (List.all_eq_true.1 hc x hx)
  obtain ⟨_, hcalls⟩ := (goes_all hm n).call hn (inv_start hN st'.next w) hrel
  refine (callsIn_wide.1 (hcalls 0)).mono fun e w' he => ?_
  cases e with
  | returned v' => obtain ⟨g', hr, hto⟩ := he; exact ⟨by rw [hr.bool], below_of hto⟩
  | panicked c => exact he.elim
  | outgrown => exact he.elim
end Go.AM
