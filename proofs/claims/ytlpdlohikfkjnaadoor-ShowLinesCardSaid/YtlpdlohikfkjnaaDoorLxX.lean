/-
  The calls of strconv.FormatInt, strconv.ParseInt.
-/
import Derived.Test.YtlpdlohikfkjnaaDoorTx
import Derived.Test.YtlpdlohikfkjnaaDoorLxT
import Derived.Test.YtlpdlohikfkjnaaDoorLx0
set_option linter.unusedVariables false
set_option linter.unusedSimpArgs false
set_option linter.unusedSectionVars false
namespace Go.AM
open Go.RowKit
theorem ext_call {Γ : Funs} {K : Ctx} (hF : Fix Γ K) {f : FuncId} {n : Nat} {x : Look} {nd : List (Nat × Option (List Int))} (hf : Γ f = some (extFun n x nd)) {args : List Value} {st : St} {v : Value} (hl : args.length = n) (ht : (args.all fun v => !isTuple v) = true) (hnd : (nd.all fun p => hasVar (st.get p.1) p.2) = true) (hx : x.g (rdOf st) args = some v) :
 K.go (.call f args) st = .ok (v, st) := by
 have hs : ((List.range n).map Operand.tmp).map (Env.ev (start args)) = args := by
  rw [start_ev args n (Nat.le_of_eq hl), hl, Nat.sub_self]
  simp
 have hb : codeC K (extFun n x nd).body (start args) st = .ok (.normal, Env.set (start args) n v, st) := by
  simp only [extFun, codeC, opsC, wants, AOper.run, AOp.run, Look.some?, Res.bind_ok, if_true, hs, hnd, Res.need_true, if_pos ht, hx, Res.of_some, Res.pure_eq, Env.put]
 have hr : resultsC (Env.set (start args) n v) st (extFun n x nd).results = .ok [v] := by
  simp only [extFun, resultsC, Res.bind_ok, Res.pure_eq, Env.at_set_same]
 have := hF.call (args := args) (st := st) hf (by show args.length ≤ n; omega) hb (fun id h => by cases h) hr
 rw [this]
 rfl
end Go.AM
namespace Go.Proofs.YtlpdlohikfkjnaaDoor.Sh
open Go Go.AM Go.Proofs
def pvars : List (Nat × AObj) := [(1, .table Lib.pow10Tab), (4, .errv), (5, .errv), (0, .cells (Lx.opNames.map T))]
structure VOk (st : St) : Prop where
 next : pg.globals.size ≤ st.next
 ro : st.ro ≤ st.next
 vars : ∀ p ∈ pvars, st.get p.1 = some p.2
theorem pvars_lt : ∀ p ∈ pvars, p.1 < pg.globals.size := by
 have : pg.globals.size = 6 := by decide +kernel
 rw [this]
 intro p hp
 simp only [pvars, List.mem_cons, List.not_mem_nil, or_false] at hp
 rcases hp with rfl | rfl | rfl | rfl <;> decide
theorem VOk.mono {st st' : St} (h : VOk st) (hE : Ext st st') : VOk st' where
 next := Nat.le_trans h.next hE.next
 ro := hE.roOk h.ro
 vars := fun p hp => by rw [hE.get _ (Nat.lt_of_lt_of_le (pvars_lt p hp) h.next)]; exact h.vars p hp
variable {K : Ctx} (hF : Fix pgF K)
include hF
end Go.Proofs.YtlpdlohikfkjnaaDoor.Sh
