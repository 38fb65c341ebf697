/-
  Sweep of a fixed program: what nobody needs.
-/
import Derived.Test.YtenfblnmmmppbaaIrClone
import Derived.Test.YtenfblnmmmppbaaRng
import Derived.Test.YtenfblnmmmppbaaShW
set_option linter.unusedVariables false
set_option linter.unusedSimpArgs false
set_option linter.unusedSectionVars false
set_option maxRecDepth 100000
namespace Go.Proofs.Ytenfblnmmmppbaa.Sh
open Go Go.AM Go.Proofs

/-- The fixed program: a number, an input, a trap. -/
def awP : Prog := [⟨0, [], [⟨0, 0, 0, 0, 0, 5, 0⟩, ⟨3, 0, 1, 0, 0, 0, 0⟩], ⟨3, 0, 0, 0⟩⟩]

theorem append_empty {A : Nat → Prop} {s : St} {v : Value} {α : Type} {R : List Value → α → Prop} (h : RSl A s 1 R v []) : sAppend 1 8 (.slice none 0 0) v s = .ok (.slice none 0 0, s) := by
  rcases h with ⟨_, c, rfl⟩ | ⟨b, o, xs, rfl, h2, h3, h4, h5⟩
  · simp [sAppend, aappend, lenL, firstL, Res.need]
  · have : firstL s 1 0 (Sl b o 0 1) = .ok [] := by
      have h4' : o ≤ xs.length := by simpa using h4
      simp [firstL, St.loadN, cells_eq h3, Res.need, h4']
    have e : sAppend 1 8 (.slice none 0 0) (Sl b o 0 1) s = .ok (.slice none 0 0, s) := by
      simp only [sAppend, aappend, lenL, this, Res.bind_ok]
      simp [Res.need]
    exact e

variable {K : Ctx} (hF : Fix pgF K)
include hF

theorem Does_ok (x : Instr) (st : St) : Ok (K.go (.call n_sweep_Does [vI x]) st) fun r => r.1 = B (!x.pure && !decide (x.kind = 5)) ∧ Ext st r.2 := by
  generalize hQ : (fun r : Value × St => r.1 = B (!x.pure && !decide (x.kind = 5)) ∧ Ext st r.2) = Q
  refine sweep_Does_of hF fun J hJ => ?_
  rw [sweep_Does_eq]
  simp
  refine (Pure_ok hF x _).call fun s hE => ?_
  have hE' : Ext st s := Ext.trans (by simp) hE
  cases hp : x.pure with
  | true =>
    simp
    rw [← hQ, hp]
    exact ⟨rfl, hE'⟩
  | false =>
    simp
    rw [← hQ, hp]
    exact ⟨rfl, hE'⟩

theorem Search0_eq {A : Nat → Prop} {s : St} {v : Value} (h : RSl A s 1 RInt v []) (x : Int) (st : St) : K.go (.call n_slices_BinarySearch_int [v, I x]) st = .ok (.tuple #[I 0, B false], st) := by
  refine Ok.eq (slices_BinarySearch_int_of hF fun J hJ => ?_)
  rw [slices_BinarySearch_int_eq]
  have hlen : ∀ s, sLen .slice v s = .ok (I 0, s) := h.len
  simp [-sLen_slice, hlen]
  refine slices_BinarySearch_int_l0_of hF hJ ?_
  rw [slices_BinarySearch_int_l0_eq]
  simp [slices_BinarySearch_int_j1_eq hJ]

theorem Has0_ok {A : Nat → Prop} {s : St} {v : Value} (h : RSl A s 1 RInt v []) (x : Int) (st : St) : Ok (K.go (.call n_bag_Set_int_Has [.agg #[v], I x]) st) fun r => r.1 = B false ∧ Ext st r.2 := by
  refine bag_Set_int_Has_of hF fun J hJ => ?_
  rw [bag_Set_int_Has_eq]
  simp [Res.of, Search0_eq hF h]

theorem Need0_eq {A : Nat → Prop} {s : St} {v o q : Value} (h : RSl A s 1 RInt v []) (st : St) : sCall K (.func (.func n_sweep_Needed_1) #[] #[o, q]) [v] st = .ok (.tuple #[], st) := by
  have e : sCall K (.func (.func n_sweep_Needed_1) #[] #[o, q]) [v] st = K.go (.call n_sweep_Needed_1 [v, o, q]) st := by simp [sCall, taskOf]
  rw [e]
  refine Ok.eq (sweep_Needed_1_of hF fun J hJ => ?_)
  rw [sweep_Needed_1_eq]
  have hlen : ∀ s, sLen .slice v s = .ok (I 0, s) := h.len
  simp [-sLen_slice, hlen]
  refine sweep_Needed_1_l0_of hF hJ ?_
  rw [sweep_Needed_1_l0_eq]
  simp

theorem Take0_eq {qb : Nat} {m : Value} {st : St} (h : st.get qb = some (.cells [.slice none 0 0, m])) : K.go (.call n_bag_Queue_int_Take [P qb 0]) st = .ok (.tuple #[I 0, B false], st) := by
  refine Ok.eq (bag_Queue_int_Take_of hF fun J hJ => ?_)
  rw [bag_Queue_int_Take_eq]
  have hn : sEq false (.nilOf .ptr) (P qb 0) (.pointer none) st = .ok (.bool false, st) := rfl
  have hc : sNilc (P qb 0) st = .ok (P qb 0, st) := rfl
  have hl : st.load1 qb 0 = .ok (.slice none 0 0) := load1_eq h rfl
  have hlen : sLen .slice (.slice none 0 0) st = .ok (I 0, st) := rfl
  simp [-sLen_slice, hn, hc, hl, hlen]
end Go.Proofs.Ytenfblnmmmppbaa.Sh

