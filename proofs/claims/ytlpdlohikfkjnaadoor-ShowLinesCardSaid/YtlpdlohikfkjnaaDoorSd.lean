/-
  What show's functions answer, as the machine is told.
-/
import Derived.Test.YtlpdlohikfkjnaaDoorAmC
import Derived.Test.YtlpdlohikfkjnaaDoorSd0
set_option linter.unusedVariables false
set_option linter.unusedSimpArgs false
set_option linter.unusedSectionVars false
namespace Go.Proofs
open Go.Lib
def decIn : List Value → Option In
 | [.int .u8 k, .int .u8 c, .int .i64 d, .int .i64 a, .int .i64 b, .int .i64 n, .int .i64 s] => some ⟨k, c, d, a, b, n, s⟩
 | _ => none
def decLa : List Value → Option La
 | [.int .u8 k, .int .i64 a, .int .i64 y, .int .i64 n] => some ⟨k, a, y, n⟩
 | _ => none
def decAll {α : Type} (f : List Value → Option α) : List (List Value) → Option (List α)
 | [] => some []
 | x :: l => (f x).bind fun a => (decAll f l).map fun r => a :: r
open Go.AM in
def rows (r : Rdr) (s : Nat) : Value → Option (List (List Value))
 | .slice none 0 _ => some []
 | .slice (some ⟨b, o, none⟩) n s' => (r b).bind fun xs => if s' = s ∧ o + n * s ≤ xs.length then some ((List.range n).map fun j => (xs.drop (o + j * s)).take s) else none
 | _ => none
open Go.AM in
def decBl (r : Rdr) : List Value → Option Bl
 | [.int .i64 l, .slice _ 0 _, vi, .int .u8 k, .int .i64 a, .int .i64 y, .int .i64 n] => ((rows r 7 vi).bind (decAll decIn)).map fun ins => ⟨l, ins, ⟨k, a, y, n⟩⟩
 | _ => none
open Go.AM in
def decP (r : Rdr) (v : Value) : Option (List Bl) := (rows r 7 v).bind (decAll (decBl r))
section
open Go.AM
variable {r r' : Rdr} (h : ∀ b xs, r b = some xs → r' b = some xs)
include h
theorem rows_mono {s : Nat} {v : Value} {x : List (List Value)} (k : rows r s v = some x) : rows r' s v = some x := by
 unfold rows at k ⊢
 split at k
 ·exact k
 ·rename_i b o n s'
  cases hb : r b with
  | none => rw [hb] at k; cases k
  | some xs => rw [hb] at k; rw [h b xs hb]; exact k
 ·cases k
theorem decBl_mono {cs : List Value} {b : Bl} (k : decBl r cs = some b) : decBl r' cs = some b := by
 unfold decBl at k ⊢
 split at k
 ·rename_i l p q vi _ a y n
  cases hv : rows r 7 vi with
  | none => rw [hv] at k; cases k
  | some x => rw [hv] at k; rw [rows_mono h hv]; exact k
 ·cases k
theorem decAll_mono {l : List (List Value)} : ∀ {bs : List Bl}, decAll (decBl r) l = some bs → decAll (decBl r') l = some bs := by
 induction l with
 | nil => intro bs k; exact k
 | cons x l ih =>
   intro bs k
   unfold decAll at k ⊢
   cases hx : decBl r x with
   | none => rw [hx] at k; cases k
   | some a =>
     rw [hx] at k
     rw [decBl_mono h hx]
     cases hl : decAll (decBl r) l with
     | none => rw [hl] at k; cases k
     | some t => rw [hl] at k; rw [ih hl]; exact k
theorem decP_mono {v : Value} {bs : List Bl} (k : decP r v = some bs) : decP r' v = some bs := by
 unfold decP at k ⊢
 cases hv : rows r 7 v with
 | none => rw [hv] at k; cases k
 | some x => rw [hv] at k; rw [rows_mono h hv]; exact decAll_mono h k
end
end Go.Proofs
namespace Go.AM
open Go.Proofs
def txtsEq : List Value → List (List UInt8) → Bool
 | [], [] => true
 | .string s :: xs, l :: ls => decide (s.data.toList = l) && txtsEq xs ls
 | _, _ => false
theorem txtsEq_eq : ∀ {xs : List Value} {ls : List (List UInt8)}, txtsEq xs ls = true → xs = ls.map fun l => Value.string ⟨l.toArray⟩
 | [], [], _ => rfl
 | .string s :: xs, l :: ls, h => by
   unfold txtsEq at h
   rw [Bool.and_eq_true, decide_eq_true_eq] at h
   rw [List.map_cons, ← txtsEq_eq h.2, ← h.1]
 | [], _ :: _, h => by simp [txtsEq] at h
 | .string _ :: _, [], h => by simp [txtsEq] at h
 | .bool _ :: _, _, h => by simp [txtsEq] at h
 | .int _ _ :: _, _, h => by simp [txtsEq] at h
 | .agg _ :: _, _, h => by simp [txtsEq] at h
 | .tuple _ :: _, _, h => by simp [txtsEq] at h
 | .pointer _ :: _, _, h => by simp [txtsEq] at h
 | .slice _ _ _ :: _, _, h => by simp [txtsEq] at h
 | .map _ :: _, _, h => by simp [txtsEq] at h
 | .iface _ _ :: _, _, h => by simp [txtsEq] at h
 | .nilIface :: _, _, h => by simp [txtsEq] at h
 | .nilFunc :: _, _, h => by simp [txtsEq] at h
 | .func _ _ _ :: _, _, h => by simp [txtsEq] at h
 | .chan _ :: _, _, h => by simp [txtsEq] at h
 | .float _ _ :: _, _, h => by simp [txtsEq] at h
 | .complex _ _ _ :: _, _, h => by simp [txtsEq] at h
def namesIn (gn : Nat) (r : Rdr) : Bool := match r gn with | some xs => txtsEq xs namesL | none => false
theorem namesIn_mono {gn : Nat} {r r' : Rdr} (h : ∀ b xs, r b = some xs → r' b = some xs) (k : namesIn gn r = true) : namesIn gn r' = true := by
 unfold namesIn at k ⊢
 cases hr : r gn with
 | none => rw [hr] at k; cases k
 | some xs => rw [hr] at k; rw [h _ _ hr]; exact k
def gSIf (vs : List Value) : Option Value := match vs with
 | [.agg cs] => (decIn cs.toList).bind fun x => if x.Ok then some (.string ⟨x.txt.toArray⟩) else none
 | _ => none
def named (gn : Nat) (x : Look) : Look := ⟨fun r vs => if namesIn gn r = true then x.g r vs else none, fun h k => by
 split at k
 ·rename_i hc; rw [if_pos (namesIn_mono h hc)]; exact x.mono h k
 ·cases k⟩
def gSI (gn : Nat) : Look := named gn (.of gSIf)
def gSLf (vs : List Value) : Option Value := match vs with
 | [.agg cs] => (decLa cs.toList).bind fun x => if x.Ok then some (.string ⟨x.txt.toArray⟩) else none
 | _ => none
def gSL : Look := .of gSLf
def gSPf (r : Rdr) (vs : List Value) : Option Value := match vs with
 | [.agg cs] => (match cs.toList with | [v] => (decP r v).bind fun bs => if ProgOk bs then some (.string ⟨(progT bs).toArray⟩) else none | _ => none)
 | _ => none
def gSP0 : Look := ⟨gSPf, fun {r r' vs v} h k => by
 unfold gSPf at k ⊢
 split at k
 ·rename_i cs
  split at k
  ·rename_i x hx
   cases hd : decP r x with
   | none => rw [hd] at k; cases k
   | some bs => rw [hd] at k; rw [decP_mono h hd]; exact k
  ·cases k
 ·cases k⟩
def gSP (gn : Nat) : Look := named gn gSP0
end Go.AM
