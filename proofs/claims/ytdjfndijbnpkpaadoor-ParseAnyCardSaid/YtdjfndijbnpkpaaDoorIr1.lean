/-
  Contracts of the functions on instructions and ends.
-/
import Derived.Test.YtdjfndijbnpkpaaDoorShA
set_option linter.unusedVariables false
set_option linter.unusedSimpArgs false
set_option linter.unusedSectionVars false
namespace Go.Proofs.YtdjfndijbnpkpaaDoor.Sh
open Go Go.AM Go.Proofs
structure Instr where
 kind : Int
 op : Int
 dst : Int
 a : Int
 b : Int
 n : Int
 slot : Int
 deriving DecidableEq
structure Last where
 kind : Int
 a : Int
 yes : Int
 no : Int
 deriving DecidableEq
def vI (x : Instr) : Value := .agg #[U x.kind, U x.op, I x.dst, I x.a, I x.b, I x.n, I x.slot]
def cI (x : Instr) : List Value := [U x.kind, U x.op, I x.dst, I x.a, I x.b, I x.n, I x.slot]
def vL (x : Last) : Value := .agg #[U x.kind, I x.a, I x.yes, I x.no]
section
set_option linter.unusedSimpArgs false
set_option linter.unusedSectionVars false
@[simp] theorem sLbox_vI (x : Instr) (st : St) : sLbox (vI x) st = .ok (vI x, st.bump) := rfl
@[simp] theorem sLref_vI (x : Instr) (st : St) : sLref (vI x) st = .ok (nothing, st) := rfl
@[simp] theorem isTuple_vI (x : Instr) : isTuple (vI x) = false := rfl
@[simp] theorem sField_vI_kind (x : Instr) (st : St) : sField none 0 (vI x) st = .ok (U x.kind, st) := rfl
@[simp] theorem sField_vI_op (x : Instr) (st : St) : sField none 1 (vI x) st = .ok (U x.op, st) := rfl
@[simp] theorem sField_vI_dst (x : Instr) (st : St) : sField none 2 (vI x) st = .ok (I x.dst, st) := rfl
@[simp] theorem sField_vI_a (x : Instr) (st : St) : sField none 3 (vI x) st = .ok (I x.a, st) := rfl
@[simp] theorem sField_vI_b (x : Instr) (st : St) : sField none 4 (vI x) st = .ok (I x.b, st) := rfl
@[simp] theorem sField_vI_n (x : Instr) (st : St) : sField none 5 (vI x) st = .ok (I x.n, st) := rfl
@[simp] theorem sField_vI_slot (x : Instr) (st : St) : sField none 6 (vI x) st = .ok (I x.slot, st) := rfl
@[simp] theorem sField_vI (x : Instr) (st : St) : sField (some 7) 0 (vI x) st = .ok (vI x, st) := rfl
@[simp] theorem sUpd_vI (x y : Instr) (st : St) : sUpd 7 0 (vI y) (vI x) st = .ok (vI x, st) := by simp [vI, Res.need]
@[simp] theorem sUpd_vI_dst (x : Instr) (n : Int) (st : St) : sUpd 1 2 (vI x) (I n) st = .ok (vI { x with dst := n }, st) := by simp [vI, Res.need]
@[simp] theorem sUpd_vI_a (x : Instr) (n : Int) (st : St) : sUpd 1 3 (vI x) (I n) st = .ok (vI { x with a := n }, st) := by simp [vI, Res.need]
@[simp] theorem sUpd_vI_b (x : Instr) (n : Int) (st : St) : sUpd 1 4 (vI x) (I n) st = .ok (vI { x with b := n }, st) := by simp [vI, Res.need]
@[simp] theorem sLbox_vL (x : Last) (st : St) : sLbox (vL x) st = .ok (vL x, st.bump) := rfl
@[simp] theorem sLref_vL (x : Last) (st : St) : sLref (vL x) st = .ok (nothing, st) := rfl
@[simp] theorem isTuple_vL (x : Last) : isTuple (vL x) = false := rfl
@[simp] theorem sField_vL_kind (x : Last) (st : St) : sField none 0 (vL x) st = .ok (U x.kind, st) := rfl
@[simp] theorem sField_vL_a (x : Last) (st : St) : sField none 1 (vL x) st = .ok (I x.a, st) := rfl
@[simp] theorem sField_vL_yes (x : Last) (st : St) : sField none 2 (vL x) st = .ok (I x.yes, st) := rfl
@[simp] theorem sField_vL_no (x : Last) (st : St) : sField none 3 (vL x) st = .ok (I x.no, st) := rfl
@[simp] theorem sField_vL (x : Last) (st : St) : sField (some 4) 0 (vL x) st = .ok (vL x, st) := rfl
@[simp] theorem sUpd_vL (x y : Last) (st : St) : sUpd 4 0 (vL y) (vL x) st = .ok (vL x, st) := by simp [vL, Res.need]
@[simp] theorem sUpd_vL_kind (x : Last) (n : Int) (st : St) : sUpd 1 0 (vL x) (U n) st = .ok (vL { x with kind := n }, st) := by simp [vL, Res.need]
@[simp] theorem sUpd_vL_a (x : Last) (n : Int) (st : St) : sUpd 1 1 (vL x) (I n) st = .ok (vL { x with a := n }, st) := by simp [vL, Res.need]
@[simp] theorem sUpd_vL_yes (x : Last) (n : Int) (st : St) : sUpd 1 2 (vL x) (I n) st = .ok (vL { x with yes := n }, st) := by simp [vL, Res.need]
@[simp] theorem sUpd_vL_no (x : Last) (n : Int) (st : St) : sUpd 1 3 (vL x) (I n) st = .ok (vL { x with no := n }, st) := by simp [vL, Res.need]
end
def RInt (cs : List Value) (n : Int) : Prop := cs = [I n]
def Instr.sets (x : Instr) : Int × Bool := if x.kind = 0 ∨ x.kind = 1 ∨ x.kind = 2 ∨ x.kind = 3 ∨ x.kind = 5 ∨ x.kind = 7 then (x.dst, true) else (0, false)
def Instr.reads (x : Instr) : List Int := if x.kind = 1 ∨ x.kind = 4 ∨ x.kind = 6 ∨ x.kind = 7 then [x.a] else if x.kind = 2 ∨ x.kind = 8 then [x.a, x.b] else []
def Instr.pure (x : Instr) : Bool := x.kind = 0 ∨ x.kind = 1 ∨ (x.kind = 2 ∧ x.op ≠ 3 ∧ x.op ≠ 4)
def Instr.only (x : Instr) : Instr :=
 { kind := x.kind, dst := x.sets.1, a := x.reads.headD 0, b := x.reads.tail.headD 0, n := if x.kind = 0 then x.n else 0, op := if x.kind = 2 then x.op else 0, slot := if x.kind = 5 ∨ x.kind = 6 then x.slot else 0 }
theorem only_only (x : Instr) : x.only.only = x.only := by
 obtain ⟨k, o, d, a, b, n, s⟩ := x
 have h : k = 0 ∨ k = 1 ∨ k = 2 ∨ k = 3 ∨ k = 4 ∨ k = 5 ∨ k = 6 ∨ k = 7 ∨ k = 8 ∨ (k ≠ 0 ∧ k ≠ 1 ∧ k ≠ 2 ∧ k ≠ 3 ∧ k ≠ 4 ∧ k ≠ 5 ∧ k ≠ 6 ∧ k ≠ 7 ∧ k ≠ 8) := by omega
 rcases h with rfl | rfl | rfl | rfl | rfl | rfl | rfl | rfl | rfl | h <;> simp [Instr.only, Instr.sets, Instr.reads]
 simp [h]
def isReg (n : Int) : Bool := 0 ≤ n ∧ n < 100000
def Instr.check (x : Instr) : Int :=
 if 9 ≤ x.kind ∨ x.kind = 2 ∧ 12 ≤ x.op then 6 else if x ≠ x.only then 5 else if !isReg x.dst ∨ !isReg x.a ∨ !isReg x.b ∨ x.slot < 0 ∨ 16 ≤ x.slot then 2 else 0
def Last.reads (l : Last) : Int × Bool := (l.a, l.kind = 1 ∨ l.kind = 2)
def Last.labels (l : Last) : List Int := if l.kind = 0 ∨ l.kind = 1 ∧ l.yes = l.no then [l.yes] else if l.kind = 1 then [l.yes, l.no] else []
def Last.only (l : Last) : Last :=
 { kind := l.kind, a := if l.kind = 1 ∨ l.kind = 2 then l.a else 0, yes := if l.kind = 0 ∨ l.kind = 1 then l.yes else 0, no := if l.kind = 1 then l.no else 0 }
theorem _root_.Go.AM.RSl.in {α : Type} {A A' : Nat → Prop} {st : St} {s : Nat} {R : List Value → α → Prop} {v : Value} {l : List α} (h : RSl A st s R v l) (hA : ∀ id, A id → A' id) : RSl A' st s R v l := h.mono hA (Agree.refl _ _) (fun _ _ _ h => h)
theorem _root_.Go.AM.Ok.eq {α : Type} {x : Res α} {c : α} (h : Ok x fun r => r = c) : x = .ok c := by
 obtain ⟨a, h1, h2⟩ := h
 rw [h1, h2]
theorem rsl_ints {A : Nat → Prop} {st : St} {b : Nat} (l rest : List Int) (h : st.get b = some (.cells ((l ++ rest).map I))) (ha : A b) : RSl A st 1 RInt (Sl b 0 l.length 1) l := by
 refine .inr ⟨b, 0, _, rfl, ha, h, by simp, fun i x hx => ?_⟩
 have hi := (List.getElem?_eq_some_iff.1 hx).1
 have : ((l ++ rest).map I)[i]? = some (I x) := by rw [List.getElem?_map, List.getElem?_append_left hi, hx]; rfl
 simp only [Nat.zero_add, Nat.mul_one, RInt]
 have hlt : i < ((l ++ rest).map I).length := by simp; omega
 rw [List.drop_eq_getElem_cons hlt, List.take_succ_cons, List.take_zero]
 rw [List.getElem?_eq_getElem hlt] at this
 simpa using this
@[simp] theorem sLit1 (a : Int) (st : St) : sLit 1 1 [I 0] [(0, 1, I a)] st = .ok (Sl st.next 0 1 1, st.alloc (.cells [I a])) := rfl
@[simp] theorem sLit2 (a b : Int) (st : St) : sLit 1 2 [I 0, I 0] [(0, 1, I a), (1, 1, I b)] st = .ok (Sl st.next 0 2 1, st.alloc (.cells [I a, I b])) := rfl
variable {K : Ctx} (hF : Fix pgF K)
include hF
theorem Sets_ok (x : Instr) (st : St) : Ok (K.go (.call n_ir_Instr_Sets [vI x]) st) fun r => r.1 = .tuple #[I x.sets.1, B x.sets.2] ∧ Ext st r.2 := by
 refine ir_Instr_Sets_of hF fun J hJ => ?_
 rw [ir_Instr_Sets_eq]
 have h : x.kind = 0 ∨ x.kind = 1 ∨ x.kind = 2 ∨ x.kind = 3 ∨ x.kind = 5 ∨ x.kind = 7 ∨ (x.kind ≠ 0 ∧ x.kind ≠ 1 ∧ x.kind ≠ 2 ∧ x.kind ≠ 3 ∧ x.kind ≠ 5 ∧ x.kind ≠ 7) := by omega
 rcases h with h | h | h | h | h | h | h <;> simp [vI, h, ir_Instr_Sets_j0_eq hJ, ir_Instr_Sets_j1_eq hJ, Instr.sets]
theorem Reads_ok (x : Instr) (st : St) : Ok (K.go (.call n_ir_Instr_Reads [vI x]) st) fun r => RSl (Rng st.next r.2.next) r.2 1 RInt r.1 x.reads ∧ Ext st r.2 := by
 refine ir_Instr_Reads_of hF fun J hJ => ?_
 rw [ir_Instr_Reads_eq]
 have h : x.kind = 1 ∨ x.kind = 4 ∨ x.kind = 6 ∨ x.kind = 7 ∨ x.kind = 2 ∨ x.kind = 8 ∨ (x.kind ≠ 1 ∧ x.kind ≠ 4 ∧ x.kind ≠ 6 ∧ x.kind ≠ 7 ∧ x.kind ≠ 2 ∧ x.kind ≠ 8) := by omega
 rcases h with h | h | h | h | h | h | h <;>
  simp [vI, h, ir_Instr_Reads_j0_eq hJ, ir_Instr_Reads_j1_eq hJ, ir_Instr_Reads_j2_eq hJ, Instr.reads] <;>
  first
  | exact rsl_ints [_] [] (by simp) (by simp [Rng])
  | exact rsl_ints [_, _] [] (by simp) (by simp [Rng])
  | exact RSl.nil _ _ _ _ _
theorem LReads_ok (l : Last) (st : St) : Ok (K.go (.call n_ir_Last_Reads [vL l]) st) fun r => r.1 = .tuple #[I l.reads.1, B l.reads.2] ∧ Ext st r.2 := by
 refine ir_Last_Reads_of hF fun J hJ => ?_
 rw [ir_Last_Reads_eq]
 have h : l.kind = 1 ∨ l.kind = 2 ∨ (l.kind ≠ 1 ∧ l.kind ≠ 2) := by omega
 rcases h with h | h | h <;> simp [vL, h, Last.reads]
theorem Labels_ok (l : Last) (st : St) : Ok (K.go (.call n_ir_Last_Labels [vL l]) st) fun r => RSl (Rng st.next r.2.next) r.2 1 RInt r.1 l.labels ∧ Ext st r.2 := by
 refine ir_Last_Labels_of hF fun J hJ => ?_
 rw [ir_Last_Labels_eq]
 have h : l.kind = 0 ∨ l.kind = 1 ∨ (l.kind ≠ 0 ∧ l.kind ≠ 1) := by omega
 by_cases hy : l.yes = l.no <;> rcases h with h | h | h <;> simp [vL, h, hy, Last.labels, ir_Last_Labels_j0_eq hJ] <;>
  first
  | exact rsl_ints [_] [] (by simp) (by simp [Rng])
  | exact rsl_ints [_, _] [] (by simp) (by simp [Rng])
  | exact RSl.nil _ _ _ _ _
theorem reg_eq (n : Int) (st : St) : K.go (.call n_ir_reg [I n]) st = .ok (B (isReg n), st) := by
 refine Ok.eq (ir_reg_of hF fun J hJ => ?_)
 rw [ir_reg_eq]
 by_cases h : 0 ≤ n <;> simp [h, isReg]
theorem Only_ok (x : Instr) (st : St) : Ok (K.go (.call n_ir_Instr_Only [vI x]) st) fun r => r.1 = vI x.only ∧ Ext st r.2 := by
 refine ir_Instr_Only_of hF fun J hJ => ?_
 rw [ir_Instr_Only_eq]
 simp [vI, sBuild, fillL, Res.need]
 refine (Sets_ok hF x _).call fun s hE1 => ?_
 simp [Res.need]
 refine (Reads_ok hF x _).thn fun q hq => ?_
 obtain ⟨hv, hE2⟩ := hq
 have hE : Ext st q.2 := by refine (Ext.trans ?_ hE1).trans hE2; simp
 have fin : ∀ (a b : Int), a = x.reads.headD 0 → b = x.reads.tail.headD 0 → Ok (ir_Instr_Only_j0 J (vI x) (vI ⟨0, 0, 0, 0, 0, 0, 0⟩) (vI ⟨x.kind, 0, x.sets.1, a, b, 0, 0⟩) q.2) fun r => r.1 = vI x.only ∧ Ext st r.2 := by
  intro a b ha hb
  rw [ir_Instr_Only_j0_eq hJ]
  have h : x.kind = 0 ∨ x.kind = 2 ∨ x.kind = 5 ∨ x.kind = 6 ∨ (x.kind ≠ 0 ∧ x.kind ≠ 2 ∧ x.kind ≠ 5 ∧ x.kind ≠ 6) := by omega
  rcases h with h | h | h | h | h <;>
   simp [h, Res.need, ir_Instr_Only_j1_eq hJ, ir_Instr_Only_j2_eq hJ, oneOf, vI, Instr.only, ha, hb, hE]
 have h : x.reads = [] ∨ (∃ a, x.reads = [a]) ∨ ∃ a b, x.reads = [a, b] := by
  unfold Instr.reads
  split
  ·simp
  ·split <;> simp
 rcases h with h | ⟨a, h⟩ | ⟨a, b, h⟩
 ·rw [h] at hv
  simp [hv.len]
  exact fin 0 0 (by simp [h]) (by simp [h])
 ·rw [h] at hv
  obtain ⟨c, o, i1, i2, i3⟩ := hv.at1 (f := I) (i := 0) (x := a) rfl
  simp at i1
  simp [hv.len, i1, i2 _ (Agree.refl _ _), Res.need]
  exact fin a 0 (by simp [h]) (by simp [h])
 ·rw [h] at hv
  obtain ⟨c, o, i1, i2, i3⟩ := hv.at1 (f := I) (i := 0) (x := a) rfl
  obtain ⟨c', o', j1, j2, j3⟩ := hv.at1 (f := I) (i := 1) (x := b) rfl
  simp at i1 j1
  simp [hv.len, i1, j1, i2 _ (Agree.refl _ _), j2 _ (Agree.refl _ _), Res.need, sStays, sameVal, sameOne, sameCell, idOf]
  exact fin a b (by simp [h]) (by simp [h])
theorem LOnly_ok (l : Last) (st : St) : Ok (K.go (.call n_ir_Last_Only [vL l]) st) fun r => r.1 = vL l.only ∧ Ext st r.2 := by
 refine ir_Last_Only_of hF fun J hJ => ?_
 rw [ir_Last_Only_eq]
 simp [vL, sBuild, fillL, Res.need]
 refine (LReads_ok hF l _).call fun s hE1 => ?_
 have hE : Ext st s := by refine Ext.trans ?_ hE1; simp
 have h : l.kind = 0 ∨ l.kind = 1 ∨ l.kind = 2 ∨ (l.kind ≠ 0 ∧ l.kind ≠ 1 ∧ l.kind ≠ 2) := by omega
 rcases h with h | h | h | h <;>
  simp [Res.need, h, Last.reads, Last.only, ir_Last_Only_j0_eq hJ, ir_Last_Only_j1_eq hJ, oneOf, sStays, sameVal, sameOne, sameCell, idOf, hE]
end Go.Proofs.YtdjfndijbnpkpaaDoor.Sh
