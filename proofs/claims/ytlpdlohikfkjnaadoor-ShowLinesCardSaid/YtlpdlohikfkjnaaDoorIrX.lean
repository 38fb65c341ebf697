/-
 Contracts of the functions on instructions and ends.
 Structs compared; sets of numbers; Instr.check.
 Contracts: Last.check, Phi.check.
 Contracts: Program.Count, Program.Check.
 Contract: Program.Check.
 Contracts: slices.Equal on numbers; Awake of layer 3.
 Programs in memory, in blocks of their own.
 Contract: Same.
 What the laws of layer 3 are given, opened.
-/
import Derived.Test.YtlpdlohikfkjnaaDoorShA
import Derived.Test.YtlpdlohikfkjnaaDoorAmC
section
set_option linter.unusedVariables false
set_option linter.unusedSimpArgs false
set_option linter.unusedSectionVars false
namespace Go.Proofs.YtlpdlohikfkjnaaDoor.Sh
open Go Go.AM Go.Proofs
structure Instr where
 kind : Int
 op : Int
 dst : Int
 a : Int
 b : Int
 n : Int
 slot : Int
 deriving DecidableEq
structure Last where
 kind : Int
 a : Int
 yes : Int
 no : Int
 deriving DecidableEq
def vI (x : Instr) : Value := .agg #[U x.kind, U x.op, I x.dst, I x.a, I x.b, I x.n, I x.slot]
def cI (x : Instr) : List Value := [U x.kind, U x.op, I x.dst, I x.a, I x.b, I x.n, I x.slot]
def vL (x : Last) : Value := .agg #[U x.kind, I x.a, I x.yes, I x.no]
section
set_option linter.unusedSimpArgs false
set_option linter.unusedSectionVars false
@[simp] theorem sLbox_vI (x : Instr) (st : St) : sLbox (vI x) st = .ok (vI x, st.bump) := rfl
@[simp] theorem sLref_vI (x : Instr) (st : St) : sLref (vI x) st = .ok (nothing, st) := rfl
@[simp] theorem isTuple_vI (x : Instr) : isTuple (vI x) = false := rfl
@[simp] theorem sameVal_vI (x : Instr) : sameVal (vI x) (vI x) = true := by simp [sameVal, sameOne, sameCells, sameCell, vI]
@[simp] theorem sField_vI_kind (x : Instr) (st : St) : sField none 0 (vI x) st = .ok (U x.kind, st) := rfl
@[simp] theorem sField_vI_op (x : Instr) (st : St) : sField none 1 (vI x) st = .ok (U x.op, st) := rfl
@[simp] theorem sField_vI_dst (x : Instr) (st : St) : sField none 2 (vI x) st = .ok (I x.dst, st) := rfl
@[simp] theorem sField_vI_a (x : Instr) (st : St) : sField none 3 (vI x) st = .ok (I x.a, st) := rfl
@[simp] theorem sField_vI_b (x : Instr) (st : St) : sField none 4 (vI x) st = .ok (I x.b, st) := rfl
@[simp] theorem sField_vI_n (x : Instr) (st : St) : sField none 5 (vI x) st = .ok (I x.n, st) := rfl
@[simp] theorem sField_vI_slot (x : Instr) (st : St) : sField none 6 (vI x) st = .ok (I x.slot, st) := rfl
@[simp] theorem sField_vI (x : Instr) (st : St) : sField (some 7) 0 (vI x) st = .ok (vI x, st) := rfl
@[simp] theorem sLbox_vL (x : Last) (st : St) : sLbox (vL x) st = .ok (vL x, st.bump) := rfl
@[simp] theorem sLref_vL (x : Last) (st : St) : sLref (vL x) st = .ok (nothing, st) := rfl
@[simp] theorem isTuple_vL (x : Last) : isTuple (vL x) = false := rfl
@[simp] theorem sField_vL_kind (x : Last) (st : St) : sField none 0 (vL x) st = .ok (U x.kind, st) := rfl
@[simp] theorem sField_vL_a (x : Last) (st : St) : sField none 1 (vL x) st = .ok (I x.a, st) := rfl
@[simp] theorem sField_vL_yes (x : Last) (st : St) : sField none 2 (vL x) st = .ok (I x.yes, st) := rfl
@[simp] theorem sField_vL_no (x : Last) (st : St) : sField none 3 (vL x) st = .ok (I x.no, st) := rfl
@[simp] theorem sField_vL (x : Last) (st : St) : sField (some 4) 0 (vL x) st = .ok (vL x, st) := rfl
end
def RInt (cs : List Value) (n : Int) : Prop := cs = [I n]
def Instr.sets (x : Instr) : Int × Bool := if x.kind = 0 ∨ x.kind = 1 ∨ x.kind = 2 ∨ x.kind = 3 ∨ x.kind = 5 ∨ x.kind = 7 then (x.dst, true) else (0, false)
def Instr.reads (x : Instr) : List Int := if x.kind = 1 ∨ x.kind = 4 ∨ x.kind = 6 ∨ x.kind = 7 then [x.a] else if x.kind = 2 ∨ x.kind = 8 then [x.a, x.b] else []
def Instr.pure (x : Instr) : Bool := x.kind = 0 ∨ x.kind = 1 ∨ (x.kind = 2 ∧ x.op ≠ 3 ∧ x.op ≠ 4)
def Instr.only (x : Instr) : Instr :=
 { kind := x.kind, dst := x.sets.1, a := x.reads.headD 0, b := x.reads.tail.headD 0, n := if x.kind = 0 then x.n else 0, op := if x.kind = 2 then x.op else 0, slot := if x.kind = 5 ∨ x.kind = 6 then x.slot else 0 }
theorem only_only (x : Instr) : x.only.only = x.only := by
 obtain ⟨k, o, d, a, b, n, s⟩ := x
 have h : k = 0 ∨ k = 1 ∨ k = 2 ∨ k = 3 ∨ k = 4 ∨ k = 5 ∨ k = 6 ∨ k = 7 ∨ k = 8 ∨ (k ≠ 0 ∧ k ≠ 1 ∧ k ≠ 2 ∧ k ≠ 3 ∧ k ≠ 4 ∧ k ≠ 5 ∧ k ≠ 6 ∧ k ≠ 7 ∧ k ≠ 8) := by omega
 rcases h with rfl | rfl | rfl | rfl | rfl | rfl | rfl | rfl | rfl | h <;> simp [Instr.only, Instr.sets, Instr.reads]
 simp [h]
def isReg (n : Int) : Bool := 0 ≤ n ∧ n < 100000
def Instr.check (x : Instr) : Int :=
 if 9 ≤ x.kind ∨ x.kind = 2 ∧ 12 ≤ x.op then 6 else if x ≠ x.only then 5 else if !isReg x.dst ∨ !isReg x.a ∨ !isReg x.b ∨ x.slot < 0 ∨ 16 ≤ x.slot then 2 else 0
def Last.reads (l : Last) : Int × Bool := (l.a, l.kind = 1 ∨ l.kind = 2)
def Last.labels (l : Last) : List Int := if l.kind = 0 ∨ l.kind = 1 ∧ l.yes = l.no then [l.yes] else if l.kind = 1 then [l.yes, l.no] else []
def Last.only (l : Last) : Last :=
 { kind := l.kind, a := if l.kind = 1 ∨ l.kind = 2 then l.a else 0, yes := if l.kind = 0 ∨ l.kind = 1 then l.yes else 0, no := if l.kind = 1 then l.no else 0 }
theorem _root_.Go.AM.RSl.in {α : Type} {A A' : Nat → Prop} {st : St} {s : Nat} {R : List Value → α → Prop} {v : Value} {l : List α} (h : RSl A st s R v l) (hA : ∀ id, A id → A' id) : RSl A' st s R v l := h.mono hA (Agree.refl _ _) (fun _ _ _ h => h)
theorem _root_.Go.AM.Ok.eq {α : Type} {x : Res α} {c : α} (h : Ok x fun r => r = c) : x = .ok c := by
 obtain ⟨a, h1, h2⟩ := h
 rw [h1, h2]
theorem rsl_ints {A : Nat → Prop} {st : St} {b : Nat} (l rest : List Int) (h : st.get b = some (.cells ((l ++ rest).map I))) (ha : A b) : RSl A st 1 RInt (Sl b 0 l.length 1) l := by
 refine .inr ⟨b, 0, _, rfl, ha, h, by simp, fun i x hx => ?_⟩
 have hi := (List.getElem?_eq_some_iff.1 hx).1
 have : ((l ++ rest).map I)[i]? = some (I x) := by rw [List.getElem?_map, List.getElem?_append_left hi, hx]; rfl
 simp only [Nat.zero_add, Nat.mul_one, RInt]
 have hlt : i < ((l ++ rest).map I).length := by simp; omega
 rw [List.drop_eq_getElem_cons hlt, List.take_succ_cons, List.take_zero]
 rw [List.getElem?_eq_getElem hlt] at this
 simpa using this
@[simp] theorem sLit1 (a : Int) (st : St) : sLit 1 1 [I 0] [(0, 1, I a)] st = .ok (Sl st.next 0 1 1, st.alloc (.cells [I a])) := rfl
@[simp] theorem sLit2 (a b : Int) (st : St) : sLit 1 2 [I 0, I 0] [(0, 1, I a), (1, 1, I b)] st = .ok (Sl st.next 0 2 1, st.alloc (.cells [I a, I b])) := rfl
variable {K : Ctx} (hF : Fix pgF K)
include hF
theorem Sets_ok (x : Instr) (st : St) : Ok (K.go (.call n_ir_Instr_Sets [vI x]) st) fun r => r.1 = .tuple #[I x.sets.1, B x.sets.2] ∧ Ext st r.2 := by
 refine ir_Instr_Sets_of hF fun J hJ => ?_
 rw [ir_Instr_Sets_eq]
 have h : x.kind = 0 ∨ x.kind = 1 ∨ x.kind = 2 ∨ x.kind = 3 ∨ x.kind = 5 ∨ x.kind = 7 ∨ (x.kind ≠ 0 ∧ x.kind ≠ 1 ∧ x.kind ≠ 2 ∧ x.kind ≠ 3 ∧ x.kind ≠ 5 ∧ x.kind ≠ 7) := by omega
 rcases h with h | h | h | h | h | h | h <;> simp [vI, h, ir_Instr_Sets_j0_eq hJ, ir_Instr_Sets_j1_eq hJ, Instr.sets]
theorem Reads_ok (x : Instr) (st : St) : Ok (K.go (.call n_ir_Instr_Reads [vI x]) st) fun r => RSl (Rng st.next r.2.next) r.2 1 RInt r.1 x.reads ∧ Ext st r.2 := by
 refine ir_Instr_Reads_of hF fun J hJ => ?_
 rw [ir_Instr_Reads_eq]
 have h : x.kind = 1 ∨ x.kind = 4 ∨ x.kind = 6 ∨ x.kind = 7 ∨ x.kind = 2 ∨ x.kind = 8 ∨ (x.kind ≠ 1 ∧ x.kind ≠ 4 ∧ x.kind ≠ 6 ∧ x.kind ≠ 7 ∧ x.kind ≠ 2 ∧ x.kind ≠ 8) := by omega
 rcases h with h | h | h | h | h | h | h <;>
  simp [vI, h, ir_Instr_Reads_j0_eq hJ, ir_Instr_Reads_j1_eq hJ, ir_Instr_Reads_j2_eq hJ, Instr.reads] <;>
  first
  | exact rsl_ints [_] [] (by simp) (by simp [Rng])
  | exact rsl_ints [_, _] [] (by simp) (by simp [Rng])
  | exact RSl.nil _ _ _ _ _
theorem LReads_ok (l : Last) (st : St) : Ok (K.go (.call n_ir_Last_Reads [vL l]) st) fun r => r.1 = .tuple #[I l.reads.1, B l.reads.2] ∧ Ext st r.2 := by
 refine ir_Last_Reads_of hF fun J hJ => ?_
 rw [ir_Last_Reads_eq]
 have h : l.kind = 1 ∨ l.kind = 2 ∨ (l.kind ≠ 1 ∧ l.kind ≠ 2) := by omega
 rcases h with h | h | h <;> simp [vL, h, Last.reads]
theorem Only_ok (x : Instr) (st : St) : Ok (K.go (.call n_ir_Instr_Only [vI x]) st) fun r => r.1 = vI x.only ∧ Ext st r.2 := by
 refine ir_Instr_Only_of hF fun J hJ => ?_
 rw [ir_Instr_Only_eq]
 simp [vI, sBuild, fillL, Res.need]
 refine (Sets_ok hF x _).call fun s hE1 => ?_
 simp [Res.need]
 refine (Reads_ok hF x _).thn fun q hq => ?_
 obtain ⟨hv, hE2⟩ := hq
 have hE : Ext st q.2 := by refine (Ext.trans ?_ hE1).trans hE2; simp
 have fin : ∀ (a b : Int), a = x.reads.headD 0 → b = x.reads.tail.headD 0 → Ok (ir_Instr_Only_j0 J (vI x) (vI ⟨0, 0, 0, 0, 0, 0, 0⟩) (vI ⟨x.kind, 0, x.sets.1, a, b, 0, 0⟩) q.2) fun r => r.1 = vI x.only ∧ Ext st r.2 := by
  intro a b ha hb
  rw [ir_Instr_Only_j0_eq hJ]
  have h : x.kind = 0 ∨ x.kind = 2 ∨ x.kind = 5 ∨ x.kind = 6 ∨ (x.kind ≠ 0 ∧ x.kind ≠ 2 ∧ x.kind ≠ 5 ∧ x.kind ≠ 6) := by omega
  rcases h with h | h | h | h | h <;>
   simp [h, Res.need, ir_Instr_Only_j1_eq hJ, ir_Instr_Only_j2_eq hJ, oneOf, vI, Instr.only, ha, hb, hE]
 have h : x.reads = [] ∨ (∃ a, x.reads = [a]) ∨ ∃ a b, x.reads = [a, b] := by
  unfold Instr.reads
  split
  ·simp
  ·split <;> simp
 rcases h with h | ⟨a, h⟩ | ⟨a, b, h⟩
 ·rw [h] at hv
  simp [hv.len]
  exact fin 0 0 (by simp [h]) (by simp [h])
 ·rw [h] at hv
  obtain ⟨c, o, i1, i2, i3⟩ := hv.at1 (f := I) (i := 0) (x := a) rfl
  simp at i1
  simp [hv.len, i1, i2 _ (Agree.refl _ _), Res.need]
  exact fin a 0 (by simp [h]) (by simp [h])
 ·rw [h] at hv
  obtain ⟨c, o, i1, i2, i3⟩ := hv.at1 (f := I) (i := 0) (x := a) rfl
  obtain ⟨c', o', j1, j2, j3⟩ := hv.at1 (f := I) (i := 1) (x := b) rfl
  simp at i1 j1
  simp [hv.len, i1, j1, i2 _ (Agree.refl _ _), j2 _ (Agree.refl _ _), Res.need, sStays, sameVal, sameOne, sameCell, idOf]
  exact fin a b (by simp [h]) (by simp [h])
theorem LOnly_ok (l : Last) (st : St) : Ok (K.go (.call n_ir_Last_Only [vL l]) st) fun r => r.1 = vL l.only ∧ Ext st r.2 := by
 refine ir_Last_Only_of hF fun J hJ => ?_
 rw [ir_Last_Only_eq]
 simp [vL, sBuild, fillL, Res.need]
 refine (LReads_ok hF l _).call fun s hE1 => ?_
 have hE : Ext st s := by refine Ext.trans ?_ hE1; simp
 have h : l.kind = 0 ∨ l.kind = 1 ∨ l.kind = 2 ∨ (l.kind ≠ 0 ∧ l.kind ≠ 1 ∧ l.kind ≠ 2) := by omega
 rcases h with h | h | h | h <;>
  simp [Res.need, h, Last.reads, Last.only, ir_Last_Only_j0_eq hJ, ir_Last_Only_j1_eq hJ, oneOf, sStays, sameVal, sameOne, sameCell, idOf, hE]
end Go.Proofs.YtlpdlohikfkjnaaDoor.Sh
end
section
set_option linter.unusedVariables false
set_option linter.unusedSimpArgs false
set_option linter.unusedSectionVars false
namespace Go.Proofs.YtlpdlohikfkjnaaDoor.Sh
open Go Go.AM Go.Proofs
@[simp] theorem sEq_instr (neg : Bool) (x y : Instr) (st : St) : sEq neg (.fields [(0, .int), (1, .int), (2, .int), (3, .int), (4, .int), (5, .int), (6, .int)]) (vI x) (vI y) st = .ok (.bool (if neg then !decide (x = y) else decide (x = y)), st) := by
  obtain ⟨a0, a1, a2, a3, a4, a5, a6⟩ := x
  obtain ⟨b0, b1, b2, b3, b4, b5, b6⟩ := y
  cases neg <;>
  (
  by_cases h0 : a0 = b0
  ·subst h0
   by_cases h1 : a1 = b1
   ·subst h1
    by_cases h2 : a2 = b2
    ·subst h2
     by_cases h3 : a3 = b3
     ·subst h3
      by_cases h4 : a4 = b4
      ·subst h4
       by_cases h5 : a5 = b5
       ·subst h5
        by_cases h6 : a6 = b6 <;> simp [sEq, aeq, vI, fieldsEq, cellEq, h6]
       ·simp [sEq, aeq, vI, fieldsEq, cellEq, h5]
      ·simp [sEq, aeq, vI, fieldsEq, cellEq, h4]
     ·simp [sEq, aeq, vI, fieldsEq, cellEq, h3]
    ·simp [sEq, aeq, vI, fieldsEq, cellEq, h2]
   ·simp [sEq, aeq, vI, fieldsEq, cellEq, h1]
  ·simp [sEq, aeq, vI, fieldsEq, cellEq, h0])
@[simp] theorem sEq_last (neg : Bool) (x y : Last) (st : St) : sEq neg (.fields [(0, .int), (1, .int), (2, .int), (3, .int)]) (vL x) (vL y) st = .ok (.bool (if neg then !decide (x = y) else decide (x = y)), st) := by
  obtain ⟨a0, a1, a2, a3⟩ := x
  obtain ⟨b0, b1, b2, b3⟩ := y
  cases neg <;>
  (
  by_cases h0 : a0 = b0
  ·subst h0
   by_cases h1 : a1 = b1
   ·subst h1
    by_cases h2 : a2 = b2
    ·subst h2
     by_cases h3 : a3 = b3 <;> simp [sEq, aeq, vL, fieldsEq, cellEq, h3]
    ·simp [sEq, aeq, vL, fieldsEq, cellEq, h2]
   ·simp [sEq, aeq, vL, fieldsEq, cellEq, h1]
  ·simp [sEq, aeq, vL, fieldsEq, cellEq, h0])
variable {K : Ctx} (hF : Fix pgF K)
include hF
end Go.Proofs.YtlpdlohikfkjnaaDoor.Sh
end
section
set_option linter.unusedVariables false
set_option linter.unusedSimpArgs false
set_option linter.unusedSectionVars false
namespace Go.Proofs.YtlpdlohikfkjnaaDoor.Sh
open Go Go.AM Go.Proofs
structure Phi where
 dst : Int
 frm : List Int
 args : List Int
def lchk (ls : List Int) : List Int → Int
 | [] => 0
 | n :: t => if n ∈ ls then lchk ls t else 9
def Last.check (l : Last) (ls : List Int) : Int :=
 if 4 ≤ l.kind then 6 else if l ≠ l.only then 5 else if isReg l.a = false then 2 else lchk ls l.labels
def pchk (ls : List Int) : Option Int → List Int → List Int → Int
 | p, l :: fs, a :: gs => if l ∈ ls then (if (match p with | some q => decide (l ≤ q) | none => false) = true then 8 else if isReg a = false then 2 else pchk ls (some l) fs gs) else 9
 | _, _, _ => 0
def Phi.check (f : Phi) (ls : List Int) : Int :=
 if f.frm.length ≠ f.args.length then 5 else if isReg f.dst = false then 2 else pchk ls none f.frm f.args
variable {K : Ctx} (hF : Fix pgF K)
include hF
end Go.Proofs.YtlpdlohikfkjnaaDoor.Sh
end
section
set_option linter.unusedVariables false
set_option linter.unusedSimpArgs false
set_option linter.unusedSectionVars false
namespace Go.Proofs.YtlpdlohikfkjnaaDoor.Sh
open Go Go.AM Go.Proofs
structure Block where
 label : Int
 phis : List Phi
 instrs : List Instr
 last : Last
abbrev Prog := List Block
def RInstr (cs : List Value) (x : Instr) : Prop := cs = cI x
def RPhi (A : Nat → Prop) (st : St) (cs : List Value) (f : Phi) : Prop := ∃ vf va, cs = [I f.dst, vf, va] ∧ RSl A st 1 RInt vf f.frm ∧ RSl A st 1 RInt va f.args
def RBlock (A : Nat → Prop) (st : St) (cs : List Value) (b : Block) : Prop :=
 ∃ vp vi, cs = [I b.label, vp, vi, U b.last.kind, I b.last.a, I b.last.yes, I b.last.no] ∧ RSl A st 3 (RPhi A st) vp b.phis ∧ RSl A st 7 RInstr vi b.instrs
def RProg (A : Nat → Prop) (st : St) (v : Value) (p : Prog) : Prop := RSl A st 7 (RBlock A st) v p
theorem RPhi.mono {A : Nat → Prop} {st st' : St} {cs : List Value} {f : Phi} (h : RPhi A st cs f) (hE : Agree A st st') : RPhi A st' cs f := by
 obtain ⟨vf, va, h1, h2, h3⟩ := h
 exact ⟨vf, va, h1, h2.mono (fun _ h => h) hE (fun _ _ _ h => h), h3.mono (fun _ h => h) hE (fun _ _ _ h => h)⟩
theorem RBlock.mono {A : Nat → Prop} {st st' : St} {cs : List Value} {b : Block} (h : RBlock A st cs b) (hE : Agree A st st') : RBlock A st' cs b := by
 obtain ⟨vp, vi, h1, h2, h3⟩ := h
 exact ⟨vp, vi, h1, h2.mono (fun _ h => h) hE (fun _ _ _ h => h.mono hE), h3.mono (fun _ h => h) hE (fun _ _ _ h => h)⟩
theorem RProg.mono {A : Nat → Prop} {st st' : St} {v : Value} {p : Prog} (h : RProg A st v p) (hE : Agree A st st') : RProg A st' v p :=
 RSl.mono h (fun _ h => h) hE (fun _ _ _ h => h.mono hE)
def count (p : Prog) : Int := (p.map fun b => (b.instrs.length + b.phis.length + 1 : Int)).sum
theorem count_nonneg (p : Prog) : 0 ≤ count p := by
 unfold count
 induction p with
 | nil => simp
 | cons b p ih => simp at ih ⊢; omega
theorem count_append (p q : Prog) : count (p ++ q) = count p + count q := by simp [count]
def ferr : List Int → Int
 | [] => 0
 | e :: t => if e = 0 then ferr t else e
theorem ferr_append (a b : List Int) : ferr (a ++ b) = if ferr a = 0 then ferr b else ferr a := by
 induction a with
 | nil => simp [ferr]
 | cons x a ih => simp only [List.cons_append, ferr]; split <;> simp_all
def dupGo (seen : List Int) : Prog → Int
 | [] => 0
 | b :: p => if b.label < 0 ∨ 100000 ≤ b.label then 2 else if b.label ∈ seen then 8 else dupGo (seen ++ [b.label]) p
def blockErr (ls : List Int) (b : Block) : Int := ferr (b.phis.map (·.check ls) ++ (b.instrs.map Instr.check ++ [b.last.check ls]))
def check (p : Prog) : Int :=
 if p.length < 1 ∨ 400 < p.length then 7 else if 4000 < count p then 3 else if dupGo [] p = 0 then ferr (p.map (blockErr (p.map (·.label)))) else dupGo [] p
variable {K : Ctx} (hF : Fix pgF K)
include hF
end Go.Proofs.YtlpdlohikfkjnaaDoor.Sh
end
section
set_option linter.unusedVariables false
set_option linter.unusedSimpArgs false
set_option linter.unusedSectionVars false
namespace Go.Proofs.YtlpdlohikfkjnaaDoor.Sh
open Go Go.AM Go.Proofs
variable {K : Ctx} (hF : Fix pgF K)
include hF
end Go.Proofs.YtlpdlohikfkjnaaDoor.Sh
end
section
set_option linter.unusedVariables false
set_option linter.unusedSimpArgs false
set_option linter.unusedSectionVars false
namespace Go.Proofs.YtlpdlohikfkjnaaDoor.Sh
open Go Go.AM Go.Proofs
variable {K : Ctx} (hF : Fix pgF K)
include hF
end Go.Proofs.YtlpdlohikfkjnaaDoor.Sh
end
section
set_option linter.unusedVariables false
set_option linter.unusedSimpArgs false
set_option linter.unusedSectionVars false
set_option maxRecDepth 100000
namespace Go.Proofs.YtlpdlohikfkjnaaDoor.Sh
open Go Go.AM Go.Proofs
def PInt : Rep Int := fun _ cs n is => cs = [I n] ∧ is = []
def PInstr : Rep Instr := fun _ cs x is => cs = cI x ∧ is = []
def PPhi : Rep Phi := fun st cs f is => ∃ vf va i1 i2, cs = [I f.dst, vf, va] ∧ RepSl 1 PInt st vf f.frm i1 ∧ RepSl 1 PInt st va f.args i2 ∧ is = i1 ++ i2
def vB (n : Int) (vp vi : Value) (l : Last) : Value := .agg #[I n, vp, vi, U l.kind, I l.a, I l.yes, I l.no]
def cB (n : Int) (vp vi : Value) (l : Last) : List Value := [I n, vp, vi, U l.kind, I l.a, I l.yes, I l.no]
section
variable (n : Int) (vp vi : Value) (l : Last) (st : St)
@[simp] theorem sField_vB0 : sField none 0 (vB n vp vi l) st = .ok (I n, st) := rfl
@[simp] theorem sField_vB1 : sField none 1 (vB n vp vi l) st = .ok (vp, st) := rfl
@[simp] theorem sField_vB2 : sField none 2 (vB n vp vi l) st = .ok (vi, st) := rfl
@[simp] theorem sField_vB3 : sField (some 4) 3 (vB n vp vi l) st = .ok (vL l, st) := rfl
@[simp] theorem sField_vB : sField (some 7) 0 (vB n vp vi l) st = .ok (vB n vp vi l, st) := rfl
@[simp] theorem sLref_vB : sLref (vB n vp vi l) st = .ok (nothing, st) := rfl
@[simp] theorem isTuple_vB : isTuple (vB n vp vi l) = false := rfl
@[simp] theorem sLit_vB : sLit 7 1 [I 0, .slice none 0 0, .slice none 0 0, U 0, I 0, I 0, I 0] [(0, 7, vB n vp vi l)] st = .ok (Sl st.next 0 1 7, st.alloc (.cells (cB n vp vi l))) := rfl
@[simp] theorem sLit_vI (x : Instr) : sLit 7 1 [U 0, U 0, I 0, I 0, I 0, I 0, I 0] [(0, 7, vI x)] st = .ok (Sl st.next 0 1 7, st.alloc (.cells (cI x))) := rfl
end
def PBlock : Rep Block := fun st cs b is => ∃ vp vi i1 i2, cs = cB b.label vp vi b.last ∧ RepSl 3 PPhi st vp b.phis i1 ∧ RepSl 7 PInstr st vi b.instrs i2 ∧ is = i1 ++ i2
def PProg (st : St) (v : Value) (p : Prog) (is : List Nat) : Prop := RepSl 7 PBlock st v p is
theorem PInt.fr : Framed PInt := ⟨fun h _ => h⟩
theorem PInstr.fr : Framed PInstr := ⟨fun h _ => h⟩
theorem PPhi.fr : Framed PPhi := ⟨fun ⟨vf, va, i1, i2, h1, h2, h3, h4⟩ hE => by
 subst h4
 exact ⟨vf, va, i1, i2, h1, h2.frame PInt.fr fun id hi => hE id (List.mem_append_left _ hi), h3.frame PInt.fr fun id hi => hE id (List.mem_append_right _ hi), rfl⟩⟩
theorem PBlock.fr : Framed PBlock := ⟨fun ⟨vp, vi, i1, i2, h1, h2, h3, h4⟩ hE => by
 subst h4
 exact ⟨vp, vi, i1, i2, h1, h2.frame PPhi.fr fun id hi => hE id (List.mem_append_left _ hi), h3.frame PInstr.fr fun id hi => hE id (List.mem_append_right _ hi), rfl⟩⟩
theorem PProg.frame {st st' : St} {v : Value} {p : Prog} {is : List Nat} (h : PProg st v p is) (hE : ∀ id ∈ is, st'.get id = st.get id) : PProg st' v p is := RepSl.frame PBlock.fr h hE
theorem nodup_swap {ids is is' : List Nat} {n : Nat} (h : (ids ++ is).Nodup) (h' : is'.Nodup) (hi : ∀ id ∈ is', id ∈ is ∨ n ≤ id) (hl : ∀ id ∈ ids, id < n) : (ids ++ is').Nodup := by
 rw [List.nodup_append] at h ⊢
 refine ⟨h.1, h', fun a ha b hb e => ?_⟩
 subst e
 rcases hi a hb with hi | hi
 ·exact h.2.2 a ha a hi rfl
 ·have := hl a ha; omega
@[simp] theorem sMax (x y : Int) (st : St) : sMinmax true (I x) [I y] st = .ok (I (if y > x then y else x), st) := rfl
theorem ext_of {st0 st st' : St} (h : Ext st0 st) (hn : st.next ≤ st'.next) (hr : st'.ro = st.ro) {ids : List Nat} (hlo : ∀ id ∈ ids, st0.next ≤ id) (hk : ∀ id, id < st.next → id ∉ ids → st'.get id = st.get id) : Ext st0 st' :=
 ⟨Nat.le_trans h.next hn, hr.trans h.ro, fun id hi => (hk id (Nat.lt_of_lt_of_le hi h.next) fun hm => by have := hlo id hm; omega).trans (h.get id hi)⟩
theorem RPhi.in {A A' : Nat → Prop} {st : St} {cs : List Value} {f : Phi} (h : RPhi A st cs f) (hA : ∀ id, A id → A' id) : RPhi A' st cs f := by
 obtain ⟨vf, va, h1, h2, h3⟩ := h
 exact ⟨vf, va, h1, h2.in hA, h3.in hA⟩
theorem RBlock.in {A A' : Nat → Prop} {st : St} {cs : List Value} {b : Block} (h : RBlock A st cs b) (hA : ∀ id, A id → A' id) : RBlock A' st cs b := by
 obtain ⟨vp, vi, h1, h2, h3⟩ := h
 exact ⟨vp, vi, h1, h2.mono hA (Agree.refl _ _) fun _ _ _ h => h.in hA, h3.in hA⟩
theorem RProg.in {A A' : Nat → Prop} {st : St} {v : Value} {p : Prog} (h : RProg A st v p) (hA : ∀ id, A id → A' id) : RProg A' st v p := RSl.mono h hA (Agree.refl _ _) fun _ _ _ h => h.in hA
end Go.Proofs.YtlpdlohikfkjnaaDoor.Sh
end
section
set_option linter.unusedVariables false
set_option linter.unusedSimpArgs false
set_option linter.unusedSectionVars false
set_option maxRecDepth 100000
namespace Go.Proofs.YtlpdlohikfkjnaaDoor.Sh
open Go Go.AM Go.Proofs
deriving instance DecidableEq for Phi
deriving instance DecidableEq for Block
variable {K : Ctx} (hF : Fix pgF K)
include hF
end Go.Proofs.YtlpdlohikfkjnaaDoor.Sh
end
section
set_option linter.unusedVariables false
set_option linter.unusedSimpArgs false
set_option linter.unusedSectionVars false
set_option maxRecDepth 100000
namespace Go.Proofs.YtlpdlohikfkjnaaDoor.Sh
open Go Go.AM Go.Proofs
theorem list7 {α : Type} {l : List α} (h : l.length = 7) : ∃ a b c d e f g, l = [a, b, c, d, e, f, g] := match l, h with | [a, b, c, d, e, f, g], _ => ⟨a, b, c, d, e, f, g, rfl⟩
theorem list5 {α : Type} {l : List α} (h : l.length = 5) : ∃ a b c d e, l = [a, b, c, d, e] := match l, h with | [a, b, c, d, e], _ => ⟨a, b, c, d, e, rfl⟩
theorem one5 : pg.cellsOf 5 = 1 := by kernel_rfl
structure Line where
 kind : Int
 op : Int
 dst : Int
 a : Int
 b : Int
 slot : Int
 n : Int
def cLine (x : Line) : List Value := [U x.kind, U x.op, U x.dst, U x.a, U x.b, U x.slot, .int .i16 x.n]
structure Line.Ok (x : Line) : Prop where
 kind : 0 ≤ x.kind ∧ x.kind ≤ 255
 op : 0 ≤ x.op ∧ x.op ≤ 255
 dst : 0 ≤ x.dst ∧ x.dst ≤ 255
 a : 0 ≤ x.a ∧ x.a ≤ 255
 b : 0 ≤ x.b ∧ x.b ≤ 255
 slot : 0 ≤ x.slot ∧ x.slot ≤ 255
 n : -32768 ≤ x.n ∧ x.n ≤ 32767
def Line.instr (x : Line) (regs : Int) : Instr := Instr.only ⟨x.kind % 9, x.op % 12, x.dst % regs, x.a % regs, x.b % regs, x.n, x.slot % 3⟩
theorem cells_Line : pg.cellsOf 24 = 7 := by kernel_rfl
theorem one16 : pg.cellsOf 22 = 1 := by kernel_rfl
theorem wt_Line {st : St} {cs : List Value} (h : WT pg st 24 cs) : ∃ x : Line, cs = cLine x ∧ x.Ok := by
 obtain ⟨hl, hf⟩ := h.getStruct Tryd.underlying24
 rw [cells_Line] at hl
 obtain ⟨a, b, c, d, e, f, g, rfl⟩ := list7 hl
 simp only [List.forall_mem_cons] at hf
 obtain ⟨h1, h2, h3, h4, h5, h6, h7, _⟩ := hf
 obtain ⟨x1, rfl, w1⟩ := fld Tryd.underlying5 one5 h1 rfl
 obtain ⟨x2, rfl, w2⟩ := fld Tryd.underlying5 one5 h2 rfl
 obtain ⟨x3, rfl, w3⟩ := fld Tryd.underlying5 one5 h3 rfl
 obtain ⟨x4, rfl, w4⟩ := fld Tryd.underlying5 one5 h4 rfl
 obtain ⟨x5, rfl, w5⟩ := fld Tryd.underlying5 one5 h5 rfl
 obtain ⟨x6, rfl, w6⟩ := fld Tryd.underlying5 one5 h6 rfl
 obtain ⟨x7, rfl, w7⟩ := fld Tryd.underlying22 one16 h7 rfl
 exact ⟨⟨x1, x2, x3, x4, x5, x6, x7⟩, rfl, ⟨bounds_u8 w1, bounds_u8 w2, bounds_u8 w3, bounds_u8 w4, bounds_u8 w5, bounds_u8 w6, bounds_i16 w7⟩⟩
theorem wv_Line {st : St} {v : Value} (h : WV pg st 24 v) : ∃ x : Line, v = .agg (cLine x).toArray ∧ x.Ok := by
 obtain ⟨cs, rfl, hw⟩ := h.agg (by simp [isStruct, Tryd.underlying24])
 obtain ⟨x, hx, hb⟩ := wt_Line hw
 exact ⟨x, by rw [← hx], hb⟩
end Go.Proofs.YtlpdlohikfkjnaaDoor.Sh
end
