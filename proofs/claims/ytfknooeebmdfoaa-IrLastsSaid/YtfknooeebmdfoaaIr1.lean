/-
  Contracts of the functions on instructions and ends.
-/
import Derived.Test.YtfknooeebmdfoaaShA
set_option linter.unusedVariables false
set_option linter.unusedSimpArgs false
namespace Go.Proofs.Ytfknooeebmdfoaa.Sh
open Go Go.AM Go.Proofs

structure Instr where
  kind : Int
  op : Int
  dst : Int
  a : Int
  b : Int
  n : Int
  slot : Int
  deriving DecidableEq
structure Last where
  kind : Int
  a : Int
  yes : Int
  no : Int
  deriving DecidableEq

def vI (x : Instr) : Value := .agg #[U x.kind, U x.op, I x.dst, I x.a, I x.b, I x.n, I x.slot]
def cI (x : Instr) : List Value := [U x.kind, U x.op, I x.dst, I x.a, I x.b, I x.n, I x.slot]
def vL (x : Last) : Value := .agg #[U x.kind, I x.a, I x.yes, I x.no]
def RInt (cs : List Value) (n : Int) : Prop := cs = [I n]

/-- What an instruction sets. -/
def Instr.sets (x : Instr) : Int × Bool := if x.kind = 0 ∨ x.kind = 1 ∨ x.kind = 2 ∨ x.kind = 3 ∨ x.kind = 5 ∨ x.kind = 7 then (x.dst, true) else (0, false)
def Instr.reads (x : Instr) : List Int := if x.kind = 1 ∨ x.kind = 4 ∨ x.kind = 6 ∨ x.kind = 7 then [x.a] else if x.kind = 2 ∨ x.kind = 8 then [x.a, x.b] else []
def Instr.pure (x : Instr) : Bool := x.kind = 0 ∨ x.kind = 1 ∨ (x.kind = 2 ∧ x.op ≠ 3 ∧ x.op ≠ 4)
def Instr.only (x : Instr) : Instr :=
  { kind := x.kind, dst := x.sets.1, a := x.reads.headD 0, b := x.reads.tail.headD 0, n := if x.kind = 0 then x.n else 0, op := if x.kind = 2 then x.op else 0, slot := if x.kind = 5 ∨ x.kind = 6 then x.slot else 0 }
def isReg (n : Int) : Bool := 0 ≤ n ∧ n < 100000
def Instr.check (x : Instr) : Int :=
  if 9 ≤ x.kind ∨ x.kind = 2 ∧ 12 ≤ x.op then 6 else if x ≠ x.only then 5 else if !isReg x.dst ∨ !isReg x.a ∨ !isReg x.b ∨ x.slot < 0 ∨ 16 ≤ x.slot then 2 else 0
def Last.reads (l : Last) : Int × Bool := (l.a, l.kind = 1 ∨ l.kind = 2)
def Last.labels (l : Last) : List Int := if l.kind = 0 ∨ l.kind = 1 ∧ l.yes = l.no then [l.yes] else if l.kind = 1 then [l.yes, l.no] else []
def Last.only (l : Last) : Last :=
  { kind := l.kind, a := if l.kind = 1 ∨ l.kind = 2 then l.a else 0, yes := if l.kind = 0 ∨ l.kind = 1 then l.yes else 0, no := if l.kind = 1 then l.no else 0 }

theorem _root_.Go.AM.RSl.in {α : Type} {A A' : Nat → Prop} {st : St} {s : Nat} {R : List Value → α → Prop} {v : Value} {l : List α} (h : RSl A st s R v l) (hA : ∀ id, A id → A' id) : RSl A' st s R v l := h.mono hA (Agree.refl _ _) (fun _ _ _ h => h)
theorem _root_.Go.AM.Ok.eq {α : Type} {x : Res α} {c : α} (h : Ok x fun r => r = c) : x = .ok c := by
  obtain ⟨a, h1, h2⟩ := h
  rw [h1, h2]

theorem rsl_lit1 {st : St} (x : Int) : RSl (Rng st.next (st.next + 1)) (st.alloc (.cells [I x])) 1 RInt (Sl st.next 0 1 1) [x] :=
  .inr ⟨st.next, 0, [I x], rfl, ⟨Nat.le_refl _, Nat.lt_succ_self _⟩, by simp, by simp, fun i y h => by
    cases i with
    | zero => simp at h; subst h; rfl
    | succ i => simp at h⟩
theorem rsl_lit2 {st : St} (x y : Int) : RSl (Rng st.next (st.next + 1)) (st.alloc (.cells [I x, I y])) 1 RInt (Sl st.next 0 2 1) [x, y] :=
  .inr ⟨st.next, 0, [I x, I y], rfl, ⟨Nat.le_refl _, Nat.lt_succ_self _⟩, by simp, by simp, fun i z h => by
    match i, h with
    | 0, h => simp at h; subst h; rfl
    | 1, h => simp at h; subst h; rfl
    | i + 2, h => simp at h⟩

@[simp] theorem sLit1 (a : Int) (st : St) : sLit 1 1 [I 0] [(0, 1, I a)] st = .ok (Sl st.next 0 1 1, st.alloc (.cells [I a])) := rfl
@[simp] theorem sLit2 (a b : Int) (st : St) : sLit 1 2 [I 0, I 0] [(0, 1, I a), (1, 1, I b)] st = .ok (Sl st.next 0 2 1, st.alloc (.cells [I a, I b])) := rfl

variable {K : Ctx} (hF : Fix (funs pg) K)
include hF

theorem Sets_ok (x : Instr) (st : St) : Ok (K.go (.call n_ir_Instr_Sets [vI x]) st) fun r => r.1 = .tuple #[I x.sets.1, B x.sets.2] ∧ Ext st r.2 := by
  refine ir_Instr_Sets_of hF fun J hJ => ?_
  rw [ir_Instr_Sets_eq]
  have h : x.kind = 0 ∨ x.kind = 1 ∨ x.kind = 2 ∨ x.kind = 3 ∨ x.kind = 5 ∨ x.kind = 7 ∨ (x.kind ≠ 0 ∧ x.kind ≠ 1 ∧ x.kind ≠ 2 ∧ x.kind ≠ 3 ∧ x.kind ≠ 5 ∧ x.kind ≠ 7) := by omega
  rcases h with h | h | h | h | h | h | h <;>
    simp [vI, h, ir_Instr_Sets_j0_eq hJ, ir_Instr_Sets_j1_eq hJ, Instr.sets] <;> exact (Ext.refl st).alloc _

theorem Reads_ok (x : Instr) (st : St) : Ok (K.go (.call n_ir_Instr_Reads [vI x]) st) fun r => RSl (Rng st.next r.2.next) r.2 1 RInt r.1 x.reads ∧ Ext st r.2 := by
  refine ir_Instr_Reads_of hF fun J hJ => ?_
  rw [ir_Instr_Reads_eq]
  have h : x.kind = 1 ∨ x.kind = 4 ∨ x.kind = 6 ∨ x.kind = 7 ∨ x.kind = 2 ∨ x.kind = 8 ∨ (x.kind ≠ 1 ∧ x.kind ≠ 4 ∧ x.kind ≠ 6 ∧ x.kind ≠ 7 ∧ x.kind ≠ 2 ∧ x.kind ≠ 8) := by omega
  rcases h with h | h | h | h | h | h | h <;>
    simp [vI, h, ir_Instr_Reads_j0_eq hJ, ir_Instr_Reads_j1_eq hJ, ir_Instr_Reads_j2_eq hJ, Instr.reads] <;>
    first
    | exact ⟨(rsl_lit1 _).in (by intro id h; simp [Rng] at h ⊢; omega), ((Ext.refl st).alloc _).alloc _⟩
    | exact ⟨(rsl_lit2 _ _).in (by intro id h; simp [Rng] at h ⊢; omega), ((Ext.refl st).alloc _).alloc _⟩
    | exact ⟨RSl.nil _ _ _ _ _, (Ext.refl st).alloc _⟩

theorem Traps_ok (o : Int) (st : St) : Ok (K.go (.call n_word_Op_Traps [U o]) st) fun r => r.1 = B (decide (o = 3 ∨ o = 4)) ∧ Ext st r.2 := by
  refine word_Op_Traps_of hF fun J hJ => ?_
  rw [word_Op_Traps_eq]
  by_cases h3 : o = 3 <;> by_cases h4 : o = 4 <;> simp [h3, h4, Ext.refl]

theorem Pure_ok (x : Instr) (st : St) : Ok (K.go (.call n_ir_Instr_Pure [vI x]) st) fun r => r.1 = B x.pure ∧ Ext st r.2 := by
  refine ir_Instr_Pure_of hF fun J hJ => ?_
  rw [ir_Instr_Pure_eq]
  have h : x.kind = 0 ∨ x.kind = 1 ∨ x.kind = 2 ∨ (x.kind ≠ 0 ∧ x.kind ≠ 1 ∧ x.kind ≠ 2) := by omega
  rcases h with h | h | h | h
  · simp [vI, h, Instr.pure]; exact (Ext.refl st).alloc _
  · simp [vI, h, Instr.pure]; exact (Ext.refl st).alloc _
  · simp [vI, h, Instr.pure, ok_bind]
    refine (Traps_ok hF x.op _).mono fun r hr => ?_
    simp [hr.1]
    exact ((Ext.refl st).alloc _).trans hr.2
  · simp [vI, h, Instr.pure]; exact (Ext.refl st).alloc _

theorem LReads_ok (l : Last) (st : St) : Ok (K.go (.call n_ir_Last_Reads [vL l]) st) fun r => r.1 = .tuple #[I l.reads.1, B l.reads.2] ∧ Ext st r.2 := by
  refine ir_Last_Reads_of hF fun J hJ => ?_
  rw [ir_Last_Reads_eq]
  have h : l.kind = 1 ∨ l.kind = 2 ∨ (l.kind ≠ 1 ∧ l.kind ≠ 2) := by omega
  rcases h with h | h | h <;> simp [vL, h, Last.reads] <;> exact (Ext.refl st).alloc _

theorem Labels_ok (l : Last) (st : St) : Ok (K.go (.call n_ir_Last_Labels [vL l]) st) fun r => RSl (Rng st.next r.2.next) r.2 1 RInt r.1 l.labels ∧ Ext st r.2 := by
  refine ir_Last_Labels_of hF fun J hJ => ?_
  rw [ir_Last_Labels_eq]
  have h : l.kind = 0 ∨ l.kind = 1 ∨ (l.kind ≠ 0 ∧ l.kind ≠ 1) := by omega
  by_cases hy : l.yes = l.no <;> rcases h with h | h | h <;> simp [vL, h, hy, Last.labels, ir_Last_Labels_j0_eq hJ] <;>
    first
    | exact ⟨(rsl_lit1 _).in (by intro id h; simp [Rng] at h ⊢; omega), ((Ext.refl st).alloc _).alloc _⟩
    | exact ⟨(rsl_lit2 _ _).in (by intro id h; simp [Rng] at h ⊢; omega), ((Ext.refl st).alloc _).alloc _⟩
    | exact ⟨RSl.nil _ _ _ _ _, (Ext.refl st).alloc _⟩

theorem reg_eq (n : Int) (st : St) : K.go (.call n_ir_reg [I n]) st = .ok (B (isReg n), st) := by
  refine Ok.eq (ir_reg_of hF fun J hJ => ?_)
  rw [ir_reg_eq]
  by_cases h : 0 ≤ n <;> simp [h, isReg]

theorem Only_ok (x : Instr) (st : St) (hro : st.ro ≤ st.next) : Ok (K.go (.call n_ir_Instr_Only [vI x]) st) fun r => r.1 = vI x.only ∧ Ext st r.2 := by
  refine ir_Instr_Only_of hF fun J hJ => ?_
  rw [ir_Instr_Only_eq]
  have hr1 : st.ro ≤ st.next + 1 := by omega
  have hr2 : st.ro ≤ st.next + 2 := by omega
  simp [vI, sBuild, fillL, isTuple, Res.need, loadN_def, hro, hr1, hr2, Nat.add_assoc]
  refine (Sets_ok hF x _).bind fun r hr => ?_
  obtain ⟨hv, hE1⟩ := hr
  have g1 : r.2.get st.next = some (.cells (cI x)) := by rw [hE1.get _ (by simp; omega)]; simp [cI, Nat.add_assoc]
  have g2 : r.2.get (st.next + 2) = some (.cells [U x.kind, U 0, I 0, I 0, I 0, I 0, I 0]) := by rw [hE1.get _ (by simp)]; simp [Nat.add_assoc]
  have g3 : r.2.get (st.next + 1) = some (.cells [U 0, U 0, I 0, I 0, I 0, I 0, I 0]) := by rw [hE1.get _ (by simp)]; simp [Nat.add_assoc]
  have hn := hE1.next
  have ho := hE1.ro
  simp at hn ho
  simp [hv, g1, g2, cI, ho, hr2, Res.need]
  refine (Reads_ok hF x _).bind fun q hq => ?_
  obtain ⟨hv2, hE2⟩ := hq
  have q1 : q.2.get st.next = some (.cells (cI x)) := by rw [hE2.get _ (by simp; omega)]; simp [g1]
  have q2 : q.2.get (st.next + 2) = some (.cells [U x.kind, U 0, I x.sets.1, I 0, I 0, I 0, I 0]) := by rw [hE2.get _ (by simp; omega)]; simp
  have q3 : q.2.get (st.next + 1) = some (.cells [U 0, U 0, I 0, I 0, I 0, I 0, I 0]) := by rw [hE2.get _ (by simp; omega)]; simp [g3]
  have hn2 := hE2.next
  have ho2 := hE2.ro
  simp at hn2 ho2
  have hE : Ext st q.2 := by
    refine Ext.trans ?_ hE2
    refine Ext.put (Ext.trans ?_ hE1) (by omega) _
    exact Ext.put ((((Ext.refl st).alloc _).alloc _).alloc _) (by omega) _
  have fin : ∀ (a b : Int) (s : St), Ext st s → s.get st.next = some (.cells (cI x)) → s.get (st.next + 1) = some (.cells [U 0, U 0, I 0, I 0, I 0, I 0, I 0]) →
      s.get (st.next + 2) = some (.cells [U x.kind, U 0, I x.sets.1, I a, I b, I 0, I 0]) →
      a = x.reads.headD 0 → b = x.reads.tail.headD 0 → Ok (ir_Instr_Only_j0 J (P st.next 0) (P (st.next + 1) 0) (P (st.next + 2) 0) s) fun r => r.1 = vI x.only ∧ Ext st r.2 := by
    intro a b s hs k1 k2 k3 ha hb
    have kr := hs.ro
    rw [ir_Instr_Only_j0_eq hJ]
    have h : x.kind = 0 ∨ x.kind = 2 ∨ x.kind = 5 ∨ x.kind = 6 ∨ (x.kind ≠ 0 ∧ x.kind ≠ 2 ∧ x.kind ≠ 5 ∧ x.kind ≠ 6) := by omega
    rcases h with h | h | h | h | h <;>
      simp [k1, k2, k3, cI, h, Res.need, kr, hr1, hr2, ir_Instr_Only_j1_eq hJ, ir_Instr_Only_j2_eq hJ, loadN_def, oneOf, vI, Instr.only, ha, hb] <;>
      first
      | exact (hs.put (by omega) _).put (by omega) _
      | exact hs.put (by omega) _
  have h : x.reads = [] ∨ (∃ a, x.reads = [a]) ∨ ∃ a b, x.reads = [a, b] := by
    unfold Instr.reads
    split
    · simp
    · split <;> simp
  rcases h with h | ⟨a, h⟩ | ⟨a, b, h⟩
  · rw [h] at hv2
    simp [hv2.len]
    exact fin 0 0 _ hE q1 q3 q2 (by simp [h]) (by simp [h])
  · rw [h] at hv2
    obtain ⟨c, o, i1, i2, i3⟩ := hv2.at1 (f := I) (i := 0) (x := a) rfl
    simp at i1
    simp [hv2.len, i1, -load1_def, i2 _ (Agree.refl _ _), q2, Res.need, hr2, ho2, ho]
    exact fin a 0 _ (hE.put (by omega) _) (by simp [q1]) (by simp [q3]) (by simp) (by simp [h]) (by simp [h])
  · rw [h] at hv2
    obtain ⟨c, o, i1, i2, i3⟩ := hv2.at1 (f := I) (i := 0) (x := a) rfl
    obtain ⟨c', o', j1, j2, j3⟩ := hv2.at1 (f := I) (i := 1) (x := b) rfl
    simp at i1 j1
    simp [hv2.len, i1, j1, -load1_def, i2 _ (Agree.refl _ _), q2, Res.need, hr2, ho2, ho]
    have j4 := j2 _ (Agree.refl _ _)
    have j5 : ∀ o, (q.2.put (st.next + 2) o).load1 c' o' = .ok (I b) := fun o => j2 _ ((Agree.refl _ _).put (by simp [Rng]; omega) _)
    simp [j5, -load1_def]
    simp [sStays, j4, -load1_def, sameVal, sameOne, sameCell, idOf]
    simp [Res.need, hr2, ho2, ho]
    exact fin a b _ ((hE.put (by omega) _).put (by omega) _) (by simp [q1]) (by simp [q3]) (by simp) (by simp [h]) (by simp [h])

theorem LOnly_ok (l : Last) (st : St) (hro : st.ro ≤ st.next) : Ok (K.go (.call n_ir_Last_Only [vL l]) st) fun r => r.1 = vL l.only ∧ Ext st r.2 := by
  refine ir_Last_Only_of hF fun J hJ => ?_
  rw [ir_Last_Only_eq]
  have hr1 : st.ro ≤ st.next + 1 := by omega
  have hr2 : st.ro ≤ st.next + 2 := by omega
  simp [vL, sBuild, fillL, isTuple, Res.need, loadN_def, hro, hr1, hr2, Nat.add_assoc]
  refine (LReads_ok hF l _).bind fun r hr => ?_
  obtain ⟨hv, hE1⟩ := hr
  have g1 : r.2.get st.next = some (.cells [U l.kind, I l.a, I l.yes, I l.no]) := by rw [hE1.get _ (by simp; omega)]; simp [Nat.add_assoc]
  have g2 : r.2.get (st.next + 2) = some (.cells [U l.kind, I 0, I 0, I 0]) := by rw [hE1.get _ (by simp)]; simp [Nat.add_assoc]
  have g3 : r.2.get (st.next + 1) = some (.cells [U 0, I 0, I 0, I 0]) := by rw [hE1.get _ (by simp)]; simp [Nat.add_assoc]
  have hn := hE1.next
  have ho := hE1.ro
  simp at hn ho
  have hE : Ext st r.2 := Ext.trans (Ext.put ((((Ext.refl st).alloc _).alloc _).alloc _) (by omega) _) hE1
  have h : l.kind = 0 ∨ l.kind = 1 ∨ l.kind = 2 ∨ (l.kind ≠ 0 ∧ l.kind ≠ 1 ∧ l.kind ≠ 2) := by omega
  rcases h with h | h | h | h <;>
    simp [hv, g1, g2, g3, Res.need, ho, hr1, hr2, h, Last.reads, Last.only, ir_Last_Only_j0_eq hJ, ir_Last_Only_j1_eq hJ, loadN_def, oneOf, sStays, sameVal, sameOne, sameCell, idOf]
  all_goals repeat' first | exact hE | refine Ext.put ?_ ?_ _ | omega
end Go.Proofs.Ytfknooeebmdfoaa.Sh
