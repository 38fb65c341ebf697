/-
  Contracts: Program.Count, Program.Check.
-/
import Derived.Test.YtdjfndijbnpkpaaDoorIr3
set_option linter.unusedVariables false
set_option linter.unusedSimpArgs false
set_option linter.unusedSectionVars false
namespace Go.Proofs.YtdjfndijbnpkpaaDoor.Sh
open Go Go.AM Go.Proofs
structure Block where
 label : Int
 phis : List Phi
 instrs : List Instr
 last : Last
abbrev Prog := List Block
def RInstr (cs : List Value) (x : Instr) : Prop := cs = cI x
def RPhi (A : Nat → Prop) (st : St) (cs : List Value) (f : Phi) : Prop := ∃ vf va, cs = [I f.dst, vf, va] ∧ RSl A st 1 RInt vf f.frm ∧ RSl A st 1 RInt va f.args
def RBlock (A : Nat → Prop) (st : St) (cs : List Value) (b : Block) : Prop :=
 ∃ vp vi, cs = [I b.label, vp, vi, U b.last.kind, I b.last.a, I b.last.yes, I b.last.no] ∧ RSl A st 3 (RPhi A st) vp b.phis ∧ RSl A st 7 RInstr vi b.instrs
def RProg (A : Nat → Prop) (st : St) (v : Value) (p : Prog) : Prop := RSl A st 7 (RBlock A st) v p
theorem RPhi.mono {A : Nat → Prop} {st st' : St} {cs : List Value} {f : Phi} (h : RPhi A st cs f) (hE : Agree A st st') : RPhi A st' cs f := by
 obtain ⟨vf, va, h1, h2, h3⟩ := h
 exact ⟨vf, va, h1, h2.mono (fun _ h => h) hE (fun _ _ _ h => h), h3.mono (fun _ h => h) hE (fun _ _ _ h => h)⟩
theorem RBlock.mono {A : Nat → Prop} {st st' : St} {cs : List Value} {b : Block} (h : RBlock A st cs b) (hE : Agree A st st') : RBlock A st' cs b := by
 obtain ⟨vp, vi, h1, h2, h3⟩ := h
 exact ⟨vp, vi, h1, h2.mono (fun _ h => h) hE (fun _ _ _ h => h.mono hE), h3.mono (fun _ h => h) hE (fun _ _ _ h => h)⟩
theorem RProg.mono {A : Nat → Prop} {st st' : St} {v : Value} {p : Prog} (h : RProg A st v p) (hE : Agree A st st') : RProg A st' v p :=
 RSl.mono h (fun _ h => h) hE (fun _ _ _ h => h.mono hE)
def count (p : Prog) : Int := (p.map fun b => (b.instrs.length + b.phis.length + 1 : Int)).sum
theorem count_nonneg (p : Prog) : 0 ≤ count p := by
 unfold count
 induction p with
 | nil => simp
 | cons b p ih => simp at ih ⊢; omega
theorem count_append (p q : Prog) : count (p ++ q) = count p + count q := by simp [count]
theorem count_take {p : Prog} {i : Nat} (h : i < p.length) : count (p.take (i + 1)) = count (p.take i) + (p[i].instrs.length + p[i].phis.length + 1) := by
 rw [List.take_succ_eq_append_getElem h, count_append]; simp [count]
theorem count_le (p : Prog) (i : Nat) : count (p.take i) ≤ count p := by
 have h := count_append (p.take i) (p.drop i)
 rw [List.take_append_drop] at h
 have := count_nonneg (p.drop i)
 omega
theorem len_le (p : Prog) : p.length ≤ count p := by
 unfold count
 induction p with
 | nil => simp
 | cons b p ih => simp at ih ⊢; omega
theorem count_mem {p : Prog} {b : Block} (h : b ∈ p) : (b.instrs.length + b.phis.length : Int) < count p := by
 unfold count
 induction p with
 | nil => cases h
 | cons c p ih =>
   have := count_nonneg p
   unfold count at this
   rcases List.mem_cons.1 h with rfl | h
   ·simp at this ⊢; omega
   ·have := ih h; simp at this ⊢; omega
def ferr : List Int → Int
 | [] => 0
 | e :: t => if e = 0 then ferr t else e
theorem ferr_append (a b : List Int) : ferr (a ++ b) = if ferr a = 0 then ferr b else ferr a := by
 induction a with
 | nil => simp [ferr]
 | cons x a ih => simp only [List.cons_append, ferr]; split <;> simp_all
def dupGo (seen : List Int) : Prog → Int
 | [] => 0
 | b :: p => if b.label < 0 ∨ 100000 ≤ b.label then 2 else if b.label ∈ seen then 8 else dupGo (seen ++ [b.label]) p
def blockErr (ls : List Int) (b : Block) : Int := ferr (b.phis.map (·.check ls) ++ (b.instrs.map Instr.check ++ [b.last.check ls]))
def check (p : Prog) : Int :=
 if p.length < 1 ∨ 400 < p.length then 7 else if 4000 < count p then 3 else if dupGo [] p = 0 then ferr (p.map (blockErr (p.map (·.label)))) else dupGo [] p
theorem sMapSet_new {r : Nat} {ls : List Int} {st : St} (h : st.get r = some (mSet ls)) {k : Int} (hk : k ∉ ls) (hro : st.ro ≤ r) : sMapSet (.cell .int) (.map (some r)) (I k) (.bool true) st = .ok (nothing, st.put r (mSet (ls ++ [k]))) := by
 have h' := h
 unfold mSet at h'
 simp [sMapSet, amapSet, St.map, h', keyOk, cellIs, Res.need, hro, findK_set, hk, mSet]
variable {K : Ctx} (hF : Fix pgF K)
include hF
theorem Count_loop {J} (hJ : IsJ K (retK ir_Program_Count_c.results) J) {A : Nat → Prop} {st0 : St} {v : Value} {p : Prog} (hA : ∀ id, A id → id < st0.next) (hp : RProg A st0 v p) (hs : count p < 2 ^ 62) (d : Nat) : ∀ (i : Nat) (n : Int) (st : St), i + d = p.length → Ext st0 st →
 n = count (p.take i) → Ok (ir_Program_Count_l0 J (I n) v (I p.length) (I i) st) fun r => r.1 = I (count p) ∧ Ext st0 r.2 := by
 induction d with
 | zero =>
   intro i n st hi hE hn
   refine ir_Program_Count_l0_of hF hJ ?_
   rw [ir_Program_Count_l0_eq]
   have : i = p.length := by omega
   subst this
   rw [List.take_length] at hn
   simp [ir_Program_Count_j1_eq hJ, hn, hE]
 | succ d ih =>
   intro i n st hi hE hn
   refine ir_Program_Count_l0_of hF hJ ?_
   rw [ir_Program_Count_l0_eq]
   have hlt : i < p.length := by omega
   obtain ⟨b, o, cs, hix, hld, ⟨vp, vi, rfl, hvp, hvi⟩, -⟩ := RSl.at hp (List.getElem?_eq_getElem hlt)
   have hlt' : (i : Int) < p.length := by omega
   simp [hlt', ir_Program_Count_j0_eq hJ, ir_Program_Count_j2_eq hJ, hix, hld _ (hE.agree hA), hvp.len, hvi.len, hvp.cell, hvi.cell, Res.need]
   have h1 := count_take hlt
   have h2 := count_le p (i + 1)
   have h3 := count_nonneg (p.take i)
   have hl : p.length ≤ count p := len_le p
   rw [wrap_id (n := (p[i].instrs.length : Int) + p[i].phis.length) (by omega), wrap_id (n := _ + 1) (by omega), wrap_id (n := n + _) (by omega), wrap_id (n := (i : Int) + 1) (by omega)]
   exact ih (i + 1) _ _ (by omega) hE.bump (by omega)
theorem Count_ok {A : Nat → Prop} {st : St} {v : Value} {p : Prog} (hA : ∀ id, A id → id < st.next) (hp : RProg A st v p) (hs : count p < 2 ^ 62) :
 Ok (K.go (.call n_ir_Program_Count [.agg #[v]]) st) fun r => r.1 = I (count p) ∧ Ext st r.2 := by
 refine ir_Program_Count_of hF fun J hJ => ?_
 rw [ir_Program_Count_eq]
 simp [RSl.len hp]
 exact Count_loop hF hJ hA hp hs p.length 0 0 _ (by omega) (by simp) (by simp [count])
theorem Check_labels {J} (hJ : IsJ K (retK ir_Program_Check_c.results) J) {A : Nat → Prop} {st0 : St} {v v1 : Value} {m : Nat} {p : Prog} (hA : ∀ id, A id → id < st0.next) (hp : RProg A st0 v p) (hro : st0.ro ≤ st0.next) (hl : p.length < 2 ^ 62) (hm0 : st0.next ≤ m) {Q : Value × St → Prop}
 (hcont : ∀ st, Ext st0 st → m < st.next → st.get m = some (mSet (p.map (·.label))) → dupGo [] p = 0 → Ok (ir_Program_Check_j3 J v1 (.map (some m)) st) Q)
 (herr : ∀ st, Ext st0 st → dupGo [] p ≠ 0 → Q (I (dupGo [] p), st)) (d : Nat) :
 ∀ (i : Nat) (st : St), i + d = p.length → Ext st0 st → m < st.next → st.get m = some (mSet ((p.take i).map (·.label))) → dupGo [] p = dupGo ((p.take i).map (·.label)) (p.drop i) →
 Ok (ir_Program_Check_l0 J v1 (.map (some m)) v (I p.length) (I i) st) Q := by
 induction d with
 | zero =>
   intro i st hi hE hm hg hd
   refine ir_Program_Check_l0_of hF hJ ?_
   rw [ir_Program_Check_l0_eq]
   have : i = p.length := by omega
   subst this
   simp
   refine hcont st hE hm (by simpa using hg) (by rw [hd]; simp [dupGo])
 | succ d ih =>
   intro i st hi hE hm hg hd
   refine ir_Program_Check_l0_of hF hJ ?_
   rw [ir_Program_Check_l0_eq]
   have hlt : i < p.length := by omega
   have hlt' : (i : Int) < p.length := by omega
   obtain ⟨b, o, cs, hix, hld, ⟨vp, vi, rfl, hvp, hvi⟩, -⟩ := RSl.at hp (List.getElem?_eq_getElem hlt)
   generalize hseen : (p.take i).map (·.label) = seen at hg hd
   rw [List.drop_eq_getElem_cons hlt, dupGo] at hd
   have hne : m ≠ st.next := by omega
   have hg2 : st.bump.get m = some (mSet seen) := by simp [hne, hg]
   have hro2 : st.bump.ro ≤ m := by have := hE.ro; simp; omega
   by_cases h0 : p[i].label < 0
   ·rw [if_pos (.inl h0)] at hd
    simp [hlt', ir_Program_Check_j2_eq hJ, hix, hld _ (hE.agree hA), hvp.cell, hvi.cell, Res.need, h0]
    rw [hd] at herr
    exact herr _ hE.bump (by decide)
   ·by_cases h1 : 100000 ≤ p[i].label
    ·rw [if_pos (.inr h1)] at hd
     simp [hlt', ir_Program_Check_j2_eq hJ, hix, hld _ (hE.agree hA), hvp.cell, hvi.cell, Res.need, h0, h1]
     rw [hd] at herr
     exact herr _ hE.bump (by decide)
    ·rw [if_neg (by simp [h0, h1])] at hd
     by_cases h2 : p[i].label ∈ seen
     ·rw [if_pos h2] at hd
      simp [hlt', ir_Program_Check_j2_eq hJ, hix, hld _ (hE.agree hA), hvp.cell, hvi.cell, Res.need, h0, h1, ir_Program_Check_j4_eq hJ, sLook_set hg2, h2]
      rw [hd] at herr
      exact herr _ hE.bump (by decide)
     ·rw [if_neg h2] at hd
      simp [hlt', ir_Program_Check_j2_eq hJ, hix, hld _ (hE.agree hA), hvp.cell, hvi.cell, Res.need, h0, h1, ir_Program_Check_j4_eq hJ, sLook_set hg2, h2,
       ir_Program_Check_j5_eq hJ, ir_Program_Check_j8_eq hJ, sMapSet_new hg2 h2 hro2]
      rw [wrap_id (n := (i : Int) + 1) (by omega)]
      refine ih (i + 1) _ (by omega) (hE.bump.put hm0 _) (by simp; omega) ?_ ?_
      ·rw [List.take_succ_eq_append_getElem hlt, List.map_append, hseen]; simp
      ·rw [hd, List.take_succ_eq_append_getElem hlt, List.map_append, hseen]; simp
end Go.Proofs.YtdjfndijbnpkpaaDoor.Sh
