/-
  Programs in memory, in blocks of their own.
-/
import Derived.Test.YtdjfndijbnpkpaaDoorIr6
import Derived.Test.YtdjfndijbnpkpaaDoorAmC
set_option linter.unusedVariables false
set_option linter.unusedSimpArgs false
set_option linter.unusedSectionVars false
set_option maxRecDepth 100000
namespace Go.Proofs.YtdjfndijbnpkpaaDoor.Sh
open Go Go.AM Go.Proofs
def PInt : Rep Int := fun _ cs n is => cs = [I n] ∧ is = []
def PInstr : Rep Instr := fun _ cs x is => cs = cI x ∧ is = []
def PPhi : Rep Phi := fun st cs f is => ∃ vf va i1 i2, cs = [I f.dst, vf, va] ∧ RepSl 1 PInt st vf f.frm i1 ∧ RepSl 1 PInt st va f.args i2 ∧ is = i1 ++ i2
def vB (n : Int) (vp vi : Value) (l : Last) : Value := .agg #[I n, vp, vi, U l.kind, I l.a, I l.yes, I l.no]
def cB (n : Int) (vp vi : Value) (l : Last) : List Value := [I n, vp, vi, U l.kind, I l.a, I l.yes, I l.no]
section
variable (n : Int) (vp vi : Value) (l : Last) (st : St)
@[simp] theorem sField_vB0 : sField none 0 (vB n vp vi l) st = .ok (I n, st) := rfl
@[simp] theorem sField_vB1 : sField none 1 (vB n vp vi l) st = .ok (vp, st) := rfl
@[simp] theorem sField_vB2 : sField none 2 (vB n vp vi l) st = .ok (vi, st) := rfl
@[simp] theorem sField_vB3 : sField (some 4) 3 (vB n vp vi l) st = .ok (vL l, st) := rfl
@[simp] theorem sField_vB : sField (some 7) 0 (vB n vp vi l) st = .ok (vB n vp vi l, st) := rfl
@[simp] theorem sLref_vB : sLref (vB n vp vi l) st = .ok (nothing, st) := rfl
@[simp] theorem isTuple_vB : isTuple (vB n vp vi l) = false := rfl
theorem sUpd_vBi {v : Value} (h1 : cellOk v = true) (h2 : isTuple v = false) (h3 : v.cells = #[v]) : sUpd 1 2 (vB n vp vi l) v st = .ok (vB n vp v l, st) := (sUpd_one 1 2 [I n, vp, vi, U l.kind, I l.a, I l.yes, I l.no] st h2 h3 h1).trans (by simp [Res.need, vB])
@[simp] theorem sUpd_vBl (m : Last) : sUpd 4 3 (vB n vp vi l) (vL m) st = .ok (vB n vp vi m, st) := by simp [vB, vL, Res.need]
@[simp] theorem sLit_vB : sLit 7 1 [I 0, .slice none 0 0, .slice none 0 0, U 0, I 0, I 0, I 0] [(0, 7, vB n vp vi l)] st = .ok (Sl st.next 0 1 7, st.alloc (.cells (cB n vp vi l))) := rfl
@[simp] theorem sLit_vI (x : Instr) : sLit 7 1 [U 0, U 0, I 0, I 0, I 0, I 0, I 0] [(0, 7, vI x)] st = .ok (Sl st.next 0 1 7, st.alloc (.cells (cI x))) := rfl
end
def PBlock : Rep Block := fun st cs b is => ∃ vp vi i1 i2, cs = cB b.label vp vi b.last ∧ RepSl 3 PPhi st vp b.phis i1 ∧ RepSl 7 PInstr st vi b.instrs i2 ∧ is = i1 ++ i2
def PProg (st : St) (v : Value) (p : Prog) (is : List Nat) : Prop := RepSl 7 PBlock st v p is
theorem PInt.fr : Framed PInt := ⟨fun h _ => h⟩
theorem PInstr.fr : Framed PInstr := ⟨fun h _ => h⟩
theorem PPhi.fr : Framed PPhi := ⟨fun ⟨vf, va, i1, i2, h1, h2, h3, h4⟩ hE => by
 subst h4
 exact ⟨vf, va, i1, i2, h1, h2.frame PInt.fr fun id hi => hE id (List.mem_append_left _ hi), h3.frame PInt.fr fun id hi => hE id (List.mem_append_right _ hi), rfl⟩⟩
theorem PBlock.fr : Framed PBlock := ⟨fun ⟨vp, vi, i1, i2, h1, h2, h3, h4⟩ hE => by
 subst h4
 exact ⟨vp, vi, i1, i2, h1, h2.frame PPhi.fr fun id hi => hE id (List.mem_append_left _ hi), h3.frame PInstr.fr fun id hi => hE id (List.mem_append_right _ hi), rfl⟩⟩
theorem PProg.frame {st st' : St} {v : Value} {p : Prog} {is : List Nat} (h : PProg st v p is) (hE : ∀ id ∈ is, st'.get id = st.get id) : PProg st' v p is := RepSl.frame PBlock.fr h hE
theorem PPhi.read {st : St} {cs : List Value} {f : Phi} {is js : List Nat} (h : PPhi st cs f is) (hs : ∀ id ∈ is, id ∈ js) : RPhi (fun id => id ∈ js) st cs f := by
 obtain ⟨vf, va, i1, i2, h1, h2, h3, rfl⟩ := h
 exact ⟨vf, va, h1, (h2.rsl fun cs x is _ _ h => h.1).in fun id hi => hs id (List.mem_append_left _ hi), (h3.rsl fun cs x is _ _ h => h.1).in fun id hi => hs id (List.mem_append_right _ hi)⟩
theorem PBlock.read {st : St} {cs : List Value} {b : Block} {is js : List Nat} (h : PBlock st cs b is) (hs : ∀ id ∈ is, id ∈ js) : RBlock (fun id => id ∈ js) st cs b := by
 obtain ⟨vp, vi, i1, i2, h1, h2, h3, rfl⟩ := h
 exact ⟨vp, vi, h1, (h2.rsl fun cs x is _ hi h => h.read fun id hid => hs id (List.mem_append_left _ (hi id hid))).in fun id hi => hs id (List.mem_append_left _ hi), (h3.rsl fun cs x is _ _ h => h.1).in fun id hi => hs id (List.mem_append_right _ hi)⟩
theorem PProg.read {st : St} {v : Value} {p : Prog} {is : List Nat} (h : PProg st v p is) : RProg (fun id => id ∈ is) st v p :=
 RepSl.rsl h fun cs b is' _ hi hb => hb.read hi
theorem nodup_swap {ids is is' : List Nat} {n : Nat} (h : (ids ++ is).Nodup) (h' : is'.Nodup) (hi : ∀ id ∈ is', id ∈ is ∨ n ≤ id) (hl : ∀ id ∈ ids, id < n) : (ids ++ is').Nodup := by
 rw [List.nodup_append] at h ⊢
 refine ⟨h.1, h', fun a ha b hb e => ?_⟩
 subst e
 rcases hi a hb with hi | hi
 ·exact h.2.2 a ha a hi rfl
 ·have := hl a ha; omega
@[simp] theorem sMax (x y : Int) (st : St) : sMinmax true (I x) [I y] st = .ok (I (if y > x then y else x), st) := rfl
theorem ext_of {st0 st st' : St} (h : Ext st0 st) (hn : st.next ≤ st'.next) (hr : st'.ro = st.ro) {ids : List Nat} (hlo : ∀ id ∈ ids, st0.next ≤ id) (hk : ∀ id, id < st.next → id ∉ ids → st'.get id = st.get id) : Ext st0 st' :=
 ⟨Nat.le_trans h.next hn, hr.trans h.ro, fun id hi => (hk id (Nat.lt_of_lt_of_le hi h.next) fun hm => by have := hlo id hm; omega).trans (h.get id hi)⟩
theorem RPhi.in {A A' : Nat → Prop} {st : St} {cs : List Value} {f : Phi} (h : RPhi A st cs f) (hA : ∀ id, A id → A' id) : RPhi A' st cs f := by
 obtain ⟨vf, va, h1, h2, h3⟩ := h
 exact ⟨vf, va, h1, h2.in hA, h3.in hA⟩
theorem RBlock.in {A A' : Nat → Prop} {st : St} {cs : List Value} {b : Block} (h : RBlock A st cs b) (hA : ∀ id, A id → A' id) : RBlock A' st cs b := by
 obtain ⟨vp, vi, h1, h2, h3⟩ := h
 exact ⟨vp, vi, h1, h2.mono hA (Agree.refl _ _) fun _ _ _ h => h.in hA, h3.in hA⟩
theorem RProg.in {A A' : Nat → Prop} {st : St} {v : Value} {p : Prog} (h : RProg A st v p) (hA : ∀ id, A id → A' id) : RProg A' st v p := RSl.mono h hA (Agree.refl _ _) fun _ _ _ h => h.in hA
end Go.Proofs.YtdjfndijbnpkpaaDoor.Sh
