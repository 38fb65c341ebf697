/-
  Contract: Row.
-/
import Derived.Test.YtfknooeebmdfoaaLv3
set_option linter.unusedVariables false
set_option linter.unusedSimpArgs false
set_option linter.unusedSectionVars false
set_option maxRecDepth 100000
namespace Go.Proofs.Ytfknooeebmdfoaa.Sh
open Go Go.AM Go.Proofs

/-- Another register read instead of this one. -/
def rd (spare t : Int) (m : Mv) : Mv := if m.src = t then ⟨m.to, spare⟩ else m
def copyI (m : Mv) : Instr := ⟨1, 0, m.to, m.src, 0, 0, 0⟩

/-- What Row does with moves (each to another register). -/
inductive RowS (spare : Int) : List Mv → List Mv → Prop
  | nil : RowS spare [] []
  | free {l rest : List Mv} (i : Nat) (hi : i < l.length) : idx (free l) l = i → RowS spare (l.eraseIdx i) rest → RowS spare l (l[i] :: rest)
  | round {m : Mv} {l rest : List Mv} : idx (Sh.free (m :: l)) (m :: l) = -1 → RowS spare ((m :: l).map (rd spare m.to)) rest → RowS spare (m :: l) (⟨spare, m.to⟩ :: rest)

def row2F (b : Nat) : Value := .func (.func n_leave_Row_2) #[] #[P b 0]

/-- What there is between two steps of it. -/
structure RI (st0 st : St) (b1 b2 c : Nat) (v : Value) (l : List Mv) (vo : Value) (out : List Instr) (ids : List Nat) : Prop where
  ext : Ext st0 st
  k1 : st0.next ≤ b1
  k2 : b1 < b2
  kc : b2 < c
  kl : c < st.next
  g1 : st.get b1 = some (.cells [v])
  g2 : st.get b2 = some (.cells [vo])
  mv : ML st c v l
  out : RepSl 7 PInstr st vo out ids
  nd : ids.Nodup
  lo : ∀ id ∈ ids, b2 < id ∧ id < st.next ∧ id ≠ c

section
variable {st0 st st' : St} {b1 b2 c : Nat} {v : Value} {l : List Mv} {vo : Value} {out : List Instr} {ids : List Nat}

theorem RI.mono (h : RI st0 st b1 b2 c v l vo out ids) (hE : Ext st st') : RI st0 st' b1 b2 c v l vo out ids where
  ext := h.ext.trans hE
  k1 := h.k1
  k2 := h.k2
  kc := h.kc
  kl := Nat.lt_of_lt_of_le h.kl hE.next
  g1 := by have := h.kl; have := h.kc; have := h.k2; rw [hE.get _ (by omega)]; exact h.g1
  g2 := by have := h.kl; have := h.kc; rw [hE.get _ (by omega)]; exact h.g2
  mv := h.mv.keep (hE.get _ h.kl)
  out := h.out.frame PInstr.fr fun id hi => hE.get id (h.lo id hi).2.1
  nd := h.nd
  lo := fun id hi => ⟨(h.lo id hi).1, Nat.lt_of_lt_of_le (h.lo id hi).2.1 hE.next, (h.lo id hi).2.2⟩

theorem RI.ro (h : RI st0 st b1 b2 c v l vo out ids) (hro : st0.ro ≤ st0.next) : st.ro ≤ b1 := by
  rw [h.ext.ro]; exact Nat.le_trans hro h.k1

/-- The moves are turned in their block. -/
theorem RI.but (h : RI st0 st b1 b2 c v l vo out ids) (hB : But c st st') {l' : List Mv} (hm : ML st' c v l') : RI st0 st' b1 b2 c v l' vo out ids where
  ext := ⟨Nat.le_trans h.ext.next hB.next, hB.ro.trans h.ext.ro, fun id hi => by
    have := h.k1; have := h.k2; have := h.kc; have := h.ext.next
    rw [hB.get id (by omega) (by omega)]; exact h.ext.get id hi⟩
  k1 := h.k1
  k2 := h.k2
  kc := h.kc
  kl := Nat.lt_of_lt_of_le h.kl hB.next
  g1 := by have := h.kl; have := h.kc; have := h.k2; rw [hB.get _ (by omega) (by omega)]; exact h.g1
  g2 := by have := h.kl; have := h.kc; rw [hB.get _ (by omega) (by omega)]; exact h.g2
  mv := hm
  out := h.out.frame PInstr.fr fun id hi => hB.get id (h.lo id hi).2.1 (h.lo id hi).2.2
  nd := h.nd
  lo := fun id hi => ⟨(h.lo id hi).1, Nat.lt_of_lt_of_le (h.lo id hi).2.1 hB.next, (h.lo id hi).2.2⟩

/-- Another slice of moves is in the box. -/
theorem RI.box (h : RI st0 st b1 b2 c v l vo out ids) {v' : Value} {l' : List Mv} (hm : ML st c v' l') : RI st0 (st.put b1 (.cells [v'])) b1 b2 c v' l' vo out ids where
  ext := h.ext.put h.k1 _
  k1 := h.k1
  k2 := h.k2
  kc := h.kc
  kl := h.kl
  g1 := by rw [get_put, if_pos rfl]
  g2 := by have := h.k2; rw [get_put, if_neg (by omega)]; exact h.g2
  mv := hm.keep (by have := h.kc; have := h.k2; rw [get_put, if_neg (by omega)])
  out := h.out.frame PInstr.fr fun id hi => by have := (h.lo id hi).1; have := h.k2; rw [get_put, if_neg (by omega)]
  nd := h.nd
  lo := h.lo
end

section
variable {K : Ctx} (hF : Fix pgF K)
include hF

theorem Put_ok {st0 st : St} {b1 b2 c : Nat} {v : Value} {l : List Mv} {vo : Value} {out : List Instr} {ids : List Nat} (h : RI st0 st b1 b2 c v l vo out ids) (hro : st0.ro ≤ st0.next) (m : Mv) (hb : out.length < 1000) :
    Ok (sCall K (row2F b2) [vM m] st) fun r => r.1 = .tuple #[] ∧ ∃ vo' ids', RI st0 r.2 b1 b2 c v l vo' (out ++ [copyI m]) ids' := by
  have e : sCall K (row2F b2) [vM m] st = K.go (.call n_leave_Row_2 [vM m, P b2 0]) st := by simp [sCall, row2F, taskOf]
  rw [e]
  generalize hQ : (fun r : Value × St => r.1 = .tuple #[] ∧ ∃ vo' ids', RI st0 r.2 b1 b2 c v l vo' (out ++ [copyI m]) ids') = Q
  refine leave_Row_2_of hF fun J hJ => ?_
  rw [leave_Row_2_eq]
  have hbm : RI st0 st.bump b1 b2 c v l vo out ids := h.mono (by simp)
  obtain ⟨vo', st', ids', r, p1, p2, p3, p4, p5, p6⟩ := RepSl.push (bytes := 48) PInstr.fr hbm.out (by omega) (x := copyI m) (cs := cI (copyI m)) (is := []) ⟨rfl, rfl⟩ rfl rfl (fun id hi => (hbm.lo id (by simpa using hi)).2.1) (fun id hi => by
    have := hbm.ro hro; have := (hbm.lo id hi).1; have := h.k2; omega) (by simpa using h.nd) (by omega)
  have hlb : sLbox (vM m) st = .ok (vM m, st.bump) := rfl
  have hl2 : st.bump.load1 b2 0 = .ok vo := load1_eq hbm.g2 rfl
  have hbu : ∀ s, sBuild [U 0, U 0, I 0, I 0, I 0, I 0, I 0] [(0, 1, U 1), (2, 1, I m.to), (3, 1, I m.src)] s = .ok (vI (copyI m), s) := fun s => rfl
  have hli : sLit 7 1 [U 0, U 0, I 0, I 0, I 0, I 0, I 0] [(0, 7, vI (copyI m))] st.bump = .ok (Sl (st.next + 1) 0 1 7, st.bump.alloc (.cells (cI (copyI m)))) := rfl
  have hap : sAppend 7 48 vo (Sl (st.next + 1) 0 1 7) (st.bump.alloc (.cells (cI (copyI m)))) = .ok (vo', st') := r
  have hlr : ∀ s, sLref (vM m) s = .ok (nothing, s) := fun s => rfl
  have hf0 : ∀ s, sField none 0 (vM m) s = .ok (I m.to, s) := fun s => rfl
  have hf1 : ∀ s, sField none 1 (vM m) s = .ok (I m.src, s) := fun s => rfl
  have k1 := h.k1; have k2 := h.k2; have kc := h.kc; have kl := h.kl
  have hkeep : ∀ id, id < st.next → id ∉ ids → st'.get id = st.get id := fun id hi hn => by
    rw [p4 id (Nat.lt_succ_of_lt hi) hn, get_bump, if_neg (by omega)]
  have hn1 : ∀ id, id ≤ b2 → id ∉ ids := fun id hi hm => by have := (h.lo id hm).1; omega
  have g2 : st'.get b2 = some (.cells [vo]) := by rw [hkeep b2 (by omega) (hn1 _ (Nat.le_refl _))]; exact h.g2
  obtain ⟨a, n, k, hsh⟩ := p1.shape
  have p5' : st.next + 1 < st'.next := p5
  have p6' : st'.ro = st.ro := p6
  have hst : st'.storeN b2 0 [vo'] = .ok (st'.put b2 (.cells [vo'])) := by
    have : st'.ro ≤ b2 := by rw [p6']; have := h.ro hro; omega
    rw [hsh]
    simp [g2, this, Res.need]
  have hss : sStore 1 (P b2 0) vo' st' = .ok (nothing, st'.put b2 (.cells [vo'])) := by
    subst hsh
    simp [-storeN_def, Res.need, hst]
  simp [-storeN_def, hlb, hl2, hlr, hf0, hf1, hbu, hli, hap, hss]
  rw [← hQ]
  refine ⟨rfl, vo', ids', ?_⟩
  have hids : ∀ id ∈ ids', b2 < id ∧ id < st'.next ∧ id ≠ c := fun id hi => by
    rcases p3 id hi with q | q | q
    · have := h.lo id q
      exact ⟨this.1, by omega, this.2.2⟩
    · cases q
    · have q1 : st.next + 1 ≤ id := q.1
      exact ⟨by omega, q.2, by omega⟩
  have hcn : c ∉ ids := fun hm => (h.lo c hm).2.2 rfl
  exact { ext := ⟨by have := h.ext.next; show st0.next ≤ st'.next; omega, by show st'.ro = st0.ro; rw [p6']; exact h.ext.ro, fun id hi => by
            have := h.ext.next
            rw [get_put, if_neg (by omega), hkeep id (by omega) (hn1 id (by omega))]; exact h.ext.get id hi⟩
          k1 := k1, k2 := k2, kc := kc, kl := by show c < st'.next; omega
          g1 := by rw [get_put, if_neg (by omega), hkeep b1 (by omega) (hn1 _ (by omega))]; exact h.g1
          g2 := by rw [get_put, if_pos rfl]
          mv := h.mv.keep (by rw [get_put, if_neg (by omega), hkeep c kl hcn])
          out := p1.frame PInstr.fr fun id hi => by have := (hids id hi).1; rw [get_put, if_neg (by omega)]
          nd := p2
          lo := hids }
end
end Go.Proofs.Ytfknooeebmdfoaa.Sh

