/-
  Contract: how many registers a program has.
-/
import Derived.Test.YtfknooeebmdfoaaIrSmall
set_option linter.unusedVariables false
set_option linter.unusedSimpArgs false
set_option linter.unusedSectionVars false
set_option maxRecDepth 100000
namespace Go.Proofs.Ytfknooeebmdfoaa.Sh
open Go Go.AM Go.Proofs

def mx (n r : Int) : Int := if r + 1 > n then r + 1 else n
def fit (n : Int) : Prop := -4611686018427387904 ≤ n ∧ n ≤ 4611686018427387904
def Phi.seen (f : Phi) : List Int := f.dst :: f.args
def Instr.seen (x : Instr) : List Int := (if x.sets.2 = true then [x.sets.1] else []) ++ x.reads
def Last.seen (l : Last) : List Int := if l.reads.2 = true then [l.reads.1] else []
def Block.seen (b : Block) : List Int := b.phis.flatMap Phi.seen ++ (b.instrs.flatMap Instr.seen ++ b.last.seen)
def seen (p : Prog) : List Int := p.flatMap Block.seen
def regs (p : Prog) : Int := (seen p).foldl mx 0

/-- The box of the closure holds a number; nothing that was there is turned. -/
structure Seen (st0 : St) (c : Nat) (st : St) (n : Int) : Prop where
  ext : Ext st0 st
  get : st.get c = some (.cells [I n])
  lt : c < st.next
theorem Seen.put {st0 : St} {c : Nat} {st : St} {n : Int} (h : Seen st0 c st n) (hc : st0.next ≤ c) (m : Int) : Seen st0 c (st.put c (.cells [I m])) m := ⟨h.ext.put hc _, by rw [get_put, if_pos rfl], h.lt⟩
theorem Seen.more {st0 : St} {c : Nat} {st st' : St} {n : Int} (h : Seen st0 c st n) (hE : Ext st st') : Seen st0 c st' n := ⟨h.ext.trans hE, by rw [hE.get _ h.lt]; exact h.get, Nat.lt_of_lt_of_le h.lt hE.next⟩

theorem _root_.Go.AM.Agree.away {A : Nat → Prop} {a b : St} {c : Nat} {o : AObj} (h : Agree A a b) (hc : ¬ A c) : Agree A a (b.put c o) := fun id hid => by
  rw [get_put, if_neg (fun e : id = c => hc (e ▸ hid))]
  exact h id hid

def seeF (c : Nat) : Value := .func (.func n_ir_Program_Regs_1) #[] #[P c 0]

section
variable {K : Ctx} (hF : Fix pgF K) {st0 : St} {c : Nat} (hc : st0.next ≤ c) (hro : st0.ro ≤ st0.next)
include hF hc hro

theorem See_eq {st : St} {n r : Int} (h : Seen st0 c st n) (hr : fit r) : sCall K (seeF c) [I r] st = .ok (.tuple #[], st.put c (.cells [I (mx n r)])) := by
  have e : sCall K (seeF c) [I r] st = K.go (.call n_ir_Program_Regs_1 [I r, P c 0]) st := by simp [sCall, seeF, taskOf]
  rw [e]
  refine Ok.eq (ir_Program_Regs_1_of hF fun J hJ => ?_)
  rw [ir_Program_Regs_1_eq]
  unfold fit at hr
  have hro' : st.ro ≤ c := by rw [h.ext.ro]; omega
  have hst : st.storeN c 0 [I (mx n r)] = .ok (st.put c (.cells [I (mx n r)])) := by simp [h.get, hro', Res.need]
  have hw : IntKind.i64.wrap (r + 1) = r + 1 := wrap_id (by omega)
  have hl : st.load1 c 0 = .ok (I n) := load1_eq h.get rfl
  have hm : (if r + 1 > n then r + 1 else n) = mx n r := rfl
  simp [-storeN_def, hl, hw]
  simp only [gt_iff_lt] at hm
  simp [-storeN_def, hm, hst, Res.need]

variable {J : JT (Value × St)} (hJ : IsJ K (retK ir_Program_Regs_c.results) J) {Q : Value × St → Prop}
include hJ

theorem Regs_l4 {A : Nat → Prop} {st1 : St} {v6 v21 v22 v23 v51 v52 v53 v67 : Value} {l : List Int} (hl : RSl A st1 1 RInt v67 l) (hlen : l.length < 2 ^ 62) (hcA : ¬ A c) (hsm : ∀ r ∈ l, fit r) (d : Nat) : ∀ (i : Nat) (st : St) (n : Int), i + d = l.length → Agree A st1 st → Seen st0 c st n →
    (∀ st', Seen st0 c st' ((l.drop i).foldl mx n) → Ok (ir_Program_Regs_j12 J (P c 0) (seeF c) v6 v21 v22 v23 v51 v52 v53 st') Q) → Ok (ir_Program_Regs_l4 J (P c 0) (seeF c) v6 v21 v22 v23 v51 v52 v53 v67 (I l.length) (I i) st) Q := by
  induction d with
  | zero =>
    intro i st n hi hE hs hk
    refine ir_Program_Regs_l4_of hF hJ ?_
    rw [ir_Program_Regs_l4_eq]
    have : i = l.length := by omega
    subst this
    rw [List.drop_length] at hk
    simp
    exact hk st hs
  | succ d ih =>
    intro i st n hi hE hs hk
    refine ir_Program_Regs_l4_of hF hJ ?_
    rw [ir_Program_Regs_l4_eq]
    have hlt : i < l.length := by omega
    have hlt' : (i : Int) < l.length := by omega
    obtain ⟨b, o, h1, h2, _⟩ := hl.at1 (f := I) (List.getElem?_eq_getElem hlt)
    have hsee := See_eq hF hc hro hs (hsm _ (List.getElem_mem hlt))
    rw [List.drop_eq_getElem_cons hlt] at hk
    simp [hlt', ir_Program_Regs_j11_eq hJ, ir_Program_Regs_j13_eq hJ, h1, h2 st hE, hsee]
    rw [wrap_id (n := (i : Int) + 1) (by omega)]
    exact ih (i + 1) _ _ (by omega) (hE.away hcA) (hs.put hc _) hk

theorem Regs_l2 {A : Nat → Prop} {st1 : St} {v6 v21 v22 v23 v28 v29 v30 v39 : Value} {l : List Int} (hl : RSl A st1 1 RInt v39 l) (hlen : l.length < 2 ^ 62) (hcA : ¬ A c) (hsm : ∀ r ∈ l, fit r) (d : Nat) : ∀ (i : Nat) (st : St) (n : Int), i + d = l.length → Agree A st1 st → Seen st0 c st n →
    (∀ st', Seen st0 c st' ((l.drop i).foldl mx n) → Ok (ir_Program_Regs_j5 J (P c 0) (seeF c) v6 v21 v22 v23 v28 v29 v30 st') Q) → Ok (ir_Program_Regs_l2 J (P c 0) (seeF c) v6 v21 v22 v23 v28 v29 v30 v39 (I l.length) (I i) st) Q := by
  induction d with
  | zero =>
    intro i st n hi hE hs hk
    refine ir_Program_Regs_l2_of hF hJ ?_
    rw [ir_Program_Regs_l2_eq]
    have : i = l.length := by omega
    subst this
    rw [List.drop_length] at hk
    simp
    exact hk st hs
  | succ d ih =>
    intro i st n hi hE hs hk
    refine ir_Program_Regs_l2_of hF hJ ?_
    rw [ir_Program_Regs_l2_eq]
    have hlt : i < l.length := by omega
    have hlt' : (i : Int) < l.length := by omega
    obtain ⟨b, o, h1, h2, _⟩ := hl.at1 (f := I) (List.getElem?_eq_getElem hlt)
    have hsee := See_eq hF hc hro hs (hsm _ (List.getElem_mem hlt))
    rw [List.drop_eq_getElem_cons hlt] at hk
    simp [hlt', ir_Program_Regs_j4_eq hJ, ir_Program_Regs_j8_eq hJ, h1, h2 st hE, hsee]
    rw [wrap_id (n := (i : Int) + 1) (by omega)]
    exact ih (i + 1) _ _ (by omega) (hE.away hcA) (hs.put hc _) hk

theorem Regs_l3 {A : Nat → Prop} {v6 v21 v22 v23 v51 : Value} {l : List Instr} (hA : ∀ id, A id → id < st0.next) (hl : RSl A st0 7 RInstr v51 l) (hlen : l.length < 2 ^ 62) (hsm : ∀ x ∈ l, ∀ r ∈ x.seen, fit r) (d : Nat) : ∀ (i : Nat) (st : St) (n : Int), i + d = l.length → Seen st0 c st n →
    (∀ st', Seen st0 c st' (((l.drop i).flatMap Instr.seen).foldl mx n) → Ok (ir_Program_Regs_j7 J (P c 0) (seeF c) v6 v21 v22 v23 st') Q) → Ok (ir_Program_Regs_l3 J (P c 0) (seeF c) v6 v21 v22 v23 v51 (I l.length) (I i) st) Q := by
  induction d with
  | zero =>
    intro i st n hi hs hk
    refine ir_Program_Regs_l3_of hF hJ ?_
    rw [ir_Program_Regs_l3_eq]
    have : i = l.length := by omega
    subst this
    rw [List.drop_length] at hk
    simp
    exact hk st hs
  | succ d ih =>
    intro i st n hi hs hk
    refine ir_Program_Regs_l3_of hF hJ ?_
    rw [ir_Program_Regs_l3_eq]
    have hlt : i < l.length := by omega
    have hlt' : (i : Int) < l.length := by omega
    obtain ⟨b, o, cs, hix, hld, hcs, -⟩ := hl.at (List.getElem?_eq_getElem hlt)
    have hcs : cs = cI l[i] := hcs
    subst hcs
    have hI : Value.agg (cI l[i]).toArray = vI l[i] := rfl
    have hup : ∀ s, sUpd 7 0 (.agg #[U 0, U 0, I 0, I 0, I 0, I 0, I 0]) (vI l[i]) s = .ok (vI l[i], s) := fun s => by simp [vI, Res.need]
    have hfi : ∀ s, sField (some 7) 0 (vI l[i]) s = .ok (vI l[i], s) := fun s => rfl
    have hsm' := hsm _ (List.getElem_mem hlt)
    rw [List.drop_eq_getElem_cons hlt, List.flatMap_cons, List.foldl_append] at hk
    simp [hlt', ir_Program_Regs_j6_eq hJ, hix, hld _ (hs.ext.agree hA), Res.need, hI, hup, hfi]
    refine (Sets_ok hF l[i] _).call fun s2 hE2 => ?_
    have hs2 : Seen st0 c s2 n := hs.more (Ext.trans (by simp) hE2)
    have key : ∀ (st2 : St) (m : Int), Seen st0 c st2 m → (l[i].seen).foldl mx n = l[i].reads.foldl mx m → Ok (ir_Program_Regs_j9 J (P c 0) (seeF c) v6 (vI l[i]) v21 v22 v23 v51 (I l.length) (I i) st2) Q := fun st2 m h2 e2 => by
      rw [ir_Program_Regs_j9_eq hJ]
      simp [hfi]
      refine (Reads_ok hF l[i] _).thn fun q hq => ?_
      obtain ⟨hq1, hq2⟩ := hq
      simp [hq1.len]
      have hrl : l[i].reads.length < 2 ^ 62 := by
        unfold Instr.reads
        split
        · simp
        · split <;> simp
      refine Regs_l4 hF hc hro hJ hq1 hrl (fun h => by have := h.1; have := h2.lt; omega) (fun r hr => hsm' r (List.mem_append_right _ hr)) l[i].reads.length 0 q.2 m (by omega) (Agree.refl _ _) (h2.more hq2) fun st3 h3 => ?_
      rw [List.drop_zero, ← e2] at h3
      rw [ir_Program_Regs_j12_eq hJ]
      simp
      rw [wrap_id (n := (i : Int) + 1) (by omega)]
      exact ih (i + 1) _ _ (by omega) h3 hk
    cases hb : l[i].sets.2 with
    | false =>
      simp
      exact key s2 n hs2 (by simp [Instr.seen, hb])
    | true =>
      have hsee := See_eq hF hc hro hs2 (hsm' l[i].sets.1 (by simp [Instr.seen, hb]))
      simp [hsee]
      exact key _ _ (hs2.put hc _) (by simp [Instr.seen, hb])

theorem Regs_l1 {A : Nat → Prop} {v6 v21 v22 v23 v28 : Value} {l : List Phi} (hA : ∀ id, A id → id < st0.next) (hl : RSl A st0 3 (RPhi A st0) v28 l) (hlen : l.length < 2 ^ 62) (hsm : ∀ x ∈ l, x.args.length < 2 ^ 62 ∧ ∀ r ∈ x.seen, fit r) (d : Nat) : ∀ (i : Nat) (st : St) (n : Int), i + d = l.length → Seen st0 c st n →
    (∀ st', Seen st0 c st' (((l.drop i).flatMap Phi.seen).foldl mx n) → Ok (ir_Program_Regs_j3 J (P c 0) (seeF c) v6 v21 v22 v23 st') Q) → Ok (ir_Program_Regs_l1 J (P c 0) (seeF c) v6 v21 v22 v23 v28 (I l.length) (I i) st) Q := by
  induction d with
  | zero =>
    intro i st n hi hs hk
    refine ir_Program_Regs_l1_of hF hJ ?_
    rw [ir_Program_Regs_l1_eq]
    have : i = l.length := by omega
    subst this
    rw [List.drop_length] at hk
    simp
    exact hk st hs
  | succ d ih =>
    intro i st n hi hs hk
    refine ir_Program_Regs_l1_of hF hJ ?_
    rw [ir_Program_Regs_l1_eq]
    have hlt : i < l.length := by omega
    have hlt' : (i : Int) < l.length := by omega
    obtain ⟨b, o, cs, hix, hld, ⟨vf, va, rfl, hvf, hva⟩, -⟩ := hl.at (List.getElem?_eq_getElem hlt)
    obtain ⟨hal, hsm'⟩ := hsm _ (List.getElem_mem hlt)
    rw [List.drop_eq_getElem_cons hlt, List.flatMap_cons, List.foldl_append] at hk
    have hs2 : Seen st0 c st.bump n := hs.more (by simp)
    have hsee := See_eq hF hc hro hs2 (hsm' l[i].dst (by simp [Phi.seen]))
    simp [hlt', ir_Program_Regs_j2_eq hJ, hix, hld _ (hs.ext.agree hA), Res.need, hvf.cell, hva.cell, hsee, hva.len]
    have hs3 := hs2.put hc (mx n l[i].dst)
    refine Regs_l2 hF hc hro hJ hva hal (fun h => by have := hA _ h; omega) (fun r hr => hsm' r (by simp [Phi.seen, hr])) l[i].args.length 0 _ _ (by omega) (hs3.ext.agree hA) hs3 fun st3 h3 => ?_
    rw [List.drop_zero] at h3
    rw [ir_Program_Regs_j5_eq hJ]
    simp
    rw [wrap_id (n := (i : Int) + 1) (by omega)]
    exact ih (i + 1) _ _ (by omega) h3 hk

theorem Regs_l0 {A : Nat → Prop} {v21 : Value} {p : Prog} (hA : ∀ id, A id → id < st0.next) (hl : RProg A st0 v21 p) (hlen : count p < 2 ^ 62) (hsm : ∀ b ∈ p, (∀ f ∈ b.phis, f.args.length < 2 ^ 62) ∧ ∀ r ∈ b.seen, fit r) (d : Nat) : ∀ (i : Nat) (st : St) (n : Int), i + d = p.length → Seen st0 c st n →
    (∀ st', Ext st0 st' → Q (I (((p.drop i).flatMap Block.seen).foldl mx n), st')) → Ok (ir_Program_Regs_l0 J (P c 0) (seeF c) v21 (I p.length) (I i) st) Q := by
  induction d with
  | zero =>
    intro i st n hi hs hk
    refine ir_Program_Regs_l0_of hF hJ ?_
    rw [ir_Program_Regs_l0_eq]
    have : i = p.length := by omega
    subst this
    rw [List.drop_length] at hk
    have hl1 : st.load1 c 0 = .ok (I n) := load1_eq hs.get rfl
    simp [ir_Program_Regs_j1_eq hJ, hl1]
    exact hk st hs.ext
  | succ d ih =>
    intro i st n hi hs hk
    refine ir_Program_Regs_l0_of hF hJ ?_
    rw [ir_Program_Regs_l0_eq]
    have hlt : i < p.length := by omega
    have hlt' : (i : Int) < p.length := by omega
    have hll := len_le p
    have hcm := count_mem (List.getElem_mem hlt)
    obtain ⟨b, o, cs, hix, hld, ⟨vp, vi, rfl, hvp, hvi⟩, -⟩ := RSl.at hl (List.getElem?_eq_getElem hlt)
    obtain ⟨hal, hsm'⟩ := hsm _ (List.getElem_mem hlt)
    rw [List.drop_eq_getElem_cons hlt, List.flatMap_cons, List.foldl_append] at hk
    have hsb : Seen st0 c st.bump n := hs.more (by simp)
    have hu7 : ∀ (m : Last) (s : St), sUpd 7 0 (.agg #[I 0, .slice none 0 0, .slice none 0 0, U 0, I 0, I 0, I 0]) (vB p[i].label vp vi m) s = .ok (vB p[i].label vp vi m, s) := fun m s => by simp [vB, hvp.cell, hvi.cell, Res.need]
    have hv : ∀ m : Last, (Value.agg #[I p[i].label, vp, vi, U m.kind, I m.a, I m.yes, I m.no]) = vB p[i].label vp vi m := fun m => rfl
    simp [hlt', ir_Program_Regs_j0_eq hJ, hix, hld _ (hs.ext.agree hA), hvp.cell, hvi.cell, Res.need, hvp.len, hv, hu7]
    refine Regs_l1 hF hc hro hJ hA hvp (by omega) (fun f hf => ⟨hal f hf, fun r hr => hsm' r (List.mem_append_left _ (List.mem_flatMap.2 ⟨f, hf, hr⟩))⟩) p[i].phis.length 0 st.bump n (by omega) hsb fun s1 h1 => ?_
    rw [List.drop_zero] at h1
    rw [ir_Program_Regs_j3_eq hJ]
    simp [hvi.len]
    refine Regs_l3 hF hc hro hJ hA hvi (by omega) (fun x hx r hr => hsm' r (List.mem_append_right _ (List.mem_append_left _ (List.mem_flatMap.2 ⟨x, hx, hr⟩)))) p[i].instrs.length 0 _ _ (by omega) h1 fun s2 h2 => ?_
    rw [List.drop_zero] at h2
    rw [ir_Program_Regs_j7_eq hJ]
    simp
    refine (LReads_ok hF p[i].last _).call fun s3 hE3 => ?_
    have h3 := h2.more hE3
    have e : (p[i].seen).foldl mx n = p[i].last.seen.foldl mx ((p[i].instrs.flatMap Instr.seen).foldl mx ((p[i].phis.flatMap Phi.seen).foldl mx n)) := by
      unfold Block.seen
      rw [List.foldl_append, List.foldl_append]
    rw [e] at hk
    cases hb : p[i].last.reads.2 with
    | false =>
      have e2 : p[i].last.seen = [] := by simp [Last.seen, hb]
      rw [e2] at hk
      simp [ir_Program_Regs_j10_eq hJ]
      rw [wrap_id (n := (i : Int) + 1) (by omega)]
      exact ih (i + 1) _ _ (by omega) h3 hk
    | true =>
      have e2 : p[i].last.seen = [p[i].last.reads.1] := by simp [Last.seen, hb]
      have hsee := See_eq hF hc hro h3 (hsm' p[i].last.reads.1 (List.mem_append_right _ (List.mem_append_right _ (by rw [e2]; simp))))
      rw [e2] at hk
      simp [hsee, ir_Program_Regs_j10_eq hJ]
      rw [wrap_id (n := (i : Int) + 1) (by omega)]
      exact ih (i + 1) _ _ (by omega) (h3.put hc _) hk
end

theorem Regs_ok {K : Ctx} (hF : Fix pgF K) {A : Nat → Prop} {st : St} {v : Value} {p : Prog} (hA : ∀ id, A id → id < st.next) (hro : st.ro ≤ st.next) (hl : RProg A st v p) (hlen : count p < 2 ^ 62) (hsm : ∀ b ∈ p, (∀ f ∈ b.phis, f.args.length < 2 ^ 62) ∧ ∀ r ∈ b.seen, fit r) :
    Ok (K.go (.call n_ir_Program_Regs [.agg #[v]]) st) fun r => r.1 = I (regs p) ∧ Ext st r.2 := by
  generalize hQ : (fun r : Value × St => r.1 = I (regs p) ∧ Ext st r.2) = Q
  have hq : ∀ s, Ext st s → Q (I (regs p), s) := fun s h => by rw [← hQ]; exact ⟨rfl, h⟩
  clear hQ
  refine ir_Program_Regs_of hF fun J hJ => ?_
  rw [ir_Program_Regs_eq]
  have hf : Value.func (.func n_ir_Program_Regs_1) #[] #[P (st.next + 1) 0] = seeF (st.next + 1) := rfl
  have hle : st.ro ≤ st.next + 1 := by omega
  simp [RSl.len hl, hle, Res.need, hf]
  refine Regs_l0 hF (st0 := st) (c := st.next + 1) (by omega) hro hJ hA hl hlen hsm p.length 0 _ 0 (by omega) ⟨?_, ?_, ?_⟩ fun s hs => ?_
  · exact Ext.put (by simp) (Nat.le_succ _) _
  · rw [get_put, if_pos rfl]
  · exact Nat.lt_succ_self _
  · rw [List.drop_zero]
    exact hq s hs
end Go.Proofs.Ytfknooeebmdfoaa.Sh

