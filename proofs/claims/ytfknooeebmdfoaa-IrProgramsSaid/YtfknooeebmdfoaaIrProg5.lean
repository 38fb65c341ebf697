/-
  IrPrograms: the range over the instructions; what is behind it.
-/
import Derived.Test.YtfknooeebmdfoaaIrProg4
set_option linter.unusedVariables false
set_option linter.unusedSimpArgs false
set_option linter.unusedSectionVars false
set_option maxRecDepth 100000
namespace Go.Proofs.Ytfknooeebmdfoaa.Sh
open Go Go.AM Go.Proofs

theorem sRange_of {R : Type} {K : Ctx} {f : Value} {st : St} {o : AObj} {k : AExit → St → Res R} {t : Task} {Q : R → Prop} (ht : taskOf f [.func (.yield st.next) #[] #[]] = .ok t) (hc : t.isCall = true)
    (h : Ok (K.go t (st.alloc o)) fun p => ∃ e ps a b pend, p.2.get st.next = some (.loop e ps a b .ready pend) ∧ Ok (k pend (p.2.put st.next .dead)) Q) : Ok (sRange K f st o k) Q := by
  unfold sRange
  rw [ht, Res.bind_ok, hc, Res.need_true, Res.bind_ok]
  refine h.bind fun p ⟨e, ps, a, b, pend, h1, h2⟩ => ?_
  rw [h1]
  exact h2

theorem j8_eq' {K : Ctx} {J : JT (Value × St)} (hJ : IsJ K (retK refinerylaw03_IrPrograms_c.results) J) (v1 v6 v7 v11 v12 v13 v14 v16 v25 v26 v27 v160 : Value) (st : St) : refinerylaw03_IrPrograms_j8 J v1 v6 v7 v11 v12 v13 v14 v16 v25 v26 v27 v160 st =
    sRange K v160 st (.loop (prE v1 v6 v7 v11 v12 v13 v14 v16 v25 v26 v27 v160) [161, 162] prA prB .ready .normal) (fun x s => refinerylaw03_IrPrograms_x0 K J x v1 v6 v7 v11 v12 v13 v14 v16 v25 v26 v27 v160 s) := refinerylaw03_IrPrograms_j8_eq hJ _ _ _ _ _ _ _ _ _ _ _ _ _

variable {K : Ctx} (hF : Fix pgF K)
include hF
variable {J : JT (Value × St)} (hJ : IsJ K (retK refinerylaw03_IrPrograms_c.results) J)
include hJ

theorem Progs_j7 {Ap Aq Aa : Nat → Prop} {sb st : St} {vp vq vf va vl : Value} {p tl : Prog} {b : Block} {f : Phi} {d : Int} {rz qb rb lb : Nat} {ids : List Nat} {r0 : Value} {so : Bool} (hro : sb.ro ≤ sb.next) (hrz : sb.get rz = some (.cells [r0])) (hrro : sb.ro ≤ rz) (hqb : sb.get qb = some (.cells [vq]))
    (k1 : rz < sb.next) (k2 : qb < sb.next) (hAp : ∀ id, Ap id → id < sb.next) (hAq : ∀ id, Aq id → id < sb.next) (hAa : ∀ id, Aa id → id < sb.next) (hp : RProg Ap sb vp p) (hq : RProg Aq sb vq (b :: tl)) (ha : RSl Aa sb 1 RInt va f.args) (hne : ¬ p = b :: tl) (hplen : p.length < 2 ^ 62) (hpf : ∀ x ∈ p, x.fits)
    (hc : count (b :: tl) < 400) (hsm : ∀ x ∈ b :: tl, ∀ g ∈ x.phis, g.frm.length < 2 ^ 40 ∧ g.args.length < 2 ^ 40) (hfit : ∀ x ∈ b :: tl, (∀ g ∈ x.phis, g.args.length < 2 ^ 62) ∧ ∀ r ∈ x.seen, fit r) (hs : ∀ x ∈ b :: tl, x.fits) (hl : (b :: tl).length < 2 ^ 62) (hph : b.phis = [f]) (hd : 0 ≤ d ∧ d ≤ 255) (hfd : f.dst = d) (hfa : f.args.length < 2 ^ 62) (hfr : ∀ r ∈ f.args, fit r) (hchk : decide (check (b :: tl) = 0) = so)
    {n0 : Int} (hregs : (f.dst :: f.args).foldl mx n0 = regs (b :: tl)) (hw : WI sb st rb lb n0 vl ((b :: tl).flatMap (·.instrs)) ids) :
    Ok (refinerylaw03_IrPrograms_j7 J (U d) (P rz 0) (.agg #[vp]) (.agg #[I d, vf, va]) (B so) (P qb 0) (I (count (b :: tl))) (P rb 0) (seeF2 rb) (P lb 0) nothing nothing st) fun r => r.1 = B true := by
  rw [refinerylaw03_IrPrograms_j7_eq hJ]
  have hfd' : fit d := by unfold fit; omega
  have w1 := hw.k1; have w2 := hw.k2; have w3 := hw.kl
  simp [Res.of]
  have h1 := hw.mono (st' := st.alloc (.cells [I d])) (by simp)
  have hone : RSl (fun id => id = st.next) (st.alloc (.cells [I d])) 1 RInt (Sl st.next 0 1 1) [d] := rsl_ints [d] [] (by simp) rfl
  refine (SeeL_ok hF hone (fun id hid => ⟨by rw [hid]; exact Nat.lt_succ_self _, by omega⟩) (by rw [h1.ext.ro]; omega) (fun r hr => by rw [List.mem_singleton.1 hr]; exact hfd') (by simp) h1.gr).thn fun ⟨r1, s2⟩ ⟨g1, g2, g3⟩ => ?_
  simp only at g1 g2 g3 ⊢
  subst g1
  have h2 := h1.see g3 g2
  refine (SeeL_ok hF (ha.mono (fun _ h => h) (h2.ext.agree hAa) fun _ _ _ h => h) (fun id hid => ⟨Nat.lt_of_lt_of_le (hAa id hid) h2.ext.next, by have := hAa id hid; omega⟩) (by rw [h2.ext.ro]; omega) hfr hfa h2.gr).thn fun ⟨r1, s3⟩ ⟨g4, g5, g6⟩ => ?_
  simp only at g4 g5 g6 ⊢
  subst g4
  have h3 := h2.see g6 g5
  have hrg : f.args.foldl mx ([d].foldl mx n0) = regs (b :: tl) := by rw [← hregs, hfd]; rfl
  rw [hrg] at h3
  clear h1 hone g2 g3 h2 g5 g6
  have hX := h3.ext
  have hro3 : s3.ro ≤ s3.next := hX.roOk hro
  generalize hall : (b :: tl).flatMap (·.instrs) = all at *
  -- the box of k; the function
  have f1 : sNew [I 0] s3 = .ok (P s3.next 0, s3.alloc (.cells [I 0])) := rfl
  have f2 : sStore 1 (P s3.next 0) (.int .i64 0) (s3.alloc (.cells [I 0])) = .ok (nothing, (s3.alloc (.cells [I 0])).put s3.next (.cells [I 0])) := by simp [hro3, Res.need]
  generalize hs4 : (s3.alloc (.cells [I 0])).put s3.next (.cells [I 0]) = s4 at f2
  have n4 : s4.next = s3.next + 1 := by rw [← hs4]; rfl
  have g4 : s4.get s3.next = some (.cells [I 0]) := by rw [← hs4, get_put, if_pos rfl]
  have E4 : Ext s3 s4 := by rw [← hs4]; exact (Ext.alloc (Ext.refl _) _).put (Nat.le_refl _) _
  clear hs4
  have hX4 := hX.trans E4
  have f3 : s4.loadN qb 0 1 = .ok [vq] := by rw [loadN_def, hX4.get _ k2, hqb]; simp [Res.need]
  have f4 : Ok (K.go (.call n_ir_Program_Instrs [.agg #[vq]]) s4) fun r => r = (.func (.func n_ir_Program_Instrs_1) #[] #[P s4.next 0], s4.alloc (.cells [vq])) := by
    refine ir_Program_Instrs_of hF fun J hJ => ?_
    rw [ir_Program_Instrs_eq]
    simp
  simp [-sNew_eq, -sStore_int, f1, f2, f3, hro3, Res.need]
  refine f4.thn fun r hr => ?_
  subst hr
  simp only
  generalize hs5 : s4.alloc (.cells [vq]) = s5
  have n5 : s5.next = s3.next + 2 := by rw [← hs5, next_alloc, n4]
  have g5 : s5.get s4.next = some (.cells [vq]) := by rw [← hs5, get_alloc, if_pos rfl]
  have E5 : Ext s3 s5 := by rw [← hs5]; exact E4.alloc _
  have g5k : s5.get s3.next = some (.cells [I 0]) := by rw [← hs5, get_alloc, if_neg (by omega)]; exact g4
  clear hs5
  rw [j8_eq' hJ]
  have hcall : taskOf (.func (.func n_ir_Program_Instrs_1) #[] #[P s4.next 0]) [.func (.yield s5.next) #[] #[]] = .ok (.call n_ir_Program_Instrs_1 [.func (.yield s5.next) #[] #[], P s4.next 0]) := by simp [taskOf]
  refine sRange_of hcall rfl ?_
  -- the rounds
  generalize he : prE (U d) (P rz 0) (.agg #[vp]) (B so) (P qb 0) (I (count (b :: tl))) (P rb 0) (P lb 0) (P s3.next 0) nothing nothing (.func (.func n_ir_Program_Instrs_1) #[] #[P s4.next 0]) = e
  have hAq3 : ∀ id, Aq id → id < s3.next := fun id h => Nat.lt_of_lt_of_le (hAq id h) hX.next
  have hq3 := hq.mono (hX.agree hAq)
  have hvl := h3.ls.rsl (R' := RInstr) fun cs x is _ _ h => h.1
  have hpl : (pairs 0 (b :: tl)).length = all.length := by
    rw [← hall, ← pairs_snd (b :: tl) 0, List.length_map]
  have hcl : ∀ q : Prog, ((q.flatMap (·.instrs)).length : Int) ≤ count q := fun q => by
    induction q with
    | nil => simp [count]
    | cons c q ih =>
      rw [List.flatMap_cons, List.length_append]
      have : count (c :: q) = (c.instrs.length + c.phis.length + 1 : Int) + count q := by simp [count]
      omega
  have hal : all.length < 400 := by have := hcl (b :: tl); rw [hall] at this; omega
  have E6 : Ext s5 (s5.alloc (.loop e [161, 162] prA prB .ready .normal)) := by simp
  have E36 := E5.trans E6
  have rv0 : RV s3 (s5.alloc (.loop e [161, 162] prA prB .ready .normal)) s3.next s5.next e 0 :=
    ⟨E36, Nat.le_refl _, by omega, Nat.lt_succ_self _, by rw [get_alloc, if_neg (by omega)]; exact g5k, by rw [get_alloc, if_pos rfl]⟩
  refine (Instrs1_ok hF (A := Aq) (st0 := s5.alloc (.loop e [161, 162] prA prB .ready .normal)) (v8 := vq) (p := b :: tl) (Inv := fun l st => ∃ pre, pairs 0 (b :: tl) = pre ++ l ∧ RV s3 st s3.next s5.next e pre.length)
    (load1_eq (by rw [get_alloc, if_neg (by omega)]; exact g5) rfl) (hq3.mono (E36.agree hAq3)) (fun l st ⟨pre, _, hv⟩ id hid => by rw [hv.ext.get id (hAq3 id hid), E36.get id (hAq3 id hid)]) (fun l st ⟨pre, h1, hv⟩ => ⟨pre, h1, hv.mono (by simp)⟩) (fun i x l st ⟨pre, h1, hv⟩ => ?_) hl (fun c hc => (hs c hc).2.1) ⟨[], rfl, rv0⟩).mono fun ⟨r1, s7⟩ ⟨h7, pre, hpre, hv⟩ => ?_
  · have hlen : pre.length < 2 ^ 62 := by
      have := congrArg List.length h1
      rw [List.length_append, hpl] at this; omega
    subst he
    refine (Progs_round hF hro3 (A := fun id => Aq id ∨ id ∈ ids ∨ (st.next ≤ id ∧ False) ∨ id < s3.next) (fun id h => ?_) (hq3.in fun id h => .inl h) (Nat.lt_of_lt_of_le k2 hX.next) (by rw [hX.get _ k2]; exact hqb) (vl := vl) (by rw [hall]; exact hvl.in fun id hi => .inr (.inr (.inr (h3.lo id hi).2))) (Nat.lt_of_lt_of_le h3.kl (Nat.le_refl _)) h3.gl (fun c hc => (hs c hc).2.1) h1 hlen hv).mono fun r hr => ⟨hr.1, pre ++ [(i, x)], by rw [h1]; simp, by rw [List.length_append, List.length_singleton]; exact hr.2⟩
    rcases h with h | h | h | h
    · exact hAq3 id h
    · exact (h3.lo id h).2
    · exact h.2.elim
    · exact h
  simp only at hv ⊢
  rw [List.append_nil] at hpre
  refine ⟨_, _, _, _, _, hv.gL, ?_⟩
  rw [refinerylaw03_IrPrograms_x0_n]
  have hT : Ext s3 (s7.put s5.next .dead) := hv.ext.put (by omega) _
  have hTb := hX.trans hT
  have hn : pre.length = all.length := by rw [← hpl, hpre]
  have hkb : (s7.put s5.next .dead).get s3.next = some (.cells [I all.length]) := by rw [get_put, if_neg (by omega), ← hn]; exact hv.gk
  have hlv : ∀ s, sLen .slice vl s = .ok (I all.length, s) := h3.ls.len
  refine Progs_j13 hF hJ (Ap := Ap) (Aq := Aq) (n := all.length) (hTb.roOk hro) (by rw [hTb.get _ k1]; exact hrz) (by rw [hTb.ro]; exact hrro) (by rw [hTb.get _ k2]; exact hqb) (by rw [hT.get _ (by have := h3.k2; have := h3.kl; omega)]; exact h3.gr) (by rw [hT.get _ h3.kl]; exact h3.gl) hkb (Nat.lt_of_lt_of_le k1 hTb.next) (Nat.lt_of_lt_of_le k2 hTb.next) (Nat.lt_of_lt_of_le (by have := h3.k2; have := h3.kl; omega) hT.next) (Nat.lt_of_lt_of_le h3.kl hT.next) (by have := hv.k2; have := hv.kl; show s3.next < s7.next; omega) hlv
    (fun id h => Nat.lt_of_lt_of_le (hAp id h) hTb.next) (fun id h => Nat.lt_of_lt_of_le (hAq id h) hTb.next) (hp.mono (hTb.agree hAp)) (hq.mono (hTb.agree hAq)) hne hplen hpf (by omega) hsm hfit hs hl hph hd hfd hchk
end Go.Proofs.Ytfknooeebmdfoaa.Sh

