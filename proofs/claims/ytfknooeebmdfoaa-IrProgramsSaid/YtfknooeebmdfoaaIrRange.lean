/-
  Ranges over functions: one round; Program.Instrs.
-/
import Derived.Test.YtfknooeebmdfoaaIrSame
set_option linter.unusedVariables false
set_option linter.unusedSimpArgs false
set_option linter.unusedSectionVars false
set_option maxRecDepth 100000
namespace Go.Proofs.Ytfknooeebmdfoaa.Sh
open Go Go.AM Go.Proofs

/-- One round of a range over a function. -/
theorem round_of {Γ : Funs} {K : Ctx} (hF : Fix Γ K) {l : Nat} {args : List Value} {st st1 : St} {e e1 e2 : Env} {ps ps2 : List Tmp} {ac bd as2 bd2 : ACode} {s : LoopState} {pd pd2 : AExit} {Q : Value × St → Prop}
    (h0 : st.get l = some (.loop e ps ac bd s pd)) (hl : args.length = ps.length) (hro : st.ro ≤ l) (has : codeC K ac (putL e ps args) st = .ok (.normal, e1, st1)) (h2 : st1.get l = some (.loop e2 ps2 as2 bd2 .ready pd2))
    (hb : ∀ J, IsJ K rawK J → Ok (atR K J bd e1 (st1.put l (.loop e2 ps2 as2 bd2 .busy pd2))) fun r => ∃ e4 ps4 as4 bd4 s4 pd4, r.2.get l = some (.loop e4 ps4 as4 bd4 s4 pd4) ∧
      Q (match r.1 with | .normal => (.bool true, r.2.put l (.loop e4 ps4 as4 bd4 .ready .normal)) | x => (.bool false, r.2.put l (.loop e4 ps4 as4 bd4 .done x)))) : Ok (K.go (.round l args) st) Q := by
  obtain ⟨r, h, e4, ps4, as4, bd4, s4, pd4, hg, hq⟩ := hb (fun ks => kOf K rawK ks .normal) (fun _ _ _ => rfl)
  unfold atR at h
  rw [codeJ_eq (fin := rawK) (k := rawK) (ks := []) (fun _ _ _ => rfl) bd (fun _ _ _ => rfl)] at h
  rw [Res.bind_eq_ok] at h
  obtain ⟨⟨x, e3, st3⟩, h1, h⟩ := h
  have hk : kOf K rawK [] x e3 st3 = .ok (x, st3) := by cases x <;> rfl
  rw [hk] at h
  cases h
  exact ⟨_, hF.round h0 hl hro has h2 h1 hg, hq⟩

/-- All instructions, with where each stands. -/
def pairs : Nat → Prog → List (Nat × Instr)
  | _, [] => []
  | i, b :: p => b.instrs.map (fun x => (i, x)) ++ pairs (i + 1) p

theorem pairs_drop {p : Prog} {i : Nat} (h : i < p.length) : pairs i (p.drop i) = p[i].instrs.map (fun x => (i, x)) ++ pairs (i + 1) (p.drop (i + 1)) := by
  rw [List.drop_eq_getElem_cons h, pairs]

variable {K : Ctx} (hF : Fix pgF K)
include hF

section
variable {J : JT (Value × St)} (hJ : IsJ K (retK ir_Program_Instrs_1_c.results) J) {A : Nat → Prop} {st0 : St} {v0 v8 : Value} {p : Prog} {Inv : List (Nat × Instr) → St → Prop}
include hJ

theorem Instrs_l1 (hI : ∀ l st, Inv l st → Agree A st0 st) (hb : ∀ l st, Inv l st → Inv l st.bump) (hy : ∀ i x l st, Inv ((i, x) :: l) st → Ok (sCall K v0 [I i, vI x] st) fun r => r.1 = B true ∧ Inv l r.2)
    {Q : Value × St → Prop} {n i : Nat} {v16 : Value} {li : List Instr} {rest : List (Nat × Instr)} (hli : RSl A st0 7 RInstr v16 li) (hll : li.length < 2 ^ 62)
    (hk : ∀ st, Inv rest st → Ok (ir_Program_Instrs_1_j2 J v0 v8 (I n) (I i) st) Q) (d : Nat) : ∀ (j : Nat) (st : St), j + d = li.length → Inv ((li.drop j).map (fun x => (i, x)) ++ rest) st → Ok (ir_Program_Instrs_1_l1 J v0 (I i) v8 (I n) (I i) v16 (I li.length) (I j) st) Q := by
  induction d with
  | zero =>
    intro j st hj h
    refine ir_Program_Instrs_1_l1_of hF hJ ?_
    rw [ir_Program_Instrs_1_l1_eq]
    have : j = li.length := by omega
    subst this
    rw [List.drop_length] at h
    simp
    exact hk st h
  | succ d ih =>
    intro j st hj h
    refine ir_Program_Instrs_1_l1_of hF hJ ?_
    rw [ir_Program_Instrs_1_l1_eq]
    have hlt : j < li.length := by omega
    have hlt' : (j : Int) < li.length := by omega
    obtain ⟨b, o, cs, k1, k2, k3, -⟩ := hli.at (List.getElem?_eq_getElem hlt)
    have k3 : cs = cI li[j] := k3
    subst k3
    have hv : ∀ x, Value.agg (cI x).toArray = vI x := fun x => rfl
    rw [List.drop_eq_getElem_cons hlt, List.map_cons, List.cons_append] at h
    simp [hlt', ir_Program_Instrs_1_j1_eq hJ, k1, k2 st (hI _ _ h), hv]
    refine (hy _ _ _ _ (hb _ _ h)).thn fun ⟨r1, s⟩ ⟨h1, h2⟩ => ?_
    simp only at h1 h2 ⊢
    subst h1
    simp [ir_Program_Instrs_1_j3_eq hJ]
    rw [wrap_id (n := (j : Int) + 1) (by omega)]
    exact ih (j + 1) s (by omega) h2

theorem Instrs_l0 (hA : RSl A st0 7 (RBlock A st0) v8 p) (hI : ∀ l st, Inv l st → Agree A st0 st) (hb : ∀ l st, Inv l st → Inv l st.bump) (hy : ∀ i x l st, Inv ((i, x) :: l) st → Ok (sCall K v0 [I i, vI x] st) fun r => r.1 = B true ∧ Inv l r.2)
    (hpl : p.length < 2 ^ 62) (hs : ∀ b ∈ p, b.instrs.length < 2 ^ 62) (d : Nat) : ∀ (i : Nat) (st : St), i + d = p.length → Inv (pairs i (p.drop i)) st → Ok (ir_Program_Instrs_1_l0 J v0 v8 (I p.length) (I i) st) fun r => r.1 = .tuple #[] ∧ Inv [] r.2 := by
  induction d with
  | zero =>
    intro i st hi h
    generalize hQ : (fun r : Value × St => r.1 = .tuple #[] ∧ Inv [] r.2) = Q
    refine ir_Program_Instrs_1_l0_of hF hJ ?_
    rw [ir_Program_Instrs_1_l0_eq]
    have : i = p.length := by omega
    subst this
    rw [List.drop_length] at h
    simp
    rw [← hQ]
    exact ⟨rfl, h⟩
  | succ d ih =>
    intro i st hi h
    generalize hQ : (fun r : Value × St => r.1 = .tuple #[] ∧ Inv [] r.2) = Q
    refine ir_Program_Instrs_1_l0_of hF hJ ?_
    rw [ir_Program_Instrs_1_l0_eq]
    have hlt : i < p.length := by omega
    have hlt' : (i : Int) < p.length := by omega
    obtain ⟨b, o, cs, k1, k2, ⟨vp, vi, rfl, p1, p2⟩, -⟩ := RSl.at hA (List.getElem?_eq_getElem hlt)
    rw [pairs_drop hlt] at h
    simp [hlt', ir_Program_Instrs_1_j0_eq hJ, k1, k2 st (hI _ _ h), Res.need, p1.cell, p2.cell, Res.of, p2.len]
    refine Instrs_l1 hF hJ hI hb hy p2 (hs _ (List.getElem_mem hlt)) (fun s h' => ?_) p[i].instrs.length 0 st.bump (by omega) (hb _ _ h)
    rw [ir_Program_Instrs_1_j2_eq hJ]
    simp
    rw [wrap_id (n := (i : Int) + 1) (by omega), ← hQ]
    exact ih (i + 1) s (by omega) h'
end

theorem Instrs1_ok {A : Nat → Prop} {st0 : St} {v0 v8 : Value} {bx : Nat} {p : Prog} {Inv : List (Nat × Instr) → St → Prop} (hg : st0.load1 bx 0 = .ok v8) (hA : RSl A st0 7 (RBlock A st0) v8 p) (hI : ∀ l st, Inv l st → Agree A st0 st) (hb : ∀ l st, Inv l st → Inv l st.bump) (hy : ∀ i x l st, Inv ((i, x) :: l) st → Ok (sCall K v0 [I i, vI x] st) fun r => r.1 = B true ∧ Inv l r.2)
    (hpl : p.length < 2 ^ 62) (hs : ∀ b ∈ p, b.instrs.length < 2 ^ 62) (h : Inv (pairs 0 p) st0) : Ok (K.go (.call n_ir_Program_Instrs_1 [v0, P bx 0]) st0) fun r => r.1 = .tuple #[] ∧ Inv [] r.2 := by
  generalize hQ : (fun r : Value × St => r.1 = .tuple #[] ∧ Inv [] r.2) = Q
  refine ir_Program_Instrs_1_of hF fun J hJ => ?_
  rw [ir_Program_Instrs_1_eq]
  simp [hg, RSl.len hA]
  rw [← hQ]
  exact Instrs_l0 hF hJ hA hI hb hy hpl hs p.length 0 st0 (by omega) h
end Go.Proofs.Ytfknooeebmdfoaa.Sh

