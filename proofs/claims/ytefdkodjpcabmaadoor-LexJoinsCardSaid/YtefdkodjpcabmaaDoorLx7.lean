/-
  Texts of pieces: what is read of them.
-/
import Derived.Test.YtefdkodjpcabmaaDoorLx6
import Derived.Test.YtefdkodjpcabmaaDoorAmC
set_option linter.unusedVariables false
set_option linter.unusedSimpArgs false
set_option linter.unusedSectionVars false
set_option maxRecDepth 100000
namespace Go.AM.Lx
abbrev Rd := List UInt8 × Tok
def textOf (ps : List Rd) : List UInt8 := ps.flatMap fun p => p.1 ++ [32]
def toksAt : List Rd → Nat → List Tok
 | [], _ => []
 | p :: ps, a => ⟨p.2.kind, a, p.2.text, p.2.n⟩ :: toksAt ps (a + p.1.length + 1)
def shift (d : Nat) (t : Tok) : Tok := ⟨t.kind, t.at_ + d, t.text, t.n⟩
theorem toksAt_len : ∀ (ps : List Rd) (a : Nat), (toksAt ps a).length = ps.length := by
 intro ps
 induction ps with
 | nil => intro a; rfl
 | cons p ps ih => intro a; simp [toksAt, ih]
theorem toksAt_shift : ∀ (ps : List Rd) (a d : Nat), toksAt ps (a + d) = (toksAt ps a).map (shift d) := by
 intro ps
 induction ps with
 | nil => intro a d; rfl
 | cons p ps ih =>
   intro a d
   simp only [toksAt, List.map_cons, shift]
   rw [show a + d + p.1.length + 1 = (a + p.1.length + 1) + d by omega, ih]
theorem textOf_len {ps : List Rd} (h : ∀ p ∈ ps, Reads p.1 p.2) : (textOf ps).length ≤ 22 * ps.length := by
 induction ps with
 | nil => simp [textOf]
 | cons p ps ih =>
   have h1 := (h p (List.mem_cons_self ..)).len
   have h2 := ih fun q hq => h q (List.mem_cons_of_mem _ hq)
   simp only [textOf, List.flatMap_cons, List.length_append, List.length_cons, List.length_nil] at h2 ⊢
   omega
theorem evs_text : ∀ {ps : List Rd} (h : ∀ p ∈ ps, Reads p.1 p.2) (rest : List UInt8) (a : Nat), evs (textOf ps ++ rest) a = (toksAt ps a).map (fun t => (t, (0 : Int))) ++ evs rest (a + (textOf ps).length) := by
 intro ps
 induction ps with
 | nil => intro h rest a; simp [textOf, toksAt]
 | cons p ps ih =>
   intro h rest a
   have e : textOf (p :: ps) ++ rest = p.1 ++ 32 :: (textOf ps ++ rest) := by simp [textOf]
   have hl : (textOf (p :: ps)).length = p.1.length + 1 + (textOf ps).length := by simp [textOf]; omega
   rw [e, (h p (List.mem_cons_self ..)).ok, evs_blank _ _ (by decide), ih (fun q hq => h q (List.mem_cons_of_mem _ hq)), hl]
   simp only [toksAt, List.map_cons, List.cons_append]
   rw [show a + p.1.length + 1 + (textOf ps).length = a + (p.1.length + 1 + (textOf ps).length) by omega]
theorem split_toks (ts : List Tok) (l : List Ev) : split (ts.map (fun t => (t, (0 : Int))) ++ l) = ahead ts (split l) := by
 have key : ∀ (ts pre : List Tok), ahead pre (split (ts.map (fun t => (t, (0 : Int))) ++ l)) = ahead (pre ++ ts) (split l) := by
  intro ts
  induction ts with
  | nil => intro pre; simp
  | cons t ts ih =>
    intro pre
    rw [List.map_cons, List.cons_append, ahead_cons, ih, List.append_assoc]
    rfl
 have := key ts []
 rw [ahead_none] at this
 exact this
theorem ahead_end (ts : List Tok) (a : Nat) : ahead ts (split [(endT a, 0)]) = (ts ++ [endT a], 0, 0) := by
 rw [ahead_cons, ahead_nil]
theorem split_text {ps : List Rd} (h : ∀ p ∈ ps, Reads p.1 p.2) (hl : ps.length ≤ 1000) : split (events (textOf ps)) = (toksAt ps 0 ++ [endT (textOf ps).length], 0, 0) := by
 have := textOf_len h
 unfold events
 rw [if_neg (by omega)]
 have e := evs_text h [] 0
 rw [List.append_nil, evs_nil, Nat.zero_add] at e
 rw [e, split_toks, ahead_end]
theorem evs_line (rest : List UInt8) (a : Nat) : evs (10 :: rest) a = (⟨7, a, [], 0⟩, 0) :: evs rest (a + 1) := by
 have h : next (10 :: rest) a = (⟨7, a, [], 0⟩, 1) := by
  unfold next
  simp [show isLine 10 from rfl]
 rw [evs_tok (by decide) (by decide) (by rw [h]; simp), h]
 rfl
end Go.AM.Lx
namespace Go.Proofs.YtefdkodjpcabmaaDoor.Sh
open Go Go.AM Go.Proofs Go.AM.Lx
theorem cellEq_i (k : IntKind) (a b : Int) : cellEq .int (.int k a) (.int k b) = some (decide (a = b)) := by
 simp [cellEq]
 rfl
theorem sEq_tok (a b : Tok) (s : St) : sEq true (.fields [(0, .int), (1, .int), (2, .str), (3, .int)]) (vTok a) (vTok b) s = .ok (B (!decide (a = b)), s) := by
 obtain ⟨k, p, x, n⟩ := a
 obtain ⟨k', p', x', n'⟩ := b
 have hp : ((p : Nat) : Int) = p' ↔ p = p' := by omega
 by_cases h1 : k = k' <;> by_cases h2 : p = p' <;> by_cases h3 : x = x' <;> by_cases h4 : n = n' <;> simp [sEq, aeq, vTok, cTok, fieldsEq, cellEq_T, cellEq_i, h1, h2, h3, h4, hp]
structure Pc where
 k : Int
 g : Int
 n : Int
def cPc (p : Pc) : List Value := [U p.k, U p.g, I p.n]
structure Pc.Ok (p : Pc) : Prop where
 k : 0 ≤ p.k ∧ p.k ≤ 255
 g : 0 ≤ p.g ∧ p.g ≤ 255
 n : -9223372036854775808 ≤ p.n ∧ p.n ≤ 9223372036854775807
def RPc (cs : List Value) (p : Pc) : Prop := cs = cPc p ∧ p.Ok
theorem wt_Pc {st : St} {cs : List Value} (h : WT pg st 44 cs) : ∃ p, RPc cs p := by
 obtain ⟨hl, hfs⟩ := h.getStruct Tryd.underlying44
 rw [show pg.cellsOf 44 = 3 by kernel_rfl] at hl
 match cs, hl with
 | [x, y, z], _ =>
   simp only [List.forall_mem_cons] at hfs
   obtain ⟨h1, h2, h3, _⟩ := hfs
   obtain ⟨k, rfl, w1⟩ := fld Tryd.underlying5 (by kernel_rfl) h1 rfl
   obtain ⟨g, rfl, w2⟩ := fld Tryd.underlying5 (by kernel_rfl) h2 rfl
   obtain ⟨n, rfl, w3⟩ := fld Tryd.underlying2 (by kernel_rfl) h3 rfl
   refine ⟨⟨k, g, n⟩, rfl, ?_, ?_, ?_⟩
   ·simpa [Lit.wf, IntKind.min, IntKind.max, IntKind.signed, IntKind.bits] using w1
   ·simpa [Lit.wf, IntKind.min, IntKind.max, IntKind.signed, IntKind.bits] using w2
   ·simpa [Lit.wf, IntKind.min, IntKind.max, IntKind.signed, IntKind.bits] using w3
theorem pieces_of {st : St} {v : Value} (h : WV pg st 41 v) : ∃ l : List Pc, RSl (Bel st.next) st 3 RPc v l := by
 obtain ⟨l, hl, _⟩ := h.rsl Tryd.underlying41 (c := 3) (R := RPc) (by kernel_rfl) fun cs hw => wt_Pc hw
 exact ⟨l, hl⟩
section
variable (p : Pc) (s : St)
def vP (p : Pc) : Value := .agg (cPc p).toArray
theorem sUpd_pc : sUpd 3 0 (.agg #[U 0, U 0, I 0]) (vP p) s = .ok (vP p, s) := by simp [vP, cPc, Res.need]
theorem sField_pc : sField (some 3) 0 (vP p) s = .ok (vP p, s) := rfl
theorem vP_eq : vP p = vPc p.k p.g p.n := rfl
end
variable {K : Ctx} (hF : Fix pgF K)
include hF
theorem Joins1_loop {J} (hJ : IsJ K (retK refinerylaw04_LexJoins_1_c.results) J) {st0 : St} {v : Value} {l : List Pc} (hR : RSl (Bel st0.next) st0 3 RPc v l) (hro : st0.ro ≤ st0.next) (hlen : l.length ≤ 1000) : ∀ (d : Nat) (qs : List Rd) (st : St), qs.length + d = l.length → (∀ q ∈ qs, Reads q.1 q.2) → Ext st0 st →
 Ok (refinerylaw04_LexJoins_1_l0 J (T (textOf qs)) v (I l.length) (I qs.length) st) fun r => ∃ qs, r.1 = T (textOf qs) ∧ qs.length = l.length ∧ (∀ q ∈ qs, Reads q.1 q.2) ∧ Ext st0 r.2 := by
 intro d
 induction d with
 | zero =>
   intro qs st hq hr hE
   refine refinerylaw04_LexJoins_1_l0_of hF hJ ?_
   rw [refinerylaw04_LexJoins_1_l0_eq]
   have h1 : ¬ ((qs.length : Nat) : Int) < (l.length : Nat) := by omega
   simp only [sLss, decide_eq_false h1, thn_ok, condX_eq, cond_false, refinerylaw04_LexJoins_1_j1_eq hJ]
   exact ⟨_, rfl, qs, rfl, by omega, hr, hE⟩
 | succ d ih =>
   intro qs st hq hr hE
   refine refinerylaw04_LexJoins_1_l0_of hF hJ ?_
   rw [refinerylaw04_LexJoins_1_l0_eq]
   have hlt : qs.length < l.length := by omega
   have h1 : ((qs.length : Nat) : Int) < (l.length : Nat) := by omega
   obtain ⟨b, o, cs, k1, k2, ⟨rfl, hp⟩, -⟩ := hR.at (List.getElem?_eq_getElem hlt)
   generalize l[qs.length] = p at *
   have k2 := k2 st (hE.agree fun _ h => h)
   have hv : Value.agg (cPc p).toArray = vP p := rfl
   simp only [sLss, decide_eq_true h1, thn_ok, condX_eq, cond_true, refinerylaw04_LexJoins_1_j0_eq hJ, k1, sLoadN, k2, Res.bind_ok, hv, sLnew_eq, sUpd_pc, sField_pc]
   rw [vP_eq]
   refine (Token_ok hF hp.k hp.n (st := st.bump) (by have := hE.roOk hro; simp; omega)).thn fun r ⟨x, t, e1, e2, e3, e4⟩ => ?_
   rw [e1]
   have hx := e3.len
   have ht := textOf_len hr
   have a1 := sAdd_T x [32] r.2.bump (by simp; omega)
   have a1' : sBin .add (T x) (.string (bstr [32])) r.2.bump = .ok (T (x ++ [32]), r.2.bump) := a1
   have a2 := sAdd_T (textOf qs) (x ++ [32]) r.2.bump (by simp; omega)
   have hw : IntKind.i64.wrap ((qs.length : Int) + 1) = ((qs.length + 1 : Nat) : Int) := by rw [wrap_id (by omega)]; omega
   have htx : textOf qs ++ (x ++ [32]) = textOf (qs ++ [(x, t)]) := by simp [textOf]
   simp only [sExtract_eq, List.getElem?_toArray, List.getElem?_cons_zero, List.getElem?_cons_succ, Res.of_some, Res.bind_ok, thn_ok, sLnew_eq, sUpd_tok0, a1', a2, refinerylaw04_LexJoins_1_j2_eq hJ, sAdd, hw, htx]
   have := ih (qs ++ [(x, t)]) r.2.bump (by simp; omega) (fun q hq => by
    rcases List.mem_append.1 hq with h | h
    ·exact hr q h
    ·rw [List.mem_singleton.1 h]; exact e3) ((hE.trans ((Ext.refl st).bump.trans e4)).bump)
   simpa using this
theorem Joins1_ok {st : St} {v : Value} {l : List Pc} (hR : RSl (Bel st.next) st 3 RPc v l) (hro : st.ro ≤ st.next) (hlen : l.length ≤ 1000) :
 Ok (sCall K (.func (.func n_refinerylaw04_LexJoins_1) #[] #[]) [v] st) fun r => ∃ qs, r.1 = T (textOf qs) ∧ qs.length = l.length ∧ (∀ q ∈ qs, Reads q.1 q.2) ∧ Ext st r.2 := by
 rw [sCall_func]
 refine refinerylaw04_LexJoins_1_of hF fun J hJ => ?_
 rw [refinerylaw04_LexJoins_1_eq]
 simp only [hR.len, thn_ok]
 exact Joins1_loop hF hJ hR hro hlen l.length [] st (by simp) (by simp) (.refl _)
end Go.Proofs.YtefdkodjpcabmaaDoor.Sh
