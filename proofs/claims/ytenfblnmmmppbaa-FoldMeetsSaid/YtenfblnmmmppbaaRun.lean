/-
  THE ABSTRACT MACHINE, 39: a run with a count of rounds, over some of the functions alone: what it comes to, the calls come to.
-/
import Derived.Test.YtenfblnmmmppbaaAmC
set_option linter.unusedVariables false
set_option linter.unusedSectionVars false
namespace Go.AM

section
variable {K : Ctx} {go : Task → St → Res (Value × St)} {N : Nat}

theorem up_oper (hgo : ∀ t st r, go t st = .ok r → K.go t st = .ok r) {st st' : St} {ρ : Operand → Value} {o : AOp} {v : Value} (h : AOper.run (ctxOf go N) st ρ o = .ok (v, st')) : AOper.run K st ρ o = .ok (v, st') := by
  cases o
  case call f args =>
    simp only [AOper.run, Res.bind_eq_ok] at h ⊢
    obtain ⟨t, ht, h⟩ := h
    exact ⟨t, ht, hgo _ _ _ h⟩
  all_goals exact h

theorem up_ops (hgo : ∀ t st r, go t st = .ok r → K.go t st = .ok r) : ∀ (l : List AOper) {e e' : Env} {st st' : St}, opsC (ctxOf go N) l e st = .ok (e', st') → opsC K l e st = .ok (e', st') := by
  intro l
  induction l with
  | nil => intro e e' st st' h; exact h
  | cons o l ih =>
    intro e e' st st' h
    simp only [opsC, Res.bind_eq_ok] at h ⊢
    obtain ⟨b, hb, h⟩ := h
    refine ⟨b, hb, ?_⟩
    cases b with
    | true =>
      simp only [if_true, Res.bind_eq_ok] at h ⊢
      obtain ⟨⟨v, st1⟩, h1, h⟩ := h
      exact ⟨_, up_oper hgo h1, ih h⟩
    | false => exact ih (by simpa using h)

theorem up_draw (hgo : ∀ t st r, go t st = .ok r → K.go t st = .ok r) : ∀ (l : List DOper) {sn : List St} {base : Nat} {e e' : Env} {st st' : St}, drawC (ctxOf go N) l sn base e st = .ok (e', st') → drawC K l sn base e st = .ok (e', st') := by
  intro l
  induction l with
  | nil => intro sn base e e' st st' h; exact h
  | cons o l ih =>
    intro sn base e e' st st' h
    simp only [drawC, Res.bind_eq_ok] at h ⊢
    obtain ⟨b, hb, h⟩ := h
    refine ⟨b, hb, ?_⟩
    cases b with
    | true =>
      simp only [if_true, Res.bind_eq_ok] at h ⊢
      obtain ⟨⟨v, st1⟩, h1, h⟩ := h
      refine ⟨_, up_oper hgo h1, ?_⟩
      cases hw : o.writes with
      | true =>
        simp only [hw, if_true] at h ⊢
        exact ih h
      | false =>
        simp only [hw, Bool.false_eq_true, if_false, Res.bind_eq_ok] at h ⊢
        obtain ⟨u, hu, h⟩ := h
        exact ⟨u, hu, ih h⟩
    | false => exact ih (by simpa using h)

theorem up_iter {Γ : Funs} (hF : Fix Γ K) {f g : Env → St → Res (AExit × Env × St)} (hfg : ∀ {e st r}, f e st = .ok r → g e st = .ok r) :
    ∀ (m : Nat) {e : Env} {st : St} {r : AExit × Env × St}, iterC f m e st = .ok r → K.loop g e st = .ok r := by
  intro m
  induction m with
  | zero => intro e st r h; simp [iterC] at h
  | succ m ih =>
    intro e st r h
    simp only [iterC, Res.bind_eq_ok] at h
    obtain ⟨⟨x, e1, st1⟩, h1, h⟩ := h
    have h1 := hF.loop (hfg h1)
    cases x with
    | normal => exact h1.1 _ _ rfl _ (ih h)
    | exit id => cases h; exact h1.2 (by simp)
    | ret => cases h; exact h1.2 (by simp)

theorem up_code {Γ : Funs} (hF : Fix Γ K) (hgo : ∀ t st r, go t st = .ok r → K.go t st = .ok r) : ∀ (c : ACode) {e : Env} {st : St} {r : AExit × Env × St}, codeC (ctxOf go N) c e st = .ok r → codeC K c e st = .ok r := by
  intro c
  induction c with
  | skip => intro e st r h; exact h
  | ops l =>
    intro e st r h
    simp only [codeC, Res.bind_eq_ok] at h ⊢
    obtain ⟨⟨e1, st1⟩, h1, h⟩ := h
    exact ⟨_, up_ops hgo l h1, h⟩
  | draw l =>
    intro e st r h
    simp only [codeC, Res.bind_eq_ok] at h ⊢
    obtain ⟨⟨e1, st1⟩, h1, h⟩ := h
    exact ⟨_, up_draw hgo l h1, h⟩
  | seq a b iha ihb =>
    intro e st r h
    simp only [codeC, Res.bind_eq_ok] at h ⊢
    obtain ⟨⟨x, e1, st1⟩, h1, h⟩ := h
    refine ⟨_, iha h1, ?_⟩
    cases x with
    | normal => exact ihb h
    | exit id => exact h
    | ret => exact h
  | cond c a b iha ihb =>
    intro e st r h
    simp only [codeC] at h ⊢
    split at h
    · exact iha h
    · exact ihb h
    · cases h
  | block id b ihb =>
    intro e st r h
    simp only [codeC, Res.bind_eq_ok] at h ⊢
    obtain ⟨⟨x, e1, st1⟩, h1, h⟩ := h
    refine ⟨_, ihb h1, ?_⟩
    cases x <;> exact h
  | loop b ihb =>
    intro e st r h
    exact up_iter hF (fun {e st r} h => ihb h) N h
  | range f ps a b =>
    intro e st r h
    simp only [codeC, Res.bind_eq_ok] at h ⊢
    obtain ⟨t, ht, u, hu, ⟨v, st1⟩, h1, h⟩ := h
    exact ⟨t, ht, u, hu, _, hgo _ _ _ h1, h⟩
  | exit id => intro e st r h; exact h
  | ret => intro e st r h; exact h
  | keep l => intro e st r h; exact h
end

/-- A run over some of the functions. -/
theorem go_of_run {Γ tab : Funs} {K : Ctx} (hle : ∀ f a, tab f = some a → Γ f = some a) (hF : Fix Γ K) : ∀ (n : Nat) (t : Task) (st : St) (r : Value × St), runT tab n t st = .ok r → K.go t st = .ok r := by
  intro n
  induction n with
  | zero => intro t st r h; simp [runT] at h
  | succ n ih =>
    intro t st r h
    cases t with
    | call f args =>
      simp only [runT, Res.bind_eq_ok, Res.of_eq_ok, Res.need_eq_ok] at h
      obtain ⟨fn, hf, u, hl, ⟨x, e, st1⟩, h1, h⟩ := h
      have h1 := up_code hF ih _ h1
      have hx : ∀ id, x ≠ .exit id := fun id e => by subst e; simp at h
      have h : (resultsC e st1 fn.results >>= fun vs => pure (oneOf vs, st1)) = .ok r := by
        cases x with
        | exit id => exact absurd rfl (hx id)
        | normal => exact h
        | ret => exact h
      obtain ⟨vs, hv, h⟩ := Res.bind_eq_ok.1 h
      cases h
      exact hF.call (hle _ _ hf) (of_decide_eq_true hl) h1 hx hv
    | round l args =>
      simp only [runT] at h
      split at h
      · rename_i e ps as bd s pd h0
        simp only [Res.bind_eq_ok, Res.need_eq_ok] at h
        obtain ⟨_, hl, _, hro, ⟨x1, e1, st1⟩, h1, h⟩ := h
        have hx1 : x1 = .normal := by cases x1 <;> first | rfl | (simp at h)
        subst hx1
        simp only [] at h
        split at h
        · rename_i e2 ps2 as2 bd2 pd2 h2
          simp only [Res.bind_eq_ok] at h
          obtain ⟨⟨x3, e3, st3⟩, h3, h⟩ := h
          split at h
          · rename_i e4 ps4 as4 bd4 s4 pd4 h4
            have := hF.round h0 (of_decide_eq_true hl) (of_decide_eq_true hro) (up_code hF ih _ h1) h2 (up_code hF ih _ h3) h4
            rw [this, ← h]
            cases x3 <;> rfl
          · cases h
        · cases h
      · cases h

/-- Functions by a table. -/
def findT : List (Nat × AFun) → Funs
  | [], _ => none
  | (k, a) :: L, f => bif Nat.beq k f then some a else findT L f
theorem findT_le {Γ : Funs} : ∀ {L : List (Nat × AFun)}, (∀ p ∈ L, Γ p.1 = some p.2) → ∀ f a, findT L f = some a → Γ f = some a := by
  intro L
  induction L with
  | nil => intro _ f a h; cases h
  | cons p L ih =>
    intro hp f a h
    obtain ⟨k, b⟩ := p
    simp only [findT] at h
    cases e : Nat.beq k f with
    | true =>
      rw [e] at h
      cases h
      have := Nat.eq_of_beq_eq_true e
      subst this
      exact hp _ (List.mem_cons_self ..)
    | false =>
      rw [e] at h
      exact ih (fun p hm => hp p (List.mem_cons_of_mem _ hm)) f a h

/-- It ends, with true; what came in stays what it was. -/
def trueAt (N : Nat) : Res (Value × St) → Bool
  | .ok (.bool true, st) => Nat.beq st.ro N && Nat.ble N st.next
  | _ => false
theorem trueAt_ok {N : Nat} {r : Res (Value × St)} (h : trueAt N r = true) : ∃ st, r = .ok (.bool true, st) ∧ st.ro = N ∧ N ≤ st.next := by
  unfold trueAt at h
  split at h
  · rw [Bool.and_eq_true] at h
    exact ⟨_, rfl, Nat.eq_of_beq_eq_true h.1, Nat.le_of_ble_eq_true h.2⟩
  · cases h
end Go.AM

