/-
  THE ABSTRACT MACHINE, 15: its states only grow; what code comes to.
-/
import Derived.Test.YtfknooeebmdfoaaAmOpsK
import Derived.LoopNIn
set_option linter.unusedVariables false
set_option linter.unusedSimpArgs false
set_option linter.unnecessarySimpa false
namespace Go.AM

def isLoop : Option AObj → Bool
  | some (.loop _ _ _ _ _ _) => true
  | _ => false

structure StLe (st st' : St) : Prop where
  ro : st'.ro = st.ro
  next : st.next ≤ st'.next
  loops : ∀ id, id < st.next → isLoop (st.get id) = true → isLoop (st'.get id) = true
  alive : ∀ id o, st'.get id = some o → o.live = true → (∃ o0, st.get id = some o0 ∧ o0.live = true) ∨ (st.next ≤ id ∧ id < st'.next)

theorem StLe.refl (st : St) : StLe st st := ⟨rfl, Nat.le_refl _, fun _ _ h => h, fun _ o h hl => .inl ⟨o, h, hl⟩⟩
theorem StLe.trans {a b c : St} (h : StLe a b) (k : StLe b c) : StLe a c :=
  ⟨k.ro.trans h.ro, Nat.le_trans h.next k.next, fun id hi hl => k.loops id (Nat.lt_of_lt_of_le hi h.next) (h.loops id hi hl), fun id o ho hl => by
    rcases k.alive id o ho hl with ⟨o1, h1, hl1⟩ | h1
    · rcases h.alive id o1 h1 hl1 with h2 | h2
      · exact .inl h2
      · exact .inr ⟨h2.1, Nat.lt_of_lt_of_le h2.2 k.next⟩
    · exact .inr ⟨Nat.le_trans h.next h1.1, h1.2⟩⟩
theorem StLe.alloc (st : St) (o : AObj) : StLe st (st.alloc o) :=
  ⟨rfl, Nat.le_succ _, fun id hi hl => by rw [St.get_alloc, upd_ne _ _ (by omega)]; exact hl, fun id o' ho hl => by
    rw [St.get_alloc] at ho
    by_cases e : id = st.next
    · subst e; exact .inr ⟨Nat.le_refl _, Nat.lt_succ_self _⟩
    · rw [upd_ne _ _ e] at ho; exact .inl ⟨o', ho, hl⟩⟩
theorem StLe.put {st : St} {id : Nat} {o0 : AObj} (o : AObj) (h : st.get id = some o0) (hl : o0.live = true) (hn : isLoop (some o0) = false) : StLe st (st.put id o) :=
  ⟨rfl, Nat.le_refl _, fun j _ hl => by
    rw [St.get_put]
    by_cases e : j = id
    · subst e; rw [h, hn] at hl; cases hl
    · rw [upd_ne _ _ e]; exact hl, fun j o' ho hlo => by
    rw [St.get_put] at ho
    by_cases e : j = id
    · subst e; exact .inl ⟨o0, h, hl⟩
    · rw [upd_ne _ _ e] at ho; exact .inl ⟨o', ho, hlo⟩⟩
theorem StLe.putLoop {st : St} {id : Nat} {o o0 : AObj} (h : isLoop (some o) = true) (h0 : st.get id = some o0) (hl : o0.live = true) : StLe st (st.put id o) :=
  ⟨rfl, Nat.le_refl _, fun j _ hl => by
    rw [St.get_put]
    by_cases e : j = id
    · subst e; rw [upd_same]; exact h
    · rw [upd_ne _ _ e]; exact hl, fun j o' ho hlo => by
    rw [St.get_put] at ho
    by_cases e : j = id
    · subst e; exact .inl ⟨o0, h0, hl⟩
    · rw [upd_ne _ _ e] at ho; exact .inl ⟨o', ho, hlo⟩⟩

section
variable {st st' : St} {ρ : Operand → Value} {v : Value}

theorem storeN_le {b of : Nat} {vs : List Value} (h : st.storeN b of vs = .ok st') : StLe st st' := by
  obtain ⟨xs, hxs, _, _, _, rfl⟩ := storeN_ok h
  exact .put _ hxs rfl rfl

theorem cells_get {b : Nat} {xs : List Value} (h : st.cells b = .ok xs) : st.get b = some (.cells xs) := by
  unfold St.cells at h
  split at h
  · rename_i hy; cases h; exact hy
  · cases h

theorem map_get {b : Nat} {es : List (Value × Value)} (h : st.map b = .ok es) : st.get b = some (.map es) := by
  unfold St.map at h
  split at h
  · rename_i hy; cases h; exact hy
  · cases h

theorem aappend_le {s b : Nat} {x y : Value} (h : aappend st s b x y = .ok (v, st')) : StLe st st' := by
  unfold aappend at h
  split at h
  · simp only [Res.bind_eq_ok, Res.need_eq_ok] at h
    obtain ⟨m, hm, new, hnew, _, hnl, h⟩ := h
    split at h
    · cases h; exact .refl _
    · simp only [Res.bind_eq_ok, Res.need_eq_ok] at h
      obtain ⟨_, _, _, _, h⟩ := h
      split at h
      · simp only [Res.bind_eq_ok, Res.need_eq_ok, Res.pure_eq] at h
        obtain ⟨_, _, h⟩ := h
        cases h; exact .alloc _ _
      · simp only [Res.bind_eq_ok, Res.need_eq_ok] at h
        obtain ⟨_, _, xs, hxs, _, _, h⟩ := h
        split at h
        · simp only [Res.bind_eq_ok, Res.pure_eq] at h
          obtain ⟨s2, hs2, h⟩ := h
          cases h; exact storeN_le hs2
        · simp only [Res.bind_eq_ok, Res.need_eq_ok, Res.pure_eq] at h
          obtain ⟨_, _, h⟩ := h
          cases h
          exact (StLe.put _ (cells_get hxs) rfl rfl).trans (.alloc _ _)
      · cases h
  · cases h

theorem acopy_le {s : Nat} {x y : Value} (h : acopy st s x y = .ok (v, st')) : StLe st st' := by
  unfold acopy at h
  split at h
  · simp only [Res.bind_eq_ok, Res.need_eq_ok] at h
    obtain ⟨m, hm, new, hnew, _, hnl, h⟩ := h
    split at h
    · cases h; exact .refl _
    · simp only [Res.bind_eq_ok, Res.need_eq_ok, Res.pure_eq] at h
      obtain ⟨_, _, s2, hs2, h⟩ := h
      cases h; exact storeN_le hs2
    · cases h
  · cases h

theorem aclear_le {z : List Value} {x : Value} (h : aclear st z x = .ok (v, st')) : StLe st st' := by
  unfold aclear at h
  split at h
  · cases h; exact .refl _
  · split at h
    · cases h; exact .refl _
    · simp only [Res.bind_eq_ok, Res.need_eq_ok, Res.pure_eq] at h
      obtain ⟨_, _, s2, hs2, h⟩ := h
      cases h; exact storeN_le hs2
  · cases h

theorem amapSet_le {q : KeyK} {m k x : Value} (h : amapSet st q m k x = .ok st') : StLe st st' := by
  unfold amapSet at h
  split at h
  · simp only [Res.bind_eq_ok, Res.need_eq_ok, Res.pure_eq] at h
    obtain ⟨es, hes, _, _, _, _, r, _, h⟩ := h
    cases h
    cases r with
    | none => exact .put _ (map_get hes) rfl rfl
    | some p => exact .put _ (map_get hes) rfl rfl
  · cases h

theorem adelete_le {q : KeyK} {m k : Value} (h : adelete st q m k = .ok st') : StLe st st' := by
  unfold adelete at h
  split at h
  · simp only [Res.bind_eq_ok, Res.need_eq_ok, Res.pure_eq] at h
    obtain ⟨_, _, h⟩ := h
    cases h; exact .refl _
  · simp only [Res.bind_eq_ok, Res.need_eq_ok, Res.pure_eq] at h
    obtain ⟨es, hes, _, _, _, _, r, _, h⟩ := h
    cases h
    cases r with
    | none => exact .put _ (map_get hes) rfl rfl
    | some p => exact .put _ (map_get hes) rfl rfl
  · cases h

theorem aconv_le {k : ConvK} {x : Value} (h : aconv st k x = .ok (v, st')) : StLe st st' := by
  unfold aconv at h
  split at h
  · cases h; exact .refl _
  · cases h; exact .refl _
  · simp only [Res.bind_eq_ok, Res.need_eq_ok, Res.pure_eq] at h
    obtain ⟨_, _, _, _, _, _, _, _, h⟩ := h
    cases h; exact .refl _
  · simp only [Res.bind_eq_ok, Res.need_eq_ok, Res.pure_eq] at h
    obtain ⟨_, _, h⟩ := h
    cases h; exact .alloc _ _
  · cases h

theorem run_le {o : AOp} (h : o.run st ρ = .ok (v, st')) : StLe st st' := by
  cases o <;> simp only [AOp.run] at h
  case mv => cases h; exact .refl _
  case pick => split at h <;> cases h; exact .refl _
  case new => cases h; exact .alloc _ _
  case box => simp only [Res.bind_eq_ok, Res.pure_eq] at h; obtain ⟨_, _, h⟩ := h; cases h; exact .alloc _ _
  case build => simp only [Res.bind_eq_ok, Res.pure_eq] at h; obtain ⟨_, _, h⟩ := h; cases h; exact .refl _
  case lit => simp only [Res.bind_eq_ok, Res.pure_eq] at h; obtain ⟨_, _, h⟩ := h; cases h; exact .alloc _ _
  case load n a =>
    cases n <;> (simp only [Res.bind_eq_ok, Res.pure_eq] at h; obtain ⟨_, _, _, _, h⟩ := h; cases h; exact .refl _)
  case store =>
    simp only [Res.bind_eq_ok, Res.pure_eq] at h
    obtain ⟨_, _, _, _, _, _, s2, hs2, h⟩ := h
    cases h; exact storeN_le hs2
  case nilc => split at h <;> cases h <;> exact .refl _
  case bin => simp only [Res.bind_eq_ok, Res.pure_eq] at h; obtain ⟨_, _, h⟩ := h; cases h; exact .refl _
  case eq => simp only [Res.bind_eq_ok, Res.pure_eq] at h; obtain ⟨_, _, h⟩ := h; cases h; exact .refl _
  case un => simp only [Res.bind_eq_ok, Res.pure_eq] at h; obtain ⟨_, _, h⟩ := h; cases h; exact .refl _
  case conv => exact aconv_le h
  case iface => cases h; exact .refl _
  case fn => cases h; exact .refl _
  case newMap => cases h; exact .alloc _ _
  case mkSlice =>
    split at h
    · simp only [Res.bind_eq_ok, Res.pure_eq] at h; obtain ⟨_, _, h⟩ := h; cases h; exact .alloc _ _
    · cases h
  case slice => simp only [Res.bind_eq_ok, Res.pure_eq] at h; obtain ⟨_, _, h⟩ := h; cases h; exact .refl _
  case off => simp only [Res.bind_eq_ok, Res.pure_eq] at h; obtain ⟨_, _, h⟩ := h; cases h; exact .refl _
  case field =>
    split at h
    · simp only [Res.bind_eq_ok, Res.pure_eq] at h; obtain ⟨_, _, h⟩ := h; cases h; exact .refl _
    · cases h
  case ixA =>
    split at h
    · simp only [Res.bind_eq_ok, Res.pure_eq] at h; obtain ⟨_, _, _, _, h⟩ := h; cases h; exact .refl _
    · simp only [Res.bind_eq_ok, Res.pure_eq] at h; obtain ⟨_, _, h⟩ := h; cases h; exact .refl _
    · cases h
  case ixS =>
    split at h
    · simp only [Res.bind_eq_ok, Res.pure_eq] at h; obtain ⟨_, _, _, _, h⟩ := h; cases h; exact .refl _
    · cases h
  case ixV =>
    split at h
    · simp only [Res.bind_eq_ok, Res.pure_eq] at h; obtain ⟨_, _, _, _, h⟩ := h; cases h; exact .refl _
    · cases h
  case look => simp only [Res.bind_eq_ok, Res.pure_eq] at h; obtain ⟨_, _, h⟩ := h; cases h; exact .refl _
  case mapSet => simp only [Res.bind_eq_ok, Res.pure_eq] at h; obtain ⟨_, hs, h⟩ := h; cases h; exact amapSet_le hs
  case rangeStr => split at h <;> cases h; exact .alloc _ _
  case nextStr =>
    simp only [Res.bind_eq_ok] at h
    obtain ⟨_, _, _, _, h⟩ := h
    split at h
    · rename_i hget
      split at h
      · simp only [Res.bind_eq_ok, Res.pure_eq] at h
        obtain ⟨_, _, h⟩ := h
        cases h
        exact .put _ hget rfl rfl
      · cases h; exact .refl _
    · cases h
  case assert =>
    split at h
    · split at h
      · cases h; exact .refl _
      · split at h <;> cases h; exact .refl _
    · split at h <;> cases h; exact .refl _
    · cases h
  case extract =>
    split at h
    · simp only [Res.bind_eq_ok, Res.pure_eq] at h; obtain ⟨_, _, h⟩ := h; cases h; exact .refl _
    · cases h
  case len =>
    split at h
    · cases h; exact .refl _
    · cases h; exact .refl _
    · cases h; exact .refl _
    · cases h; exact .refl _
    · simp only [Res.bind_eq_ok, Res.pure_eq] at h; obtain ⟨_, _, h⟩ := h; cases h; exact .refl _
    · cases h
  case append => exact aappend_le h
  case copy => exact acopy_le h
  case clear => exact aclear_le h
  case delete => simp only [Res.bind_eq_ok, Res.pure_eq] at h; obtain ⟨_, hs, h⟩ := h; cases h; exact adelete_le hs
  case minmax => simp only [Res.bind_eq_ok, Res.pure_eq] at h; obtain ⟨_, _, h⟩ := h; cases h; exact .refl _
  case call => cases h

structure KLe (K : Ctx) : Prop where
  go : ∀ t st v st', K.go t st = .ok (v, st') → StLe st st'
  rounds : ∀ f e st r, K.loop f e st = .ok r → ∃ k, iterC f k e st = .ok r

theorem oper_le {K : Ctx} (hK : KLe K) {o : AOp} (h : AOper.run K st ρ o = .ok (v, st')) : StLe st st' := by
  cases o
  case call f args =>
    simp only [AOper.run, Res.bind_eq_ok] at h
    obtain ⟨t, _, h⟩ := h
    exact hK.go _ _ _ _ h
  all_goals (unfold AOper.run at h; exact run_le h)

theorem opsC_le {K : Ctx} (hK : KLe K) : ∀ (l : List AOper) (e e' : Env) (st st' : St), opsC K l e st = .ok (e', st') → StLe st st' := by
  intro l
  induction l with
  | nil => intro e e' st st' h; simp [opsC] at h; obtain ⟨rfl, rfl⟩ := h; exact .refl _
  | cons o l ih =>
    intro e e' st st' h
    simp only [opsC, Res.bind_eq_ok] at h
    obtain ⟨b, _, h⟩ := h
    split at h
    · simp only [Res.bind_eq_ok] at h
      obtain ⟨⟨v, st1⟩, h1, h⟩ := h
      exact (oper_le hK h1).trans (ih _ _ _ _ h)
    · exact ih _ _ _ _ h

theorem drawC_le {K : Ctx} (hK : KLe K) : ∀ (l : List DOper) (sn : List St) (base : Nat) (e e' : Env) (st st' : St), drawC K l sn base e st = .ok (e', st') → StLe st st' := by
  intro l
  induction l with
  | nil => intro sn base e e' st st' h; simp [drawC] at h; obtain ⟨rfl, rfl⟩ := h; exact .refl _
  | cons o l ih =>
    intro sn base e e' st st' h
    simp only [drawC, Res.bind_eq_ok] at h
    obtain ⟨b, _, h⟩ := h
    split at h
    · simp only [Res.bind_eq_ok] at h
      obtain ⟨⟨v, st1⟩, h1, h⟩ := h
      split at h
      · exact (oper_le hK h1).trans (ih _ _ _ _ _ _ h)
      · simp only [Res.bind_eq_ok] at h
        obtain ⟨_, _, h⟩ := h
        exact (oper_le hK h1).trans (ih _ _ _ _ _ _ h)
    · exact ih _ _ _ _ _ _ h

theorem iterC_le {f : Env → St → Res (AExit × Env × St)} (hf : ∀ e st x e' st', f e st = .ok (x, e', st') → StLe st st') : ∀ (n : Nat) (e e' : Env) (x : AExit) (st st' : St), iterC f n e st = .ok (x, e', st') → StLe st st' := by
  intro n
  induction n with
  | zero => intro e e' x st st' h; simp [iterC] at h
  | succ n ih =>
    intro e e' x st st' h
    simp only [iterC, Res.bind_eq_ok] at h
    obtain ⟨⟨y, e1, st1⟩, h1, h⟩ := h
    cases y with
    | normal => exact (hf _ _ _ _ _ h1).trans (ih _ _ _ _ _ h)
    | exit id => cases h; exact hf _ _ _ _ _ h1
    | ret => cases h; exact hf _ _ _ _ _ h1

theorem codeC_le {K : Ctx} (hK : KLe K) : ∀ (c : ACode) (e e' : Env) (x : AExit) (st st' : St), codeC K c e st = .ok (x, e', st') → StLe st st' := by
  intro c
  induction c with
  | skip => intro e e' x st st' h; simp [codeC] at h; obtain ⟨_, _, rfl⟩ := h; exact .refl _
  | ops l =>
    intro e e' x st st' h
    simp only [codeC, Res.bind_eq_ok, Res.pure_eq] at h
    obtain ⟨⟨e1, st1⟩, h1, h⟩ := h
    cases h
    exact opsC_le hK _ _ _ _ _ h1
  | draw l =>
    intro e e' x st st' h
    simp only [codeC, Res.bind_eq_ok, Res.pure_eq] at h
    obtain ⟨⟨e1, st1⟩, h1, h⟩ := h
    cases h
    exact drawC_le hK _ _ _ _ _ _ _ h1
  | seq a b iha ihb =>
    intro e e' x st st' h
    simp only [codeC, Res.bind_eq_ok] at h
    obtain ⟨⟨y, e1, st1⟩, h1, h⟩ := h
    cases y with
    | normal => exact (iha _ _ _ _ _ h1).trans (ihb _ _ _ _ _ h)
    | exit id => cases h; exact iha _ _ _ _ _ h1
    | ret => cases h; exact iha _ _ _ _ _ h1
  | cond c a b iha ihb =>
    intro e e' x st st' h
    simp only [codeC] at h
    split at h
    · exact iha _ _ _ _ _ h
    · exact ihb _ _ _ _ _ h
    · cases h
  | block id b ihb =>
    intro e e' x st st' h
    simp only [codeC, Res.bind_eq_ok] at h
    obtain ⟨⟨y, e1, st1⟩, h1, h⟩ := h
    cases y <;> (cases h; exact ihb _ _ _ _ _ h1)
  | loop b ihb =>
    intro e e' x st st' h
    obtain ⟨k, hk⟩ := hK.rounds _ _ _ _ h
    exact iterC_le (fun e st x e' st' h => ihb _ _ _ _ _ h) _ _ _ _ _ _ hk
  | range f ps a b =>
    intro e e' x st st' h
    simp only [codeC, Res.bind_eq_ok] at h
    obtain ⟨t, _, _, _, ⟨v, st1⟩, h1, h⟩ := h
    have hle := (StLe.alloc st (.loop e ps a b .ready .normal)).trans (hK.go _ _ _ _ h1)
    simp only at h
    split at h
    · simp only [Res.bind_eq_ok, Res.pure_eq] at h
      obtain ⟨_, _, h⟩ := h
      cases h
      refine ⟨hle.ro, hle.next, fun id hi hl => ?_, fun id o ho hl => ?_⟩
      · rw [St.get_put, upd_ne _ _ (by omega)]
        exact hle.loops id hi hl
      · rw [St.get_put] at ho
        by_cases e : id = st.next
        · subst e; rw [upd_same] at ho; cases ho; simp [AObj.live] at hl
        · rw [upd_ne _ _ e] at ho; exact hle.alive id o ho hl
    · cases h
  | exit id => intro e e' x st st' h; simp [codeC] at h; obtain ⟨_, _, rfl⟩ := h; exact .refl _
  | ret => intro e e' x st st' h; simp [codeC] at h; obtain ⟨_, _, rfl⟩ := h; exact .refl _
  | keep l => intro e e' x st st' h; simp [codeC] at h; obtain ⟨_, _, rfl⟩ := h; exact .refl _

theorem runT_le (Γ : Funs) : ∀ n t st v st', runT Γ n t st = .ok (v, st') → StLe st st' := by
  intro n
  induction n with
  | zero => intro t st v st' h; simp [runT] at h
  | succ n ih =>
    intro t st v st' h
    have hK : KLe (ctxOf (runT Γ n) n) := ⟨fun t st v st' h => ih t st v st' h, fun f e st r h => ⟨n, h⟩⟩
    cases t with
    | call f args =>
      simp only [runT, Res.bind_eq_ok] at h
      obtain ⟨fn, _, _, _, ⟨x, e, st1⟩, h1, h⟩ := h
      have := codeC_le hK _ _ _ _ _ _ h1
      cases x with
      | exit id => cases h
      | normal => simp only [Res.bind_eq_ok, Res.pure_eq] at h; obtain ⟨_, _, h⟩ := h; cases h; exact this
      | ret => simp only [Res.bind_eq_ok, Res.pure_eq] at h; obtain ⟨_, _, h⟩ := h; cases h; exact this
    | round l args =>
      simp only [runT] at h
      split at h
      · rename_i e ps a b s0 pd hget
        simp only [Res.bind_eq_ok] at h
        obtain ⟨_, _, _, _, ⟨x, e1, st1⟩, h1, h⟩ := h
        have hle := codeC_le hK _ _ _ _ _ _ h1
        simp only at h
        split at h
        · rename_i hget1
          simp only [Res.bind_eq_ok] at h
          obtain ⟨⟨y, e2, st2⟩, h2, h⟩ := h
          have hle2 := codeC_le hK _ _ _ _ _ _ h2
          have hall := (hle.trans (StLe.putLoop rfl hget1 rfl)).trans hle2
          simp only at h
          split at h
          · rename_i hget2
            cases y <;> (cases h; exact hall.trans (StLe.putLoop rfl hget2 rfl))
          · cases h
        · cases h
      · cases h
end
end Go.AM
