/-
  THE ABSTRACT MACHINE, 15: its states only grow; what code comes to.
-/
import Derived.Test.YtlpdlohikfkjnaaDoorAmA
import Derived.LoopNIn
import Derived.RangeFuncLeaves
import Derived.Below
import Derived.Carry
import Derived.WalkKit
import Derived.ProofKit
import Derived.OpenShut
set_option linter.unusedVariables false
set_option linter.unusedSimpArgs false
set_option linter.unnecessarySimpa false
namespace Go.AM
def isLoop : Option AObj → Bool
 | some (.loop _ _ _ _ _ _) => true
 | _ => false
structure StLe (st st' : St) : Prop where
 ro : st'.ro = st.ro
 next : st.next ≤ st'.next
 loops : ∀ id, id < st.next → isLoop (st.get id) = true → isLoop (st'.get id) = true
 alive : ∀ id o, st'.get id = some o → o.live = true → (∃ o0, st.get id = some o0 ∧ o0.live = true) ∨ (st.next ≤ id ∧ id < st'.next)
theorem StLe.refl (st : St) : StLe st st := ⟨rfl, Nat.le_refl _, fun _ _ h => h, fun _ o h hl => .inl ⟨o, h, hl⟩⟩
theorem StLe.trans {a b c : St} (h : StLe a b) (k : StLe b c) : StLe a c :=
 ⟨k.ro.trans h.ro, Nat.le_trans h.next k.next, fun id hi hl => k.loops id (Nat.lt_of_lt_of_le hi h.next) (h.loops id hi hl), fun id o ho hl => by
   rcases k.alive id o ho hl with ⟨o1, h1, hl1⟩ | h1
   ·rcases h.alive id o1 h1 hl1 with h2 | h2
    ·exact .inl h2
    ·exact .inr ⟨h2.1, Nat.lt_of_lt_of_le h2.2 k.next⟩
   ·exact .inr ⟨Nat.le_trans h.next h1.1, h1.2⟩⟩
theorem StLe.alloc (st : St) (o : AObj) : StLe st (st.alloc o) :=
 ⟨rfl, Nat.le_succ _, fun id hi hl => by rw [St.get_alloc, upd_ne _ _ (by omega)]; exact hl, fun id o' ho hl => by
   rw [St.get_alloc] at ho
   by_cases e : id = st.next
   ·subst e; exact .inr ⟨Nat.le_refl _, Nat.lt_succ_self _⟩
   ·rw [upd_ne _ _ e] at ho; exact .inl ⟨o', ho, hl⟩⟩
theorem StLe.put {st : St} {id : Nat} {o0 : AObj} (o : AObj) (h : st.get id = some o0) (hl : o0.live = true) (hn : isLoop (some o0) = false) : StLe st (st.put id o) :=
 ⟨rfl, Nat.le_refl _, fun j _ hl => by
   rw [St.get_put]
   by_cases e : j = id
   ·subst e; rw [h, hn] at hl; cases hl
   ·rw [upd_ne _ _ e]; exact hl, fun j o' ho hlo => by
   rw [St.get_put] at ho
   by_cases e : j = id
   ·subst e; exact .inl ⟨o0, h, hl⟩
   ·rw [upd_ne _ _ e] at ho; exact .inl ⟨o', ho, hlo⟩⟩
theorem StLe.putLoop {st : St} {id : Nat} {o o0 : AObj} (h : isLoop (some o) = true) (h0 : st.get id = some o0) (hl : o0.live = true) : StLe st (st.put id o) :=
 ⟨rfl, Nat.le_refl _, fun j _ hl => by
   rw [St.get_put]
   by_cases e : j = id
   ·subst e; rw [upd_same]; exact h
   ·rw [upd_ne _ _ e]; exact hl, fun j o' ho hlo => by
   rw [St.get_put] at ho
   by_cases e : j = id
   ·subst e; exact .inl ⟨o0, h0, hl⟩
   ·rw [upd_ne _ _ e] at ho; exact .inl ⟨o', ho, hlo⟩⟩
section
variable {st st' : St} {ρ : Operand → Value} {v : Value}
theorem storeN_le {b of : Nat} {vs : List Value} (h : st.storeN b of vs = .ok st') : StLe st st' := by
 obtain ⟨xs, hxs, _, _, _, rfl⟩ := storeN_ok h
 exact .put _ hxs rfl rfl
theorem cells_get {b : Nat} {xs : List Value} (h : st.cells b = .ok xs) : st.get b = some (.cells xs) := by
 unfold St.cells at h
 split at h
 ·rename_i hy; cases h; exact hy
 ·cases h
theorem map_get {b : Nat} {es : List (Value × Value)} (h : st.map b = .ok es) : st.get b = some (.map es) := by
 unfold St.map at h
 split at h
 ·rename_i hy; cases h; exact hy
 ·cases h
theorem aappend_le {s b : Nat} {x y : Value} (h : aappend st s b x y = .ok (v, st')) : StLe st st' := by
 unfold aappend at h
 split at h
 ·simp only [Res.bind_eq_ok, Res.need_eq_ok] at h
  obtain ⟨m, hm, new, hnew, _, hnl, h⟩ := h
  split at h
  ·cases h; exact .refl _
  ·simp only [Res.bind_eq_ok, Res.need_eq_ok] at h
   obtain ⟨_, _, _, _, h⟩ := h
   split at h
   ·simp only [Res.bind_eq_ok, Res.need_eq_ok, Res.pure_eq] at h
    obtain ⟨_, _, h⟩ := h
    cases h; exact .alloc _ _
   ·simp only [Res.bind_eq_ok, Res.need_eq_ok] at h
    obtain ⟨_, _, xs, hxs, _, _, h⟩ := h
    split at h
    ·simp only [Res.bind_eq_ok, Res.pure_eq] at h
     obtain ⟨s2, hs2, h⟩ := h
     cases h; exact storeN_le hs2
    ·simp only [Res.bind_eq_ok, Res.need_eq_ok, Res.pure_eq] at h
     obtain ⟨_, _, h⟩ := h
     cases h
     exact (StLe.put _ (cells_get hxs) rfl rfl).trans (.alloc _ _)
   ·cases h
 ·cases h
theorem acopy_le {s : Nat} {x y : Value} (h : acopy st s x y = .ok (v, st')) : StLe st st' := by
 unfold acopy at h
 split at h
 ·simp only [Res.bind_eq_ok, Res.need_eq_ok] at h
  obtain ⟨m, hm, new, hnew, _, hnl, h⟩ := h
  split at h
  ·cases h; exact .refl _
  ·simp only [Res.bind_eq_ok, Res.need_eq_ok, Res.pure_eq] at h
   obtain ⟨_, _, s2, hs2, h⟩ := h
   cases h; exact storeN_le hs2
  ·cases h
 ·cases h
theorem aclear_le {z : List Value} {x : Value} (h : aclear st z x = .ok (v, st')) : StLe st st' := by
 unfold aclear at h
 split at h
 ·cases h; exact .refl _
 ·split at h
  ·cases h; exact .refl _
  ·simp only [Res.bind_eq_ok, Res.need_eq_ok, Res.pure_eq] at h
   obtain ⟨_, _, s2, hs2, h⟩ := h
   cases h; exact storeN_le hs2
 ·cases h
theorem amapSet_le {q : KeyK} {m k x : Value} (h : amapSet st q m k x = .ok st') : StLe st st' := by
 unfold amapSet at h
 split at h
 ·simp only [Res.bind_eq_ok, Res.need_eq_ok, Res.pure_eq] at h
  obtain ⟨es, hes, _, _, _, _, r, _, h⟩ := h
  cases h
  cases r with
  | none => exact .put _ (map_get hes) rfl rfl
  | some p => exact .put _ (map_get hes) rfl rfl
 ·cases h
theorem adelete_le {q : KeyK} {m k : Value} (h : adelete st q m k = .ok st') : StLe st st' := by
 unfold adelete at h
 split at h
 ·simp only [Res.bind_eq_ok, Res.need_eq_ok, Res.pure_eq] at h
  obtain ⟨_, _, h⟩ := h
  cases h; exact .refl _
 ·simp only [Res.bind_eq_ok, Res.need_eq_ok, Res.pure_eq] at h
  obtain ⟨es, hes, _, _, _, _, r, _, h⟩ := h
  cases h
  cases r with
  | none => exact .put _ (map_get hes) rfl rfl
  | some p => exact .put _ (map_get hes) rfl rfl
 ·cases h
theorem aconv_le {k : ConvK} {x : Value} (h : aconv st k x = .ok (v, st')) : StLe st st' := by
 unfold aconv at h
 split at h
 ·cases h; exact .refl _
 ·cases h; exact .refl _
 ·simp only [Res.bind_eq_ok, Res.need_eq_ok, Res.pure_eq] at h
  obtain ⟨_, _, _, _, _, _, _, _, h⟩ := h
  cases h; exact .refl _
 ·simp only [Res.bind_eq_ok, Res.need_eq_ok, Res.pure_eq] at h
  obtain ⟨_, _, h⟩ := h
  cases h; exact .alloc _ _
 ·cases h
theorem run_le {o : AOp} (h : o.run st ρ = .ok (v, st')) : StLe st st' := by
 cases o <;> simp only [AOp.run] at h
 case mv => cases h; exact .refl _
 case pick => split at h <;> cases h; exact .refl _
 case ext => simp only [Res.bind_eq_ok, Res.pure_eq] at h; obtain ⟨_, _, _, _, h⟩ := h; cases h; exact .refl _
 case new => cases h; exact .alloc _ _
 case box => simp only [Res.bind_eq_ok, Res.pure_eq] at h; obtain ⟨_, _, h⟩ := h; cases h; exact .alloc _ _
 case build => simp only [Res.bind_eq_ok, Res.pure_eq] at h; obtain ⟨_, _, h⟩ := h; cases h; exact .refl _
 case lit => simp only [Res.bind_eq_ok, Res.pure_eq] at h; obtain ⟨_, _, h⟩ := h; cases h; exact .alloc _ _
 case load n a =>
  cases n <;> (simp only [Res.bind_eq_ok, Res.pure_eq] at h; obtain ⟨_, _, _, _, h⟩ := h; cases h; exact .refl _)
 case store =>
  simp only [Res.bind_eq_ok, Res.pure_eq] at h
  obtain ⟨_, _, _, _, _, _, s2, hs2, h⟩ := h
  cases h; exact storeN_le hs2
 case nilc => split at h <;> cases h <;> exact .refl _
 case bin => simp only [Res.bind_eq_ok, Res.pure_eq] at h; obtain ⟨_, _, h⟩ := h; cases h; exact .refl _
 case eq => simp only [Res.bind_eq_ok, Res.pure_eq] at h; obtain ⟨_, _, h⟩ := h; cases h; exact .refl _
 case un => simp only [Res.bind_eq_ok, Res.pure_eq] at h; obtain ⟨_, _, h⟩ := h; cases h; exact .refl _
 case conv => exact aconv_le h
 case iface => cases h; exact .refl _
 case fn => cases h; exact .refl _
 case newMap => cases h; exact .alloc _ _
 case mkSlice =>
  split at h
  ·simp only [Res.bind_eq_ok, Res.pure_eq] at h; obtain ⟨_, _, h⟩ := h; cases h; exact .alloc _ _
  ·cases h
 case slice => simp only [Res.bind_eq_ok, Res.pure_eq] at h; obtain ⟨_, _, h⟩ := h; cases h; exact .refl _
 case off => simp only [Res.bind_eq_ok, Res.pure_eq] at h; obtain ⟨_, _, h⟩ := h; cases h; exact .refl _
 case field =>
  split at h
  ·simp only [Res.bind_eq_ok, Res.pure_eq] at h; obtain ⟨_, _, h⟩ := h; cases h; exact .refl _
  ·cases h
 case ixA =>
  split at h
  ·simp only [Res.bind_eq_ok, Res.pure_eq] at h; obtain ⟨_, _, _, _, h⟩ := h; cases h; exact .refl _
  ·simp only [Res.bind_eq_ok, Res.pure_eq] at h; obtain ⟨_, _, h⟩ := h; cases h; exact .refl _
  ·cases h
 case ixS =>
  split at h
  ·simp only [Res.bind_eq_ok, Res.pure_eq] at h; obtain ⟨_, _, _, _, h⟩ := h; cases h; exact .refl _
  ·cases h
 case ixV =>
  split at h
  ·simp only [Res.bind_eq_ok, Res.pure_eq] at h; obtain ⟨_, _, _, _, h⟩ := h; cases h; exact .refl _
  ·cases h
 case look => simp only [Res.bind_eq_ok, Res.pure_eq] at h; obtain ⟨_, _, h⟩ := h; cases h; exact .refl _
 case mapSet => simp only [Res.bind_eq_ok, Res.pure_eq] at h; obtain ⟨_, hs, h⟩ := h; cases h; exact amapSet_le hs
 case rangeStr => split at h <;> cases h; exact .alloc _ _
 case nextStr =>
  simp only [Res.bind_eq_ok] at h
  obtain ⟨_, _, _, _, h⟩ := h
  split at h
  ·rename_i hget
   split at h
   ·simp only [Res.bind_eq_ok, Res.pure_eq] at h
    obtain ⟨_, _, h⟩ := h
    cases h
    exact .put _ hget rfl rfl
   ·cases h; exact .refl _
  ·cases h
 case assert =>
  split at h
  ·split at h
   ·cases h; exact .refl _
   ·split at h <;> cases h; exact .refl _
  ·split at h <;> cases h; exact .refl _
  ·cases h
 case extract =>
  split at h
  ·simp only [Res.bind_eq_ok, Res.pure_eq] at h; obtain ⟨_, _, h⟩ := h; cases h; exact .refl _
  ·cases h
 case len =>
  split at h
  ·cases h; exact .refl _
  ·cases h; exact .refl _
  ·cases h; exact .refl _
  ·cases h; exact .refl _
  ·simp only [Res.bind_eq_ok, Res.pure_eq] at h; obtain ⟨_, _, h⟩ := h; cases h; exact .refl _
  ·cases h
 case append => exact aappend_le h
 case copy => exact acopy_le h
 case clear => exact aclear_le h
 case delete => simp only [Res.bind_eq_ok, Res.pure_eq] at h; obtain ⟨_, hs, h⟩ := h; cases h; exact adelete_le hs
 case minmax => simp only [Res.bind_eq_ok, Res.pure_eq] at h; obtain ⟨_, _, h⟩ := h; cases h; exact .refl _
 case call => cases h
 case lbox => simp only [Res.bind_eq_ok, Res.pure_eq] at h; obtain ⟨_, _, h⟩ := h; cases h; exact .alloc _ _
 case lnew => cases h; exact .alloc _ _
 case lref => split at h <;> cases h; exact .refl _
 case upd =>
  split at h
  ·simp only [Res.bind_eq_ok, Res.pure_eq] at h; obtain ⟨_, _, _, _, _, _, _, _, h⟩ := h; cases h; exact .refl _
  ·cases h
structure KLe (K : Ctx) : Prop where
 go : ∀ t st v st', K.go t st = .ok (v, st') → StLe st st'
 rounds : ∀ f e st r, K.loop f e st = .ok r → ∃ k, iterC f k e st = .ok r
theorem oper_le {K : Ctx} (hK : KLe K) {o : AOp} (h : AOper.run K st ρ o = .ok (v, st')) : StLe st st' := by
 cases o
 case call f args =>
  simp only [AOper.run, Res.bind_eq_ok] at h
  obtain ⟨t, _, h⟩ := h
  exact hK.go _ _ _ _ h
 all_goals (unfold AOper.run at h; exact run_le h)
theorem opsC_le {K : Ctx} (hK : KLe K) : ∀ (l : List AOper) (e e' : Env) (st st' : St), opsC K l e st = .ok (e', st') → StLe st st' := by
 intro l
 induction l with
 | nil => intro e e' st st' h; simp [opsC] at h; obtain ⟨rfl, rfl⟩ := h; exact .refl _
 | cons o l ih =>
   intro e e' st st' h
   simp only [opsC, Res.bind_eq_ok] at h
   obtain ⟨b, _, h⟩ := h
   split at h
   ·simp only [Res.bind_eq_ok] at h
    obtain ⟨⟨v, st1⟩, h1, h⟩ := h
    exact (oper_le hK h1).trans (ih _ _ _ _ h)
   ·exact ih _ _ _ _ h
theorem drawC_le {K : Ctx} (hK : KLe K) : ∀ (l : List DOper) (sn : List St) (base : Nat) (e e' : Env) (st st' : St), drawC K l sn base e st = .ok (e', st') → StLe st st' := by
 intro l
 induction l with
 | nil => intro sn base e e' st st' h; simp [drawC] at h; obtain ⟨rfl, rfl⟩ := h; exact .refl _
 | cons o l ih =>
   intro sn base e e' st st' h
   simp only [drawC, Res.bind_eq_ok] at h
   obtain ⟨b, _, h⟩ := h
   split at h
   ·simp only [Res.bind_eq_ok] at h
    obtain ⟨⟨v, st1⟩, h1, h⟩ := h
    split at h
    ·exact (oper_le hK h1).trans (ih _ _ _ _ _ _ h)
    ·simp only [Res.bind_eq_ok] at h
     obtain ⟨_, _, h⟩ := h
     exact (oper_le hK h1).trans (ih _ _ _ _ _ _ h)
   ·exact ih _ _ _ _ _ _ h
theorem iterC_le {f : Env → St → Res (AExit × Env × St)} (hf : ∀ e st x e' st', f e st = .ok (x, e', st') → StLe st st') : ∀ (n : Nat) (e e' : Env) (x : AExit) (st st' : St), iterC f n e st = .ok (x, e', st') → StLe st st' := by
 intro n
 induction n with
 | zero => intro e e' x st st' h; simp [iterC] at h
 | succ n ih =>
   intro e e' x st st' h
   simp only [iterC, Res.bind_eq_ok] at h
   obtain ⟨⟨y, e1, st1⟩, h1, h⟩ := h
   cases y with
   | normal => exact (hf _ _ _ _ _ h1).trans (ih _ _ _ _ _ h)
   | exit id => cases h; exact hf _ _ _ _ _ h1
   | ret => cases h; exact hf _ _ _ _ _ h1
theorem codeC_le {K : Ctx} (hK : KLe K) : ∀ (c : ACode) (e e' : Env) (x : AExit) (st st' : St), codeC K c e st = .ok (x, e', st') → StLe st st' := by
 intro c
 induction c with
 | skip => intro e e' x st st' h; simp [codeC] at h; obtain ⟨_, _, rfl⟩ := h; exact .refl _
 | ops l =>
   intro e e' x st st' h
   simp only [codeC, Res.bind_eq_ok, Res.pure_eq] at h
   obtain ⟨⟨e1, st1⟩, h1, h⟩ := h
   cases h
   exact opsC_le hK _ _ _ _ _ h1
 | draw l =>
   intro e e' x st st' h
   simp only [codeC, Res.bind_eq_ok, Res.pure_eq] at h
   obtain ⟨⟨e1, st1⟩, h1, h⟩ := h
   cases h
   exact drawC_le hK _ _ _ _ _ _ _ h1
 | seq a b iha ihb =>
   intro e e' x st st' h
   simp only [codeC, Res.bind_eq_ok] at h
   obtain ⟨⟨y, e1, st1⟩, h1, h⟩ := h
   cases y with
   | normal => exact (iha _ _ _ _ _ h1).trans (ihb _ _ _ _ _ h)
   | exit id => cases h; exact iha _ _ _ _ _ h1
   | ret => cases h; exact iha _ _ _ _ _ h1
 | cond c a b iha ihb =>
   intro e e' x st st' h
   simp only [codeC] at h
   split at h
   ·exact iha _ _ _ _ _ h
   ·exact ihb _ _ _ _ _ h
   ·cases h
 | block id b ihb =>
   intro e e' x st st' h
   simp only [codeC, Res.bind_eq_ok] at h
   obtain ⟨⟨y, e1, st1⟩, h1, h⟩ := h
   cases y <;> (cases h; exact ihb _ _ _ _ _ h1)
 | loop b ihb =>
   intro e e' x st st' h
   obtain ⟨k, hk⟩ := hK.rounds _ _ _ _ h
   exact iterC_le (fun e st x e' st' h => ihb _ _ _ _ _ h) _ _ _ _ _ _ hk
 | range f ps a b =>
   intro e e' x st st' h
   simp only [codeC, Res.bind_eq_ok] at h
   obtain ⟨t, _, _, _, ⟨v, st1⟩, h1, h⟩ := h
   have hle := (StLe.alloc st (.loop e ps a b .ready .normal)).trans (hK.go _ _ _ _ h1)
   simp only at h
   split at h
   ·simp only [Res.bind_eq_ok, Res.pure_eq] at h
    obtain ⟨_, _, h⟩ := h
    cases h
    refine ⟨hle.ro, hle.next, fun id hi hl => ?_, fun id o ho hl => ?_⟩
    ·rw [St.get_put, upd_ne _ _ (by omega)]
     exact hle.loops id hi hl
    ·rw [St.get_put] at ho
     by_cases e : id = st.next
     ·subst e; rw [upd_same] at ho; cases ho; simp [AObj.live] at hl
     ·rw [upd_ne _ _ e] at ho; exact hle.alive id o ho hl
   ·cases h
 | exit id => intro e e' x st st' h; simp [codeC] at h; obtain ⟨_, _, rfl⟩ := h; exact .refl _
 | ret => intro e e' x st st' h; simp [codeC] at h; obtain ⟨_, _, rfl⟩ := h; exact .refl _
 | keep l => intro e e' x st st' h; simp [codeC] at h; obtain ⟨_, _, rfl⟩ := h; exact .refl _
theorem runT_le (Γ : Funs) : ∀ n t st v st', runT Γ n t st = .ok (v, st') → StLe st st' := by
 intro n
 induction n with
 | zero => intro t st v st' h; simp [runT] at h
 | succ n ih =>
   intro t st v st' h
   have hK : KLe (ctxOf (runT Γ n) n) := ⟨fun t st v st' h => ih t st v st' h, fun f e st r h => ⟨n, h⟩⟩
   cases t with
   | call f args =>
     simp only [runT, Res.bind_eq_ok] at h
     obtain ⟨fn, _, _, _, ⟨x, e, st1⟩, h1, h⟩ := h
     have := codeC_le hK _ _ _ _ _ _ h1
     cases x with
     | exit id => cases h
     | normal => simp only [Res.bind_eq_ok, Res.pure_eq] at h; obtain ⟨_, _, h⟩ := h; cases h; exact this
     | ret => simp only [Res.bind_eq_ok, Res.pure_eq] at h; obtain ⟨_, _, h⟩ := h; cases h; exact this
   | round l args =>
     simp only [runT] at h
     split at h
     ·rename_i e ps a b s0 pd hget
      simp only [Res.bind_eq_ok] at h
      obtain ⟨_, _, _, _, ⟨x, e1, st1⟩, h1, h⟩ := h
      have hle := codeC_le hK _ _ _ _ _ _ h1
      simp only at h
      split at h
      ·rename_i hget1
       simp only [Res.bind_eq_ok] at h
       obtain ⟨⟨y, e2, st2⟩, h2, h⟩ := h
       have hle2 := codeC_le hK _ _ _ _ _ _ h2
       have hall := (hle.trans (StLe.putLoop rfl hget1 rfl)).trans hle2
       simp only at h
       split at h
       ·rename_i hget2
        cases y <;> (cases h; exact hall.trans (StLe.putLoop rfl hget2 rfl))
       ·cases h
      ·cases h
     ·cases h
end
end Go.AM
set_option linter.unusedVariables false
set_option linter.unusedSimpArgs false
set_option linter.unnecessarySimpa false
namespace Go.AM
def Fr (fr : Option Nat) : Fence := { Fence.wide with round := fr }
structure Inv0 (P : Program) (hi : Nat) (st : St) (g : Ghost) (w : World) : Prop where
 rl : Rl P st.ro g st.get w.heap
 ro : st.ro ≤ st.next
 fresh : ∀ id, st.next ≤ id → id < hi → g id = none
 top : ∀ id o, st.get id = some o → o.live = true → id < st.next
structure To (P : Program) (st : St) (g : Ghost) (w : World) (st' : St) (g' : Ghost) (w' : World) : Prop where
 le : StLe st st'
 step : Step P st.ro g st.get w g' st'.get w' st.next st'.next
def Marks (b : Nat) (ds : List Deferred) (w : World) : Prop :=
 ∃ rs : List Nat, ds.map (·.target) = rs.map Target.collected ∧ rs.Nodup ∧ ∀ r ∈ rs, b ≤ r ∧ w.heap[r]? = some (.deferred (some []))
structure Inv (P : Program) (hi : Nat) (fr : Option Nat) (n b : Nat) (e : Env) (st : St) (g : Ghost) (a : Act) (w : World) : Prop where
 base : Inv0 P hi st g w
 env : EnvRel g e a.tmps
 size : a.tmps.size = n
 around : ∀ l, fr = some l → ∃ id G, id < st.next ∧ isLoop (st.get id) = true ∧ g id = some G ∧ G.blk = l
 low : b ≤ w.heap.size
 marks : Marks b a.defers w
section
variable {P : Program} {hi : Nat} {st st' st'' : St} {g g' g'' : Ghost} {w w' w'' : World}
theorem To.refl (h : Inv0 P hi st g w) : To P st g w st g w := ⟨.refl _, .refl h.rl _ _⟩
theorem To.trans (h : To P st g w st' g' w') (k : To P st' g' w' st'' g'' w'') : To P st g w st'' g'' w'' :=
 ⟨h.le.trans k.le, h.step.trans (h.le.ro ▸ k.step) h.le.next k.le.next⟩
theorem To.inv0 (h : To P st g w st' g' w') (k : Inv0 P hi st g w) : Inv0 P hi st' g' w' :=
 ⟨h.le.ro ▸ h.step.rl, by rw [h.le.ro]; exact Nat.le_trans k.ro h.le.next, fun id h1 h2 => by
   rw [h.step.only id (by omega)]; exact k.fresh id (Nat.le_trans h.le.next h1) h2, fun id o ho hl => by
   rcases h.le.alive id o ho hl with ⟨o0, h1, h2⟩ | h1
   ·exact Nat.lt_of_lt_of_le (k.top id o0 h1 h2) h.le.next
   ·exact h1.2⟩
theorem Inv0.mono {hi' : Nat} (h : Inv0 P hi st g w) (hh : hi' ≤ hi) : Inv0 P hi' st g w := ⟨h.rl, h.ro, fun id a b => h.fresh id a (Nat.lt_of_lt_of_le b hh), h.top⟩
theorem Inv0.deferred (h : Inv0 P hi st g w) {r : Nat} {ds : Option (List Deferred)} (hr : w.heap[r]? = some (.deferred ds)) {id : Nat} {o : AObj} {G : Gh} (ho : st.get id = some o) (hl : o.live = true) (hG : g id = some G) : G.blk ≠ r := by
 intro e
 obtain ⟨G', hG', hok⟩ := h.rl.obj id o ho hl
 rw [hG] at hG'; cases hG'
 subst e
 cases o with
 | cells xs => obtain ⟨_, _, _, h1, _⟩ := hok; rw [hr] at h1; cases h1
 | map es => obtain ⟨_, _, h1, _⟩ := hok; rw [hr] at h1; cases h1
 | strIter s pos => have h1 := hok.1; rw [hr] at h1; cases h1
 | loop e ps as bd s pd => obtain ⟨_, h1, _⟩ := hok; rw [hr] at h1; cases h1
 | dead => simp [AObj.live] at hl
 | table zs => obtain ⟨_, _, h1⟩ := hok; rw [hr] at h1; cases h1
 | errv => obtain ⟨_, _, _, _, h1⟩ := hok; rw [hr] at h1; cases h1
theorem Inv0.notOwned (h : Inv0 P hi st g w) {r : Nat} {ds : Option (List Deferred)} (hr : w.heap[r]? = some (.deferred ds)) : ¬ Owned st.ro g st.get r := by
 rintro ⟨id, o, G, ho, hl, _, hG, e⟩
 exact h.deferred hr ho hl hG e
theorem To.deferred (h : To P st g w st' g' w') (k : Inv0 P hi st g w) {r : Nat} {ds : Option (List Deferred)} (hr : w.heap[r]? = some (.deferred ds)) : w'.heap[r]? = some (.deferred ds) := by
 rw [h.step.frame r (Array.getElem?_eq_some_iff.1 hr).1 (k.notOwned hr)]; exact hr
theorem Marks.to {b : Nat} {ds : List Deferred} (m : Marks b ds w) (h : To P st g w st' g' w') (k : Inv0 P hi st g w) : Marks b ds w' := by
 obtain ⟨rs, h1, h2, h3⟩ := m
 exact ⟨rs, h1, h2, fun r hr => ⟨(h3 r hr).1, h.deferred k (h3 r hr).2⟩⟩
theorem Inv.to {fr : Option Nat} {n b : Nat} {e e' : Env} {a a' : Act} (h : Inv P hi fr n b e st g a w) (k : To P st g w st' g' w') (henv : EnvRel g' e' a'.tmps) (hs : a'.tmps.size = a.tmps.size) (hd : a'.defers = a.defers) : Inv P hi fr n b e' st' g' a' w' where
 base := k.inv0 h.base
 env := henv
 size := hs.trans h.size
 around := fun l hl => by
  obtain ⟨id, G, h1, h2, h3, h4⟩ := h.around l hl
  exact ⟨id, G, Nat.lt_of_lt_of_le h1 k.le.next, k.le.loops id h1 h2, k.step.ext _ _ h3, h4⟩
 low := Nat.le_trans h.low k.step.size
 marks := by rw [hd]; exact h.marks.to k h.base
theorem cellConst_rel (g : Ghost) {v : Value} (h : cellConst v = true) : Rel g v v := by
 unfold cellConst at h
 split at h
 ·rename_i a n c
  simp only [Bool.and_eq_true, beq_iff_eq, Option.isNone_iff_eq_none] at h
  obtain ⟨⟨rfl, rfl⟩, rfl⟩ := h
  exact .nilSlice 0
 ·exact .flat h
theorem constOk_rel (g : Ghost) {v : Value} (h : constOk v = true) : Rel g v v := by
 unfold constOk at h
 split at h
 ·rename_i cs
  have : cs = #[] := by simpa using h
  subst this
  exact .nothing _
 ·rename_i cs
  have h' : ∀ x ∈ cs.toList, cellConst x = true := List.all_eq_true.1 h
  exact .agg rfl fun i h1 h2 => cellConst_rel g (h' _ (by simp))
 ·exact cellConst_rel g h
theorem ev_rel' {e : Env} {a : Act} {x : Operand} (hg : ∀ i, i < P.globals.size → ∃ G, g i = some G ∧ G.blk = i ∧ G.off = 0) (he : ∀ t, x = .tmp t → Rel g (e.at t) (a.tmps.getD t undef)) (hx : opdOk P x = true) : Rel g (e.ev x) (a.eval x) := by
 cases x with
 | tmp t => exact he t rfl
 | const v =>
   simp only [Env.ev, Act.eval]
   split
   ·rename_i hc; exact constOk_rel g hc
   ·exact .nothing _
 | global i =>
   simp only [opdOk, decide_eq_true_eq] at hx
   obtain ⟨G, h1, h2, h3⟩ := hg i hx
   have := Rel.ptr (g := g) (o := 0) h1
   rw [h2, h3] at this
   exact this
 | func f => exact .func rfl rfl (fun i h1 => by simp at h1) (fun i h1 => by simp at h1)
theorem ev_rel {e : Env} {a : Act} (h : Inv0 P hi st g w) (he : EnvRel g e a.tmps) {x : Operand} (hx : opdOk P x = true) : Rel g (e.ev x) (a.eval x) :=
 ev_rel' h.rl.glob (fun t _ => he t) hx
theorem put_size (a : Act) (d : Option Tmp) (v : Value) : (a.put d v).tmps.size = a.tmps.size := by
 cases d <;> simp [Act.put]
theorem put_defers (a : Act) (d : Option Tmp) (v : Value) : (a.put d v).defers = a.defers := by
 cases d <;> simp [Act.put]
theorem put_rel {e : Env} {a : Act} {n : Nat} {d : Option Tmp} {v v' : Value} (he : EnvRel g e a.tmps) (hs : a.tmps.size = n) (hd : dstOk n d = true) (hv : Rel g v v') : EnvRel g (e.put d v) (a.put d v').tmps := by
 cases d with
 | none => exact he
 | some t =>
   simp only [dstOk, decide_eq_true_eq] at hd
   intro j
   simp only [Env.put, Act.put]
   by_cases hj : j = t
   ·subst hj
    simp [hs, hd]
    exact hv
   ·rw [Env.at_set_ne _ _ hj]
    have := he j
    simpa [Array.getElem?_setIfInBounds_ne (Ne.symm hj)] using this
theorem wants_ok' {e : Env} {a : Act} {ops : Array Oper} {o : Oper} {gd : Option (Tmp × Bool)} {b : Bool} (he : ∀ t c, gd = some (t, c) → Rel g (e.at t) (a.tmps.getD t undef)) (hg : compGuard ops o.guard = some gd) (h : wants e gd = .ok b) :
 Region.wanted o (yielded ops a.tmps) = b := by
 unfold compGuard at hg
 unfold Region.wanted
 split at hg
 ·rename_i hn
  cases hg
  simp only [wants] at h
  cases h
  rw [hn]
 ·rename_i j want hn
  rw [hn]
  split at hg
  ·rename_i t ht
   cases hg
   simp only [wants] at h
   split at h
   ·rename_i c hc
    cases h
    have hr := he t _ rfl
    rw [hc] at hr
    have hb := hr.bool
    have hy : yielded ops a.tmps j = some c := by
     unfold yielded
     rw [ht]
     simp only [Option.bind_some]
     cases hx : a.tmps[t]? with
     | none => simp [hx, undef] at hb
     | some u => simp [hx] at hb; subst hb; rfl
    simp only [hy]
    cases c <;> cases want <;> rfl
   ·rename_i r hc
    cases h
    have hr := he t _ rfl
    rw [hc] at hr
    have hb : a.tmps.getD t undef = undef := Rel.skip' hr
    have hy : yielded ops a.tmps j = none := by
     unfold yielded
     rw [ht]
     simp only [Option.bind_some]
     cases hx : a.tmps[t]? with
     | none => rfl
     | some u => simp [hx] at hb; subst hb; rfl
    simp only [hy]
    rfl
   ·cases h
  ·cases hg
theorem wants_ok {e : Env} {a : Act} {ops : Array Oper} {o : Oper} {gd : Option (Tmp × Bool)} {b : Bool} (he : EnvRel g e a.tmps) (hg : compGuard ops o.guard = some gd) (h : wants e gd = .ok b) :
 Region.wanted o (yielded ops a.tmps) = b := wants_ok' (fun t _ _ => he t) hg h
def Ends (P : Program) (st : St) (g : Ghost) (w : World) (v : Value) (st' : St) : Ending → World → Prop
 | .returned v', w' => ∃ g', Rel g' v v' ∧ To P st g w st' g' w'
 | _, _ => False
def Known (P : Program) (f : FuncId) : Prop := ∃ fn, P.funcs[f]? = some fn ∧ fn.body.isNone = false ∧ fn.name ≠ "runtime.NumGoroutine"
structure Goes (P : Program) (K : Ctx) : Prop where
 le : KLe K
 call : ∀ {f args st v st'}, K.go (.call f args) st = .ok (v, st') → ∀ {g w args'}, Inv0 P st'.next st g w → RelL g args args' → Known P f ∧ ∀ m, CallsIn Fence.wide m P f args'.toArray w (Ends P st g w v st')
 round : ∀ {l args st v st'}, K.go (.round l args) st = .ok (v, st') → ∀ {g w args' G}, Inv0 P st'.next st g w → RelL g args args' → g l = some G →
  ∃ f tmps assign body, (Instr.yield G.blk args'.toArray).run P w = .ok (.round G.blk f tmps assign body) w ∧ ∀ m, RoundIn Fence.wide m P G.blk f tmps assign body w (Ends P st g w v st')
theorem bad_oper {K : Ctx} {e : Env} {v : Value} (h : AOper.run K st (Env.ev e) .bad = .ok (v, st')) : False := by
 simp [AOp.bad, AOper.run, Env.ev, constOk, cellConst, flat, taskOf] at h
theorem bad_ops {K : Ctx} {e e' : Env} (h : opsC K [⟨none, none, .bad⟩] e st = .ok (e', st')) : False := by
 simp [opsC, wants, AOp.bad, AOper.run, Env.ev, constOk, cellConst, flat, taskOf] at h
theorem compEq_call {f : Operand} {args : List Operand} {neg : Bool} {op : BinOp} {t : TypeId} {x y : Operand} (h : compEq P neg op t x y = .call f args) : AOp.bad = .call f args := by
 unfold compEq at h
 split at h <;> first | (cases h; done) | exact h | ((repeat' split at h) <;> first | (cases h; done) | exact h)
theorem compOp_call {o : Oper} {f : Operand} {args : List Operand} (h : compOp P o = .call f args) :
 AOp.bad = .call f args ∨ ∃ c, o.op = .call c ∧ c.callee = .value f ∧ args = c.args.toList := by
 unfold compOp at h
 split at h
 all_goals first
  | (rename_i c ho
     split at h
     ·left
      unfold compBuiltin at h
      (repeat' split at h) <;> first | (cases h; done) | exact h
     ·rename_i f' hc
      cases h
      exact .inr ⟨c, ho, hc, rfl⟩
     ·exact .inl h)
  | (cases h; done)
  | exact .inl h
  | (left; unfold compBin at h; (repeat' split at h) <;> first | (cases h; done) | exact h | exact compEq_call h)
  | (left; unfold compConv at h; (repeat' split at h) <;> first | (cases h; done) | exact h)
  | (left; (repeat' split at h) <;> first | (cases h; done) | exact h)
theorem Rel.toYield {l : Nat} {p c : Array Value} {v : Value} (h : Rel g (.func (.yield l) p c) v) : ∃ G, g l = some G ∧ v = .func (.yield G.blk) #[] #[] := by
 cases h with
 | flat h => simp [AM.flat] at h
 | yield h => exact ⟨_, h, rfl⟩
theorem RelL.map {ρ ρ' : Operand → Value} {l : List Operand} (h : ∀ x ∈ l, Rel g (ρ x) (ρ' x)) : RelL g (l.map ρ) (l.map ρ') := by
 refine ⟨by simp, fun i v v' hv hv' => ?_⟩
 rw [List.getElem?_map] at hv hv'
 cases hx : l[i]? with
 | none => simp [hx] at hv
 | some x =>
   simp [hx] at hv hv'
   subst hv; subst hv'
   exact h x (List.mem_of_getElem? hx)
theorem run_callFunc {f : FuncId} (h : Known P f) (args : Array Value) : (callFunc f args).run P w = .ok (.enter f args) w := by
 obtain ⟨fn, h1, h2, h3⟩ := h
 simp only [callFunc, Sem.run_bind, run_program, Result.andThen_ok, h1]
 rw [if_neg (by simpa using h3), if_neg (by simp [h2])]
 rfl
theorem notCall_run {K : Ctx} {ρ : Operand → Value} {o : AOp} (hc : ∀ f args, o ≠ .call f args) : AOper.run K st ρ o = o.run st ρ := by
 cases o <;> first | rfl | exact absurd rfl (hc _ _)
theorem oper_wp {K : Ctx} (hK : Goes P K) {o : Oper} {e : Env} {a : Act} {v : Value} (hI : Inv0 P hi st g w) (hhi : st'.next ≤ hi) (hρ : ∀ x ∈ o.op.operands.toList, Rel g (e.ev x) (a.eval x))
 (h : AOper.run K st e.ev (compOp P o) = .ok (v, st')) {fr : Option Nat} {m : Nat} {next : Act → World → Prop} {Q : Exit → Act → World → Prop}
 (hn : ∀ v' w' g', Rel g' v v' → To P st g w st' g' w' → next (a.put o.dst v') w') : o.wpIn (Fr fr) m P a w next Q := by
 refine ⟨fun _ _ => trivial, ?_⟩
 have hdef : ∀ c, o.op ≠ .defer c := by
  intro c hc
  have : compOp P o = .bad := by simp [compOp, hc]
  rw [this] at h
  exact bad_oper h
 rw [Oper.semAt_eq _ _ _ hdef]
 by_cases hc : ∃ f args, compOp P o = .call f args
 ·obtain ⟨f, args, hc⟩ := hc
  rcases compOp_call hc with hb | ⟨c, ho, hcal, rfl⟩
  ·rw [hc, ← hb] at h; exact (bad_oper h).elim
  ·rw [hc] at h
   simp only [AOper.run, Res.bind_eq_ok] at h
   obtain ⟨t, ht, h⟩ := h
   have hf : Rel g (e.ev f) (a.eval f) := hρ f (by simp [Op.operands, ho, Call.operands, hcal])
   have hargs : RelL g (c.args.toList.map e.ev) (c.args.toList.map a.eval) := .map fun x hx => hρ x (by simp [Op.operands, ho, Call.operands, hcal]; exact .inr (by simpa using hx))
   unfold taskOf at ht
   split at ht
   ·rename_i fid p cp hev
    cases ht
    rw [hev] at hf
    obtain ⟨p', c', e', hp, hcp⟩ := hf.toFunc
    have hall := (hp.append hargs).append hcp
    obtain ⟨hknown, hcalls⟩ := hK.call h (hI.mono hhi) hall
    have hrun : (execOp a.eval o).run P w = .ok (.enter fid (p' ++ c.args.map a.eval ++ c')) w := by
     simp [execOp, ho, resolve, hcal, Deferred.ofValue, e', invoke, run_callFunc hknown]
    rw [hrun, Oper.uponIn_enter]
    refine ⟨fun hd => by simp [Fr, Fence.wide] at hd, ?_⟩
    have hcalls := hcalls (m - 1)
    have heq : (p'.toList ++ c.args.toList.map a.eval ++ c'.toList).toArray = p' ++ c.args.map a.eval ++ c' := by
     apply Array.ext'; simp
    rw [heq] at hcalls
    refine CallsIn.mono (F := Fr fr) hcalls fun en w'' hen => ?_
    cases en with
    | returned u => obtain ⟨g', hr, hto⟩ := hen; exact hn u w'' g' hr hto
    | panicked ch => exact hen.elim
    | outgrown => exact hen.elim
   ·rename_i l p cp hev
    cases ht
    rw [hev] at hf
    obtain ⟨G, hG, e'⟩ := hf.toYield
    obtain ⟨fid, tmps, as, bd, hy, hround⟩ := hK.round h (hI.mono hhi) hargs hG
    have hrun : (execOp a.eval o).run P w = .ok (.round G.blk fid tmps as bd) w := by
     rw [← hy]
     have heq : (c.args.toList.map a.eval).toArray = c.args.map a.eval := by apply Array.ext'; simp
     rw [heq]
     simp [execOp, ho, resolve, hcal, Deferred.ofValue, e', invoke]
    rw [hrun, Oper.uponIn_round]
    refine ⟨fun hd => by simp [Fr, Fence.wide] at hd, ?_⟩
    refine RoundIn.mono (F := Fr fr) (hround (m - 1)) fun en w'' hen => ?_
    cases en with
    | returned u => obtain ⟨g', hr, hto⟩ := hen; exact hn u w'' g' hr hto
    | panicked ch => exact hen.elim
    | outgrown => exact hen.elim
   ·cases ht
 ·rw [notCall_run (fun f args e => hc ⟨f, args, e⟩)] at h
  obtain ⟨v', w', g', hr, hv, hs⟩ := op_sound hρ hI.rl hI.ro (fun id h1 h2 => hI.fresh id h1 (Nat.lt_of_lt_of_le h2 hhi)) h
  rcases hr with hr | ⟨hr, rfl⟩
  ·rw [hr]; exact hn v' w' g' hv ⟨run_le h, hs⟩
  ·rw [hr]; exact hn _ w' g' hv ⟨run_le h, hs⟩
theorem plain_wp {o : Oper} {ρ : Operand → Value} {a : Act} {v : Value} (hR : Rl P st.ro g st.get w.heap) (hro : st.ro ≤ st.next) (hf : ∀ id, st.next ≤ id → id < st'.next → g id = none) (hρ : ∀ x ∈ o.op.operands.toList, Rel g (ρ x) (a.eval x))
 (h : (compOp P o).run st ρ = .ok (v, st')) {fr : Option Nat} {m : Nat} {next : Act → World → Prop} {Q : Exit → Act → World → Prop}
 (hn : ∀ v' w' g', Rel g' v v' → Step P st.ro g st.get w g' st'.get w' st.next st'.next → next (a.put o.dst v') w') : o.wpIn (Fr fr) m P a w next Q := by
 refine ⟨fun _ _ => trivial, ?_⟩
 have hdef : ∀ c, o.op ≠ .defer c := by
  intro c hc
  have : compOp P o = .bad := by simp [compOp, hc]
  rw [this] at h
  exact bad_run h
 rw [Oper.semAt_eq _ _ _ hdef]
 obtain ⟨v', w', g', hr, hv, hs⟩ := op_sound hρ hR hro hf h
 rcases hr with hr | ⟨hr, rfl⟩
 ·rw [hr]; exact hn v' w' g' hv hs
 ·rw [hr]; exact hn _ w' g' hv hs
end
end Go.AM
set_option linter.unusedVariables false
set_option linter.unusedSimpArgs false
set_option linter.unnecessarySimpa false
namespace Go.AM
def exitOf : AExit → Exit
 | .normal => .normal
 | .exit id => .exit id
 | .ret => .ret
def DrawOk (P : Program) (K : Ctx) : Prop := ∀ {id : Nat} {ops : Array Oper} {fr : Option Nat} {hi m n b : Nat} {e e' : Env} {st st' : St} {g : Ghost} {a : Act} {w : World} {Q : Exit → Act → World → Prop},
 okDraw P ops n = true → st'.next ≤ hi → drawC K (compDraw P ops n) [] st.next e st = .ok (e', st') → Inv P hi fr n b e st g a w →
 (∀ a' w' g', Inv P hi fr n b e' st' g' a' w' → To P st g w st' g' w' → Q .normal a' w') → (Code.region id ops true).wpIn (Fr fr) m P Q a w
section
variable {P : Program} {K : Ctx} {fr : Option Nat} {hi m n b : Nat}
theorem run_getDef {w : World} {r : Nat} {ds : Option (List Deferred)} (h : w.heap[r]? = some (.deferred ds)) : (getObj r).run P w = .ok (.deferred ds) w := by simp [getObj, Sem.run, h]
theorem run_setDef {w : World} {r : Nat} {ds : Option (List Deferred)} (o' : Obj) (h : w.heap[r]? = some (.deferred ds)) : (setObj r o').run P w = .ok () { w with heap := w.heap.setIfInBounds r o' } := by simp [setObj, Sem.run, h]
theorem run_getLoopObj {w : World} {r : Nat} {l : Loop} (h : w.heap[r]? = some (.loop l)) : (getObj r).run P w = .ok (.loop l) w := by simp [getObj, Sem.run, h]
theorem run_setLoop {w : World} {r : Nat} {l : Loop} (o' : Obj) (h : w.heap[r]? = some (.loop l)) : (setObj r o').run P w = .ok () { w with heap := w.heap.setIfInBounds r o' } := by simp [setObj, Sem.run, h]
theorem run_getLoop {w : World} {r : Nat} {l : Loop} (h : w.heap[r]? = some (.loop l)) : (Instr.getLoop r).run P w = .ok l w := by simp [Instr.getLoop, run_getLoopObj h]
theorem compOper_ok {ops : Array Oper} {o : Oper} {e e' : Env} {st st' : St} {l : List AOper} (h : opsC K (compOper P ops n o :: l) e st = .ok (e', st')) :
 ∃ gd b, compGuard ops o.guard = some gd ∧ dstOk n o.dst = true ∧ o.op.operands.toList.all (opdOk P) = true ∧ wants e gd = .ok b ∧
   (b = true → ∃ v st1, AOper.run K st e.ev (compOp P o) = .ok (v, st1) ∧ opsC K l (e.put o.dst v) st1 = .ok (e', st')) ∧
   (b = false → opsC K l (e.put o.dst skipped) st = .ok (e', st')) := by
 have hbad : ∀ {l : List AOper}, opsC K ({ dst := none, guard := none, op := .bad } :: l) e st = .ok (e', st') → False := by
  intro l h
  simp only [opsC, wants, Res.bind_ok, if_true, Res.bind_eq_ok] at h
  obtain ⟨⟨v, st1⟩, h1, _⟩ := h
  exact bad_oper h1
 unfold compOper at h
 split at h
 ·rename_i gd hg
  split at h
  ·rename_i hc
   simp only [Bool.and_eq_true] at hc
   simp only [opsC, Res.bind_eq_ok] at h
   obtain ⟨b, hb, h⟩ := h
   refine ⟨gd, b, hg, hc.1, hc.2, hb, fun e1 => ?_, fun e1 => ?_⟩
   ·subst e1
    simp only [if_true, Res.bind_eq_ok] at h
    obtain ⟨⟨v, st1⟩, h1, h⟩ := h
    exact ⟨v, st1, h1, h⟩
   ·subst e1
    simpa using h
  ·exact (hbad h).elim
 ·exact (hbad h).elim
theorem ops_wp (hK : Goes P K) {ops : Array Oper} {Q : Exit → Act → World → Prop} : ∀ (is : List Nat) {e e' : Env} {st st' : St} {g : Ghost} {a : Act} {w : World},
 st'.next ≤ hi → opsC K (is.filterMap fun i => (ops[i]?).map (compOper P ops n)) e st = .ok (e', st') → Inv P hi fr n b e st g a w →
 (∀ a' w' g', Inv P hi fr n b e' st' g' a' w' → To P st g w st' g' w' → Q .normal a' w') → wpOpsIn (Fr fr) m P ops Q is a w := by
 intro is
 induction is with
 | nil =>
   intro e e' st st' g a w hhi h hI hQ
   simp [opsC] at h
   obtain ⟨rfl, rfl⟩ := h
   exact hQ a w g hI (.refl hI.base)
 | cons i is ih =>
   intro e e' st st' g a w hhi h hI hQ
   simp only [wpOpsIn]
   cases ho : ops[i]? with
   | none =>
     simp only [List.filterMap_cons, ho, Option.map_none] at h
     exact ih hhi h hI hQ
   | some o =>
     simp only [List.filterMap_cons, ho, Option.map_some] at h
     obtain ⟨gd, c, hg, hd, hops, hw, ht, hf⟩ := compOper_ok h
     have hwanted := wants_ok hI.env hg hw
     cases c with
     | true =>
       obtain ⟨v, st1, h1, h2⟩ := ht rfl
       simp only [hwanted, if_true]
       refine oper_wp hK hI.base (Nat.le_trans (opsC_le hK.le _ _ _ _ _ h2).next hhi) (fun x hx => ev_rel hI.base hI.env (List.all_eq_true.1 hops x hx)) h1 fun v' w' g' hv hto => ?_
       have hI' := hI.to hto (put_rel (fun t => (hI.env t).mono hto.step.ext) hI.size hd hv) (put_size _ _ _) (put_defers _ _ _)
       exact ih hhi h2 hI' fun a'' w'' g'' hI'' hto' => hQ a'' w'' g'' hI'' (hto.trans hto')
     | false =>
       simp only [hwanted, Bool.false_eq_true, if_false]
       refine ⟨fun _ _ => trivial, ?_⟩
       have hI' := hI.to (.refl hI.base) (put_rel hI.env hI.size hd .skip) (put_size _ _ _) (put_defers _ _ _)
       exact ih hhi (hf rfl) hI' hQ
theorem range_ops {α : Type} (ops : Array Oper) (f : Oper → α) : ((List.range ops.size).filterMap fun i => (ops[i]?).map f) = ops.toList.map f := by
 have h1 : ops.toList = (List.range ops.size).filterMap fun i => ops[i]? := by
  have : ∀ l : List Oper, l = (List.range l.length).filterMap fun i => l[i]? := by
   intro l
   induction l with
   | nil => simp
   | cons x l ih =>
     rw [List.length_cons, List.range_succ_eq_map, List.filterMap_cons]
     simp only [List.getElem?_cons_zero, List.filterMap_map]
     congr 1
  have h2 := this ops.toList
  simpa using h2
 conv => rhs; rw [h1]
 rw [List.map_filterMap]
theorem Step.push {ro : Nat} {g : Ghost} {H : AHeap} {w w' : World} (h : Rl P ro g H w.heap) {ob : Obj} (hw : w'.heap = w.heap.push ob) (os : w'.os = w.os) (tape : w'.tape = w.tape) (output : w'.output = w.output) (lo hi : Nat) :
 Step P ro g H w g H w' lo hi := by
 have hold : ∀ B, B < w.heap.size → w'.heap[B]? = w.heap[B]? := fun B hB => by rw [hw, Array.getElem?_push, if_neg (by omega)]
 exact ⟨⟨fun id o ho hl => by obtain ⟨G, hG, hok⟩ := h.obj id o ho hl; exact ⟨G, hG, hok.block (hold _ (hok.lt hl))⟩, h.inj, h.glob⟩, g.le_refl, fun _ _ => rfl, by rw [hw]; simp, os, tape, output,
  fun B hB _ => hold B hB, fun B ho => .inl ho⟩
theorem Rl.notDeferred {ro : Nat} {g : Ghost} {H : AHeap} {hp : Array Obj} (h : Rl P ro g H hp) {r : Nat} {ds : Option (List Deferred)} (hr : hp[r]? = some (.deferred ds)) {id : Nat} {o : AObj} {G : Gh} (ho : H id = some o) (hl : o.live = true) (hG : g id = some G) : G.blk ≠ r := by
 intro e
 obtain ⟨G', hG', hok⟩ := h.obj id o ho hl
 rw [hG] at hG'; cases hG'
 subst e
 cases o with
 | cells xs => obtain ⟨_, _, _, h1, _⟩ := hok; rw [hr] at h1; cases h1
 | map es => obtain ⟨_, _, h1, _⟩ := hok; rw [hr] at h1; cases h1
 | strIter s pos => have h1 := hok.1; rw [hr] at h1; cases h1
 | loop e ps as bd s pd => obtain ⟨_, h1, _⟩ := hok; rw [hr] at h1; cases h1
 | dead => simp [AObj.live] at hl
 | table zs => obtain ⟨_, _, h1⟩ := hok; rw [hr] at h1; cases h1
 | errv => obtain ⟨_, _, _, _, h1⟩ := hok; rw [hr] at h1; cases h1
theorem Step.deferred {ro : Nat} {g g' : Ghost} {H H' : AHeap} {w w' : World} {lo hi : Nat} (h : Step P ro g H w g' H' w' lo hi) (k : Rl P ro g H w.heap) {r : Nat} {ds : Option (List Deferred)} (hr : w.heap[r]? = some (.deferred ds)) : w'.heap[r]? = some (.deferred ds) := by
 rw [h.frame r (Array.getElem?_eq_some_iff.1 hr).1 ?_]; exact hr
 rintro ⟨id, o, G, ho, hl, _, hG, e⟩
 exact k.notDeferred hr ho hl hG e
theorem Marks.step {ro : Nat} {g g' : Ghost} {H H' : AHeap} {w w' : World} {lo hi : Nat} {ds : List Deferred} (hm : Marks b ds w) (h : Step P ro g H w g' H' w' lo hi) (k : Rl P ro g H w.heap) : Marks b ds w' := by
 obtain ⟨rs, h1, h2, h3⟩ := hm
 exact ⟨rs, h1, h2, fun r hr => ⟨(h3 r hr).1, h.deferred k (h3 r hr).2⟩⟩
theorem Step.shut {ro : Nat} {g g' : Ghost} {H H' : AHeap} {w w' : World} {lo hi : Nat} (h : Step P ro g H w g' H' w' lo hi) {r : Nat} {ds : Option (List Deferred)} (hr : w'.heap[r]? = some (.deferred ds)) (hb : w.heap.size ≤ r) (ob : Obj) :
 Step P ro g H w g' H' { w' with heap := w'.heap.setIfInBounds r ob } lo hi := by
 have hne : ∀ B, B ≠ r → (w'.heap.setIfInBounds r ob)[B]? = w'.heap[B]? := fun B hB => by rw [Array.getElem?_setIfInBounds_ne (Ne.symm hB)]
 refine ⟨⟨fun id o ho hl => ?_, h.rl.inj, h.rl.glob⟩, h.ext, h.only, by simpa using h.size, h.os, h.tape, h.output, fun B hB hn => ?_, h.own⟩
 ·obtain ⟨G, hG, hok⟩ := h.rl.obj id o ho hl
  exact ⟨G, hG, hok.block (hne _ (h.rl.notDeferred hr ho hl hG))⟩
 ·rw [hne B (by omega)]; exact h.frame B hB hn
theorem enterLoop_ok {st : St} {g : Ghost} {a : Act} {w : World} {e : Env} {ps : Array Tmp} {assign body : Code} {as bd : ACode} (has : Impl P n assign as) (hbd : Impl P n body bd) (hI : Inv P hi fr n b e st g a w) (hps : ps.toList.all (· < n) = true) (hhi : st.next < hi) (fn : FuncId) :
 ∃ l mark w1 g1, (Instr.enterLoop fn a.tmps ps assign body fr).run P w = .ok (l, mark) w1 ∧ g1 st.next = some ⟨l, 0, 0, 0⟩ ∧
   Step P st.ro g st.get w g1 (st.alloc (.loop e ps.toList as bd .ready .normal)).get w1 st.next (st.next + 1) ∧ Marks b (mark ++ a.defers) w1 := by
 have key : ∀ (w1 w2 : World) (ob : Obj) (dd : Nat), Step P st.ro g st.get w g st.get w1 st.next st.next →
  w2 = { w1 with heap := w1.heap.push (.loop { state := .ready, pending := none, fn, tmps := a.tmps, params := ps, assign, body, defers := dd }) } →
  ∃ g1, g1 st.next = some ⟨w1.heap.size, 0, 0, 0⟩ ∧ Step P st.ro g st.get w g1 (st.alloc (.loop e ps.toList as bd .ready .normal)).get w2 st.next (st.next + 1) := by
  intro w1 w2 ob dd h1 hw2
  have hfr := hI.base.fresh st.next (Nat.le_refl _) hhi
  refine ⟨g.put st.next ⟨w1.heap.size, 0, 0, 0⟩, g.put_same _ _, ?_⟩
  rw [St.get_alloc]
  refine Step.trans h1 (Step.alloc (G := ⟨w1.heap.size, 0, 0, 0⟩) (ob := .loop { state := .ready, pending := none, fn, tmps := a.tmps, params := ps, assign, body, defers := dd }) h1.rl hfr rfl (by rw [hw2]) (by rw [hw2]) (by rw [hw2]) (by rw [hw2]) ?_) (Nat.le_refl _) (Nat.le_succ _)
  refine ⟨{ state := .ready, pending := none, fn, tmps := a.tmps, params := ps, assign, body, defers := dd }, by rw [hw2]; simp, rfl, rfl, hI.env.mono (Ghost.le_put hfr _), rfl, ?_, ?_, ?_⟩
  ·intro t ht
   have := List.all_eq_true.1 hps t ht
   simpa [hI.size] using this
  ·simpa [hI.size] using has
  ·simpa [hI.size] using hbd
 cases fr with
 | none =>
   let w1 : World := { w with heap := w.heap.push (.deferred (some [])) }
   have s1 : Step P st.ro g st.get w g st.get w1 st.next st.next := Step.push hI.base.rl (w' := w1) rfl rfl rfl rfl _ _
   obtain ⟨g1, hg1, hs⟩ := key w1 { w1 with heap := w1.heap.push (.loop { state := .ready, pending := none, fn, tmps := a.tmps, params := ps, assign, body, defers := w.heap.size }) } default w.heap.size s1 rfl
   refine ⟨w1.heap.size, [{ target := .collected w.heap.size, args := #[] }], _, g1, ?_, hg1, hs, ?_⟩
   ·simp [Instr.enterLoop, w1]
    rfl
   ·obtain ⟨rs, h1, h2, h3⟩ := hI.marks
    refine ⟨w.heap.size :: rs, by simp [h1], List.nodup_cons.2 ⟨fun hm => ?_, h2⟩, fun r hr => ?_⟩
    ·have := (Array.getElem?_eq_some_iff.1 (h3 _ hm).2).1; omega
    ·rcases List.mem_cons.1 hr with rfl | hr
     ·refine ⟨hI.low, ?_⟩
      show ((w.heap.push _).push _)[w.heap.size]? = _
      rw [Array.getElem?_push, if_neg (by simp), Array.getElem?_push_size]
     ·exact ⟨(h3 r hr).1, hs.deferred hI.base.rl (h3 r hr).2⟩
 | some lb =>
   obtain ⟨id, G, h1, h2, h3, h4⟩ := hI.around lb rfl
   obtain ⟨o, ho⟩ : ∃ o, st.get id = some o := by cases hx : st.get id with | none => simp [hx, isLoop] at h2 | some o => exact ⟨o, rfl⟩
   rw [ho] at h2
   cases o with
   | loop e0 ps0 as0 bd0 s0 pd0 =>
     obtain ⟨G', hG', l', hl', _⟩ := hI.base.rl.obj id _ ho rfl
     rw [h3] at hG'; cases hG'
     subst h4
     obtain ⟨g1, hg1, hs⟩ := key w { w with heap := w.heap.push (.loop { state := .ready, pending := none, fn, tmps := a.tmps, params := ps, assign, body, defers := l'.defers }) } default l'.defers (.refl hI.base.rl _ _) rfl
     refine ⟨w.heap.size, [], _, g1, ?_, hg1, hs, ?_⟩
     ·simp [Instr.enterLoop, run_getLoop hl']
     ·exact hI.marks.step hs hI.base.rl
   | _ => simp [isLoop] at h2
theorem codeC_bad {c : ACode} (hc : c = .ops [⟨none, none, .bad⟩]) {e e' : Env} {x : AExit} {st st' : St} (h : codeC K c e st = .ok (x, e', st')) : False := by
 subst hc
 simp only [codeC, Res.bind_eq_ok] at h
 obtain ⟨⟨e1, st1⟩, h1, _⟩ := h
 exact bad_ops h1
theorem range_wp (hK : Goes P K) {f : Operand} {ps : Array Tmp} {assign body : Code} {as bd : ACode} (hasI : Impl P n assign as) (hbdI : Impl P n body bd) (hc : (opdOk P f && ps.toList.all (· < n)) = true) {e e' : Env} {x : AExit} {st st' : St} {g : Ghost} {a : Act} {w : World} {Q : Exit → Act → World → Prop}
 (hhi : st'.next ≤ hi) (h : codeC K (.range f ps.toList as bd) e st = .ok (x, e', st')) (hI : Inv P hi fr n b e st g a w)
 (hQ : ∀ a' w' g', Inv P hi fr n b e' st' g' a' w' → To P st g w st' g' w' → Q (exitOf x) a' w') : (Code.rangeFunc f ps assign body).wpIn (Fr fr) m P Q a w := by
 have hle := codeC_le hK.le _ _ _ _ _ _ h
 ·rw [Bool.and_eq_true] at hc
  simp only [codeC, Res.bind_eq_ok] at h
  obtain ⟨t, ht, _, hcall, ⟨v, st1⟩, h1, h⟩ := h
  simp only at h
  split at h
  ·rename_i el psl asl bdl state pend hget
   simp only [Res.bind_eq_ok, Res.pure_eq, Res.need_eq_ok] at h
   obtain ⟨_, hbusy, h⟩ := h
   cases h
   have hle1 : st.next + 1 ≤ st1.next := (hK.le.go _ _ _ _ h1).next
   refine wpIn_rangeFunc fun fn _ => ?_
   obtain ⟨l, mark, w1, g1, henter, hg1, hs, hmarks⟩ := enterLoop_ok hasI hbdI hI hc.2 (Nat.lt_of_lt_of_le (Nat.lt_of_lt_of_le (Nat.lt_succ_self _) hle1) hhi) fn
   have hf : Rel g (e.ev f) (a.eval f) := ev_rel hI.base hI.env hc.1
   unfold taskOf at ht
   split at ht
   ·rename_i fid p cp hev
    cases ht
    rw [hev] at hf
    obtain ⟨p', c', e', hp, hcp⟩ := hf.toFunc
    have hB : Inv0 P st1.next (st.alloc (.loop e ps.toList as bd .ready .normal)) g1 w1 :=
     ⟨hs.rl, Nat.le_succ_of_le hI.base.ro, fun id h1 h2 => by
       have h1 : st.next + 1 ≤ id := h1
       rw [hs.only id (by omega)]; exact hI.base.fresh id (by omega) (Nat.lt_of_lt_of_le h2 hhi), fun id o ho hl => by
       show id < st.next + 1
       rcases (StLe.alloc st _).alive id o ho hl with ⟨o0, h1, h2⟩ | h1
       ·exact Nat.lt_succ_of_lt (hI.base.top id o0 h1 h2)
       ·exact h1.2⟩
    have hargs : RelL g1 (p.toList ++ [Value.func (.yield st.next) #[] #[]] ++ cp.toList) (p'.toList ++ [Value.func (.yield l) #[] #[]] ++ c'.toList) :=
     ((hp.mono hs.ext).append (.cons (.yield hg1) (.nil g1))).append (hcp.mono hs.ext)
    obtain ⟨hknown, hcalls⟩ := hK.call h1 hB hargs
    have heq : (p'.toList ++ [Value.func (.yield l) #[] #[]] ++ c'.toList).toArray = p' ++ #[Value.func (.yield l) #[] #[]] ++ c' := by
     apply Array.ext'; simp
    rw [heq] at hcalls
    refine ⟨l, mark, w1, { target := .fn (.func fid) c', args := p' ++ #[Value.func (.yield l) #[] #[]] }, w1, fid, p' ++ #[Value.func (.yield l) #[] #[]] ++ c', w1, henter, ?_, fun _ _ => trivial, ?_, fun hd => by simp [Fr, Fence.wide] at hd, ?_⟩
    ·simp [resolve, Deferred.ofValue, e', show ∀ v, a.eval (.const v) = v from fun _ => rfl]
    ·simp [invoke, run_callFunc hknown]
    ·refine CallsIn.mono (F := Fr fr) (hcalls (m - 1)) fun en w3 hen => ?_
     cases en with
     | panicked ch => exact hen.elim
     | outgrown => exact hen.elim
     | returned u =>
       obtain ⟨g3, _, hto⟩ := hen
       have hro : st1.ro = st.ro := hto.le.ro
       have hro' : (st.alloc (.loop e ps.toList as bd .ready .normal)).ro = st.ro := rfl
       have hg3 : g3 st.next = some ⟨l, 0, 0, 0⟩ := hto.step.ext _ _ hg1
       have hs3 := hto.step
       rw [hro'] at hs3
       obtain ⟨G, hG, lr, hlr, hst, hpend, henv, hps', hpt, has, hbd⟩ := hs3.rl.obj st.next _ hget rfl
       rw [hg3] at hG; cases hG
       have hnext : st.next + 1 ≤ st1.next := hto.le.next
       have s4 : Step P st.ro g3 st1.get w3 g3 (st1.put st.next .dead).get { w3 with heap := w3.heap.setIfInBounds l (.loop { lr with state := .exhausted }) } st1.next st1.next := by
        rw [St.get_put]
        refine Step.change (o := .loop el psl asl bdl state x) (o' := .dead) (w' := { w3 with heap := w3.heap.setIfInBounds l (.loop { lr with state := .exhausted }) }) hs3.rl hget rfl hI.base.ro hg3 (by simp) (fun B hB => ?_) rfl rfl rfl (fun hl => by simp [AObj.live] at hl) _ _
        exact Array.getElem?_setIfInBounds_ne (Ne.symm hB)
       have hall := (hs.trans hs3 (Nat.le_succ _) hnext).trans s4 (Nat.le_trans (Nat.le_succ _) hnext) (Nat.le_refl _)
       have hTo : To P st g w (st1.put st.next .dead) g3 { w3 with heap := w3.heap.setIfInBounds l (.loop { lr with state := .exhausted }) } := ⟨hle, hall⟩
       have hInv : Inv P hi fr n b e (st1.put st.next .dead) g3 { a with defers := mark ++ a.defers } { w3 with heap := w3.heap.setIfInBounds l (.loop { lr with state := .exhausted }) } :=
        { base := hTo.inv0 hI.base
          env := hI.env.mono hall.ext
          size := hI.size
          around := fun lb hlb => by
           obtain ⟨id, G, k1, k2, k3, k4⟩ := hI.around lb hlb
           exact ⟨id, G, Nat.lt_of_lt_of_le k1 hle.next, hle.loops id k1 k2, hall.ext _ _ k3, k4⟩
          low := Nat.le_trans hI.low hall.size
          marks := (hmarks.step hs3 hs.rl).step s4 hs3.rl }
       have hfin := hQ _ _ _ hInv hTo
       refine ⟨lr.pending, { w3 with heap := w3.heap.setIfInBounds l (.loop { lr with state := .exhausted }) }, ?_, ?_⟩
       ·have hb2 : lr.state ≠ LoopState.busy := by
         rw [hst]; intro hx; rw [hx] at hbusy; exact absurd hbusy (by decide)
        simp [Instr.endLoop, run_getLoop hlr, run_setLoop _ hlr]
        exact fun hx => absurd hx hb2
       ·generalize ({ w3 with heap := w3.heap.setIfInBounds l (.loop { lr with state := .exhausted }) } : World) = w4 at hfin ⊢
        cases x with
        | normal => rw [show lr.pending = none from hpend]; exact hfin
        | exit id => rw [show lr.pending = some (.exit id) from hpend]; exact wpIn_exit hfin
        | ret => rw [show lr.pending = some .ret from hpend]; exact wpIn_ret hfin
   ·cases ht
    simp [Task.isCall, Res.need] at hcall
   ·cases ht
  ·cases h
theorem Env.keep_at (e : Env) : ∀ (l : List Tmp) (t : Tmp), (e.keep l).at t = nothing ∨ (e.keep l).at t = e.at t := by
 intro l
 induction l with
 | nil => intro t; left; simp [Env.keep]
 | cons u l ih =>
   intro t
   by_cases h : t = u
   ·subst h; right; simp [Env.keep]
   ·rcases ih t with h1 | h1
    ·left; rw [← h1]; simp [Env.keep, Env.at_set_ne _ _ h]
    ·right; rw [← h1]; simp [Env.keep, Env.at_set_ne _ _ h]
theorem Inv.keep {st : St} {g : Ghost} {a : Act} {w : World} {e : Env} (h : Inv P hi fr n b e st g a w) (l : List Tmp) : Inv P hi fr n b (e.keep l) st g a w :=
 { h with
   env := fun t => by
    rcases e.keep_at l t with h1 | h1
    ·rw [h1]; exact .nothing _
    ·rw [h1]; exact h.env t }
theorem code_wp (hK : Goes P K) (hD : DrawOk P K) {c : Code} {ac : ACode} (hc : Impl P n c ac) : ∀ {e e' : Env} {x : AExit} {st st' : St} {g : Ghost} {a : Act} {w : World} {Q : Exit → Act → World → Prop},
 st'.next ≤ hi → codeC K ac e st = .ok (x, e', st') → Inv P hi fr n b e st g a w → (∀ a' w' g', Inv P hi fr n b e' st' g' a' w' → To P st g w st' g' w' → Q (exitOf x) a' w') → c.wpIn (Fr fr) m P Q a w := by
 induction hc with
 | skip =>
   intro e e' x st st' g a w Q hhi h hI hQ
   simp [codeC] at h
   obtain ⟨rfl, rfl, rfl⟩ := h
   exact wpIn_skip (hQ _ _ _ hI (.refl hI.base))
 | ops id ops =>
   intro e e' x st st' g a w Q hhi h hI hQ
   simp only [codeC, Res.bind_eq_ok, Res.pure_eq] at h
   obtain ⟨⟨e1, st1⟩, h1, h⟩ := h
   cases h
   rw [← range_ops] at h1
   exact wpIn_region (ops_wp hK _ hhi h1 hI hQ)
 | draw id hok =>
   intro e e' x st st' g a w Q hhi h hI hQ
   simp only [codeC, Res.bind_eq_ok, Res.pure_eq] at h
   obtain ⟨⟨e1, st1⟩, h1, h⟩ := h
   cases h
   exact hD hok hhi h1 hI hQ
 | seq _ _ ihc ihd =>
   intro e e' x st st' g a w Q hhi h hI hQ
   simp only [codeC, Res.bind_eq_ok] at h
   obtain ⟨⟨y, e1, st1⟩, h1, h⟩ := h
   have hhi1 : st1.next ≤ hi := by
    cases y with
    | normal => exact Nat.le_trans (codeC_le hK.le _ _ _ _ _ _ h).next hhi
    | exit id => cases h; exact hhi
    | ret => cases h; exact hhi
   refine wpIn_seq (ihc hhi1 h1 hI fun a1 w1 g1 hI1 hto => ?_)
   cases y with
   | normal => exact ihd hhi h hI1 fun a2 w2 g2 hI2 hto2 => hQ _ _ _ hI2 (hto.trans hto2)
   | exit id => cases h; exact hQ _ _ _ hI1 hto
   | ret => cases h; exact hQ _ _ _ hI1 hto
 | cond hop _ _ ihc ihd =>
   intro e e' x st st' g a w Q hhi h hI hQ
   have hr := ev_rel hI.base hI.env hop
   simp only [codeC] at h
   split at h
   ·rename_i hb; rw [hb] at hr; exact wpIn_cond_true hr.bool (ihc hhi h hI hQ)
   ·rename_i hb; rw [hb] at hr; exact wpIn_cond_false hr.bool (ihd hhi h hI hQ)
   ·cases h
 | block id _ ih =>
   intro e e' x st st' g a w Q hhi h hI hQ
   simp only [codeC, Res.bind_eq_ok] at h
   obtain ⟨⟨y, e1, st1⟩, h1, h⟩ := h
   have hhi1 : st1.next ≤ hi := by cases y <;> (cases h; exact hhi)
   refine wpIn_block (ih hhi1 h1 hI fun a1 w1 g1 hI1 hto => ?_)
   cases y with
   | normal => cases h; exact hQ _ _ _ hI1 hto
   | ret => cases h; exact hQ _ _ _ hI1 hto
   | exit j =>
     cases h
     have := hQ _ _ _ hI1 hto
     simp only [exitOf, Exit.inBlock]
     by_cases hj : j = id
     ·simpa [hj, exitOf] using this
     ·simpa [hj, exitOf] using this
 | loop _ ih =>
   intro e e' x st st' g a w Q hhi h hI hQ
   simp only [codeC] at h
   obtain ⟨k, h1⟩ := hK.le.rounds _ _ _ _ h
   clear h
   have h := h1
   clear h1
   refine wpIn_loop_rounds k ?_
   induction k generalizing e st g a w with
   | zero => simp [iterC] at h
   | succ k ihk =>
     simp only [iterC, Res.bind_eq_ok] at h
     obtain ⟨⟨y, e1, st1⟩, h1, h⟩ := h
     rw [roundsIn_succ]
     have hhi1 : st1.next ≤ hi := by
      cases y with
      | normal => exact Nat.le_trans (iterC_le (fun e st x e' st' h => codeC_le hK.le _ _ _ _ _ _ h) _ _ _ _ _ _ h).next hhi
      | exit id => cases h; exact hhi
      | ret => cases h; exact hhi
     refine ih hhi1 h1 hI fun a1 w1 g1 hI1 hto => ?_
     cases y with
     | normal => exact ihk hI1 (fun a2 w2 g2 hI2 hto2 => hQ _ _ _ hI2 (hto.trans hto2)) h
     | exit id => cases h; exact hQ _ _ _ hI1 hto
     | ret => cases h; exact hQ _ _ _ hI1 hto
 | range hcc ha hb _ _ =>
   intro e e' x st st' g a w Q hhi h hI hQ
   exact range_wp hK ha hb hcc hhi h hI hQ
 | exit id =>
   intro e e' x st st' g a w Q hhi h hI hQ
   simp [codeC] at h
   obtain ⟨rfl, rfl, rfl⟩ := h
   exact wpIn_exit (hQ _ _ _ hI (.refl hI.base))
 | ret =>
   intro e e' x st st' g a w Q hhi h hI hQ
   simp [codeC] at h
   obtain ⟨rfl, rfl, rfl⟩ := h
   exact wpIn_ret (hQ _ _ _ hI (.refl hI.base))
 | bad c => intro e e' x st st' g a w Q hhi h hI hQ; exact (codeC_bad rfl h).elim
 | keepL l _ ih =>
   intro e e' x st st' g a w Q hhi h hI hQ
   simp only [codeC, Res.bind_ok] at h
   exact ih hhi h (hI.keep l) hQ
 | keepR l _ ih =>
   intro e e' x st st' g a w Q hhi h hI hQ
   simp only [codeC, Res.bind_eq_ok] at h
   obtain ⟨⟨y, e1, st1⟩, h1, h⟩ := h
   cases y with
   | normal => cases h; exact ih hhi h1 hI fun a1 w1 g1 hI1 hto => hQ _ _ _ (hI1.keep l) hto
   | exit id => cases h; exact ih hhi h1 hI hQ
   | ret => cases h; exact ih hhi h1 hI hQ
end
end Go.AM
set_option linter.unusedVariables false
set_option linter.unusedSimpArgs false
set_option linter.unnecessarySimpa false
namespace Go.AM
section
variable {P : Program} {K : Ctx} {n hi : Nat}
theorem result_cell {st st' : St} {g : Ghost} {w : World} {ρ : Operand → Value} {x : Operand} {u v : Value} {t : TypeId} {k : Option Nat} (hn : aggOf P t = some k) (ha : Rel g (ρ x) u) (hR : Rl P st.ro g st.get w.heap)
 (h : (AOp.load k x).run st ρ = .ok (v, st')) : ∃ v', ((asAddr u).run P w).andThen (fun a w => (loadVar t a).run P w) = .ok v' w ∧ Rel g v v' := by
 simp only [AOp.run, Res.bind_eq_ok] at h
 obtain ⟨⟨b, of⟩, hp, h⟩ := h
 obtain ⟨G, hG, he⟩ := ha.asPtr hp
 cases k with
 | none =>
   simp only [Res.bind_eq_ok, St.load1, Res.of_eq_ok, Res.pure_eq] at h
   obtain ⟨u, ⟨xs, hxs, hu⟩, h⟩ := h
   cases h
   obtain ⟨G', hG', hok, _⟩ := hR.cells hxs
   rw [hG] at hG'; cases hG'
   obtain ⟨v', hc, hrel⟩ := cell_at (w := w) hok hu rfl
   exact ⟨v', by simp [he, asAddr, loadVar, run_aggOf_one hn, hc], hrel⟩
 | some k =>
   simp only [Res.bind_eq_ok, Res.pure_eq] at h
   obtain ⟨l, hl, h⟩ := h
   cases h
   obtain ⟨xs, hxs, hle, rfl⟩ := loadN_ok hl
   obtain ⟨G', hG', hok, _⟩ := hR.cells hxs
   rw [hG] at hG'; cases hG'
   obtain ⟨l', hl', hrel, hc⟩ := cells_at (w := w) hok hle
   obtain ⟨e1, e2⟩ := run_aggOf_some (w := w) hn
   have e3 := run_loadCells_list (P := P) w _ l' hc
   rw [hl'] at e3
   exact ⟨.agg l'.toArray, by simp [he, asAddr, loadVar, e1, e2, e3], .agg_of hrel⟩
def resultOf (tmps : Array Value) : ResultVar → Sem Value
 | .tmp t => pure (tmps.getD t undef)
 | .cell a t => do loadVar t (← asAddr (tmps.getD a undef))
theorem results_list {st : St} {g : Ghost} {w : World} {e : Env} {tmps : Array Value} (hI : Inv0 P hi st g w) (he : EnvRel g e tmps) : ∀ (l : List ResultVar) (rs : List ARes) (vs : List Value),
 compRes P l = some rs → resultsC e st rs = .ok vs → ∃ vs', (l.mapM (resultOf tmps)).run P w = .ok vs' w ∧ RelL g vs vs' := by
 intro l
 induction l with
 | nil =>
   intro rs vs hc h
   simp [compRes] at hc
   subst hc
   simp [resultsC] at h
   subst h
   exact ⟨[], by simp, .nil g⟩
 | cons r l ih =>
   intro rs vs hc h
   cases r with
   | tmp t =>
     simp only [compRes, Option.map_eq_some_iff] at hc
     obtain ⟨rs', hc, rfl⟩ := hc
     simp only [resultsC, Res.bind_eq_ok, Res.pure_eq] at h
     obtain ⟨vs0, h0, h⟩ := h
     cases h
     obtain ⟨vs', hr, hrel⟩ := ih _ _ hc h0
     exact ⟨tmps.getD t undef :: vs', by simp [List.mapM_cons, resultOf, hr], .cons (he t) hrel⟩
   | cell a ty =>
     simp only [compRes] at hc
     split at hc
     ·rename_i k hk
      simp only [Option.map_eq_some_iff] at hc
      obtain ⟨rs', hc, rfl⟩ := hc
      simp only [resultsC, Res.bind_eq_ok, Res.pure_eq] at h
      obtain ⟨⟨v, st1⟩, h1, vs0, h0, h⟩ := h
      cases h
      obtain ⟨vs', hr, hrel⟩ := ih _ _ hc h0
      obtain ⟨v', hv, hvr⟩ := result_cell hk (u := tmps.getD a undef) (he a) hI.rl h1
      refine ⟨v' :: vs', ?_, .cons hvr hrel⟩
      have hv2 : (resultOf tmps (.cell a ty)).run P w = .ok v' w := by
       rw [← hv]
       simp only [resultOf, Sem.run_bind]
      simp [List.mapM_cons, hv2, hr]
     ·cases hc
theorem results_ok {st : St} {g : Ghost} {w : World} {e : Env} {tmps : Array Value} {fn : Func} {rs : List ARes} {vs : List Value} (hI : Inv0 P hi st g w) (he : EnvRel g e tmps) (hc : compRes P fn.results.toList = some rs) (h : resultsC e st rs = .ok vs) :
 ∃ v', (results fn tmps).run P w = .ok v' w ∧ Rel g (oneOf vs) v' := by
 obtain ⟨vs', hr, hrel⟩ := results_list hI he _ _ _ hc h
 refine ⟨if h : vs'.toArray.size = 1 then vs'.toArray[0] else .tuple vs'.toArray, ?_, ?_⟩
 ·have hf : results fn tmps = (do let vs ← fn.results.mapM (resultOf tmps); pure (if h : vs.size = 1 then vs[0] else .tuple vs)) := by
   unfold results
   congr 1
  rw [hf, Array.mapM_eq_mapM_toList]
  simp [hr]
 ·unfold oneOf
  split
  ·rename_i v
   obtain ⟨v', rfl⟩ : ∃ v', vs' = [v'] := by
    have := hrel.1
    cases vs' with
    | nil => simp at this
    | cons x l => cases l with
      | nil => exact ⟨x, rfl⟩
      | cons y l => simp at this
   simpa using hrel.2 0 v v' rfl rfl
  ·rename_i hne
   have : ¬ vs'.toArray.size = 1 := by
    intro h1
    have h2 : vs.length = 1 := by rw [hrel.1]; simpa using h1
    cases vs with
    | nil => simp at h2
    | cons x l => cases l with
      | nil => exact hne x rfl
      | cons y l => simp at h2
   rw [dif_neg this]
   exact .tuple_of hrel
theorem leaves_ok {m : Nat} {st0 st : St} {g0 g : Ghost} {w0 : World} {e : Env} {tmps : Array Value} {fn : Func} {rs : List ARes} {vs : List Value} (h0 : Inv0 P hi st0 g0 w0) (he : EnvRel g e tmps) (hc : compRes P fn.results.toList = some rs) (hres : resultsC e st rs = .ok vs)
 (hle : StLe st0 st) :
 ∀ (ds : List Deferred) (w : World), Step P st0.ro g0 st0.get w0 g st.get w st0.next st.next → Marks w0.heap.size ds w → LeavesInM Fence.wide m P fn tmps (Ends P st0 g0 w0 (oneOf vs) st) ds .returning w := by
 intro ds
 induction ds with
 | nil =>
   intro w hs hm
   obtain ⟨v', hr, hrel⟩ := results_ok (To.inv0 ⟨hle, hs⟩ h0) he hc hres
   exact ⟨v', hr, g, hrel, hle, hs⟩
 | cons d ds ih =>
   intro w hs hm
   obtain ⟨rs', h1, h2, h3⟩ := hm
   cases rs' with
   | nil => simp at h1
   | cons r rs' =>
     simp only [List.map_cons, List.cons.injEq] at h1
     obtain ⟨hb, hr⟩ := h3 r (by simp)
     refine ⟨by simp, .inl ⟨r, { w with heap := w.heap.setIfInBounds r (.deferred none) }, h1.1, ?_, ?_⟩⟩
     ·simp [Instr.takeDeferred, run_getDef hr, run_setDef _ hr]
     ·refine ih _ (hs.shut hr hb _) ⟨rs', h1.2, (List.nodup_cons.1 h2).2, fun q hq => ⟨(h3 q (by simp [hq])).1, ?_⟩⟩
      have hne : r ≠ q := fun e => (List.nodup_cons.1 h2).1 (e ▸ hq)
      show (w.heap.setIfInBounds r _)[q]? = _
      rw [Array.getElem?_setIfInBounds_ne hne]
      exact (h3 q (by simp [hq])).2
theorem putL_at : ∀ (ts : List Tmp) (vs : List Value) (e : Env) (t : Tmp), t ∉ ts → (putL e ts vs).at t = e.at t := by
 intro ts
 induction ts with
 | nil => intro vs e t h; cases vs <;> rfl
 | cons x ts ih =>
   intro vs e t h
   cases vs with
   | nil => rfl
   | cons v vs =>
     simp only [putL]
     rw [ih _ _ _ (fun h' => h (List.mem_cons_of_mem _ h'))]
     rw [Env.at_set_ne _ _ (fun e => h (by simp [e]))]
theorem putL_rel {g : Ghost} : ∀ (ts : List Tmp) (vs vs' : List Value) (e : Env) (tmps : Array Value), EnvRel g e tmps → RelL g vs vs' → (∀ t ∈ ts, t < tmps.size) →
 EnvRel g (putL e ts vs) ((ts.zip vs').foldl (fun tmps (t, a) => tmps.setIfInBounds t a) tmps) ∧ ((ts.zip vs').foldl (fun tmps (t, a) => tmps.setIfInBounds t a) tmps).size = tmps.size := by
 intro ts
 induction ts with
 | nil => intro vs vs' e tmps he _ _; cases vs <;> exact ⟨he, rfl⟩
 | cons t ts ih =>
   intro vs vs' e tmps he hr hb
   cases vs with
   | nil =>
     cases vs' with
     | nil => exact ⟨he, rfl⟩
     | cons v' vs' => have := hr.1; simp at this
   | cons v vs =>
     cases vs' with
     | nil => have := hr.1; simp at this
     | cons v' vs' =>
       have hv : Rel g v v' := hr.2 0 v v' rfl rfl
       have hvs : RelL g vs vs' := ⟨by simpa using hr.1, fun i u u' hu hu' => hr.2 (i + 1) u u' (by simpa using hu) (by simpa using hu')⟩
       have he' : EnvRel g (Env.set e t v) (tmps.setIfInBounds t v') := put_rel (a := ⟨tmps, []⟩) (d := some t) he rfl (by simp [dstOk]; exact hb t (by simp)) hv
       obtain ⟨k1, k2⟩ := ih vs vs' (Env.set e t v) (tmps.setIfInBounds t v') he' hvs (fun x hx => by simpa using hb x (by simp [hx]))
       exact ⟨k1, k2.trans (by simp)⟩
theorem start_rel {g : Ghost} {args args' : List Value} {k : Nat} (h : RelL g args args') (hk : args.length ≤ k) :
 EnvRel g (start args) (args'.toArray ++ Array.replicate (k - args'.toArray.size) undef) := by
 have key : ∀ (l l' : List Value) (s : Nat) (e : Env), RelL g l l' → ∀ t, (∀ i v, l[i]? = some v → t = s + i → (putL e ((List.range' s l.length)) l).at t = v) := by
  intro l
  induction l with
  | nil => intro l' s e _ t i v hv; simp at hv
  | cons x l ih =>
    intro l' s e hr t i v hv ht
    simp only [List.length_cons, List.range'_succ, putL]
    cases i with
    | zero =>
      simp at hv
      subst hv
      rw [putL_at]
      ·simp [ht]
      ·simp [List.mem_range'_1]; omega
    | succ i =>
      cases l' with
      | nil => have := hr.1; simp at this
      | cons x' l' =>
        exact ih l' (s + 1) (Env.set e s x) ⟨by simpa using hr.1, fun j u u' hu hu' => hr.2 (j + 1) u u' (by simpa using hu) (by simpa using hu')⟩ t i v (by simpa using hv) (by rw [ht]; simp only [Nat.add_assoc, Nat.add_comm 1])
 intro t
 unfold start
 rw [List.range_eq_range']
 by_cases ht : t < args.length
 ·rw [key args args' 0 [] h t t args[t] (by simp [ht]) (by simp)]
  have ht' : t < args'.length := h.1 ▸ ht
  have := h.2 t args[t] args'[t] (by simp [ht]) (by simp [ht'])
  simpa [Array.getElem?_append, ht'] using this
 ·rw [putL_at _ _ _ _ (fun hm => ht (by simpa [List.mem_range'_1] using hm))]
  exact .nothing _
def Look.some? (x : Look) : Look := ⟨fun r vs => if (vs.all fun v => !isTuple v) = true then x.g r vs else none, fun h k => by
 split at k
 ·rename_i hc; rw [if_pos hc]; exact x.mono h k
 ·cases k⟩
def extFun (n : Nat) (x : Look) (nd : List (Nat × Option (List Int))) : AFun :=
 ⟨n, [.tmp n], .ops [⟨some n, none, .ext x.some? nd ((List.range n).map .tmp)⟩]⟩
def XOk (P : Program) (f : FuncId) (x : Look) (nd : List (Nat × Option (List Int))) : Prop :=
 Known P f ∧ ∀ {args args' : List Value} {st : St} {hi : Nat} {g : Ghost} {w : World} {v : Value}, Inv0 P hi st g w → (nd.all fun p => hasVar (st.get p.1) p.2) = true → x.g (rdOf st) args = some v → RelL g args args' →
  Calls P f args'.toArray w fun e w' => ∃ v', e = .returned v' ∧ Rel g v v' ∧ Go.RowKit.Below w.heap.size w w'
theorem putL_range (args : List Value) : ∀ (l : List Value) (s : Nat) (e : Env), args.drop s = l → ∀ t : Nat, (putL e (List.range' s l.length) l).at t = if s ≤ t ∧ t < s + l.length then args.getD t nothing else e.at t := by
 intro l
 induction l with
 | nil =>
   intro s e _ t
   have : ¬ (s ≤ t ∧ t < s + ([] : List Value).length) := by simp
   rw [if_neg this]
   rfl
 | cons v l ih =>
   intro s e hl t
   have hd : args.drop (s + 1) = l := by
    have := congrArg (List.drop 1) hl
    rw [List.drop_drop] at this
    exact this
   have hv : args.getD s nothing = v := by
    have : args[s]? = some v := by
     have := congrArg (fun l => l[0]?) hl
     simpa using this
    simp [this]
   have hr : List.range' s (v :: l).length = s :: List.range' (s + 1) l.length := List.range'_succ ..
   rw [hr]
   show (putL (Env.set e s v) (List.range' (s + 1) l.length) l).at t = _
   rw [ih (s + 1) _ hd t]
   have hlen : (v :: l).length = l.length + 1 := rfl
   by_cases h1 : s = t
   ·subst h1
    have n1 : ¬ (s + 1 ≤ s ∧ s < s + 1 + l.length) := by omega
    have n2 : s ≤ s ∧ s < s + (v :: l).length := by omega
    rw [if_neg n1, if_pos n2, Env.at_set_same, hv]
   ·rw [Env.at_set_ne _ _ (Ne.symm h1)]
    by_cases h2 : s + 1 ≤ t ∧ t < s + 1 + l.length
    ·have n2 : s ≤ t ∧ t < s + (v :: l).length := by omega
     rw [if_pos h2, if_pos n2]
    ·have n2 : ¬ (s ≤ t ∧ t < s + (v :: l).length) := by omega
     rw [if_neg h2, if_neg n2]
theorem start_getD (args : List Value) (t : Nat) : (start args).at t = args.getD t nothing := by
 unfold start
 rw [List.range_eq_range', putL_range args args 0 [] rfl t]
 by_cases h : t < args.length
 ·have n2 : 0 ≤ t ∧ t < 0 + args.length := by omega
  rw [if_pos n2]
 ·have n2 : ¬ (0 ≤ t ∧ t < 0 + args.length) := by omega
  rw [if_neg n2]
  simp [List.getD, List.getElem?_eq_none (Nat.le_of_not_lt h)]
theorem start_ev (args : List Value) (n : Nat) (hl : args.length ≤ n) : ((List.range n).map Operand.tmp).map (Env.ev (start args)) = args ++ List.replicate (n - args.length) nothing := by
 refine List.ext_getElem? fun i => ?_
 rw [List.map_map, List.getElem?_map]
 by_cases hi : i < n
 ·rw [List.getElem?_range hi]
  show some ((start args).at i) = _
  rw [start_getD]
  by_cases h : i < args.length
  ·rw [List.getElem?_append_left h, List.getElem?_eq_getElem h]
   simp [List.getD, h]
  ·rw [List.getElem?_append_right (by omega), List.getElem?_replicate, if_pos (by omega)]
   simp [List.getD, List.getElem?_eq_none (Nat.le_of_not_lt h)]
 ·rw [List.getElem?_eq_none (by simp; omega), List.getElem?_eq_none (by simp; omega)]
  rfl
theorem ext_run {Γ : Funs} {k n : Nat} {x : Look} {nd : List (Nat × Option (List Int))} {f : FuncId} {args : List Value} {st st' : St} {v : Value} (hf : Γ f = some (extFun n x nd)) (h : runT Γ (k + 1) (.call f args) st = .ok (v, st')) :
 st' = st ∧ (nd.all fun p => hasVar (st.get p.1) p.2) = true ∧ x.g (rdOf st) args = some v := by
 simp only [runT, hf, Res.of_some, Res.bind_ok, Res.bind_eq_ok, Res.need_eq_ok, decide_eq_true_eq] at h
 obtain ⟨_, hlen, ⟨y, e, st1⟩, h1, h⟩ := h
 have hlen : args.length ≤ n := hlen
 simp only [extFun, codeC, opsC, wants, AOper.run, AOp.run, Look.some?, Res.bind_ok, if_true, Res.bind_eq_ok, Res.need_eq_ok, Res.of_eq_ok, Res.pure_eq] at h1
 obtain ⟨⟨e2, st2⟩, ⟨⟨v2, st3⟩, ⟨_, hnd, v3, hx, he⟩, he2⟩, he3⟩ := h1
 cases he; cases he2; cases he3
 rw [start_ev args n hlen] at hx
 split at hx
 ·rename_i hall
  have hn : args.length = n := by
   refine Classical.byContradiction fun hne => ?_
   have := List.all_eq_true.1 hall nothing (List.mem_append_right _ (List.mem_replicate.2 ⟨by omega, rfl⟩))
   simp [isTuple, nothing] at this
  rw [show n - args.length = 0 by omega, List.replicate_zero, List.append_nil] at hx
  simp only [extFun, resultsC, Res.bind_ok, Res.pure_eq, Env.put, Env.at_set_same, oneOf] at h
  cases h
  exact ⟨rfl, hnd, hx⟩
 ·cases hx
theorem ext_ends {k n : Nat} {Γ : Funs} {x : Look} {nd : List (Nat × Option (List Int))} {f : FuncId} {args args' : List Value} {st st' : St} {v : Value} {g : Ghost} {w : World} (hf : Γ f = some (extFun n x nd)) (hX : XOk P f x nd)
 (h : runT Γ (k + 1) (.call f args) st = .ok (v, st')) (hI : Inv0 P st'.next st g w) (hargs : RelL g args args') : Known P f ∧ ∀ m, CallsIn Fence.wide m P f args'.toArray w (Ends P st g w v st') := by
 obtain ⟨rfl, hnd, hx⟩ := ext_run hf h
 refine ⟨hX.1, fun m => callsIn_wide.2 ((hX.2 hI hnd hx hargs).mono fun e w' ⟨v', he, hr, hb⟩ => ?_)⟩
 subst he
 refine ⟨g, hr, .refl _, ⟨⟨fun id o ho hl => ?_, hI.rl.inj, hI.rl.glob⟩, g.le_refl, fun _ _ => rfl, hb.size, hb.os, hb.tape, hb.output, fun B hB _ => hb.block B hB, fun _ h => .inl h⟩⟩
 obtain ⟨G, hG, hok⟩ := hI.rl.obj id o ho hl
 exact ⟨G, hG, hok.block (hb.block _ (hok.lt hl))⟩
def Told (P : Program) (Γ : Funs) : Prop := ∀ f a, Γ f = some a → funs P f = some a ∨ ∃ n x nd, a = extFun n x nd ∧ XOk P f x nd
theorem call_ok {Γ : Funs} (hΓ : Told P Γ) {k : Nat} (hK : Goes P (ctxOf (runT Γ k) k)) (hD : DrawOk P (ctxOf (runT Γ k) k)) {f : FuncId} {args args' : List Value} {st st' : St} {v : Value} {g : Ghost} {w : World}
 (h : runT Γ (k + 1) (.call f args) st = .ok (v, st')) (hI : Inv0 P st'.next st g w) (hargs : RelL g args args') :
 Known P f ∧ ∀ m, CallsIn Fence.wide m P f args'.toArray w (Ends P st g w v st') := by
 have h0 := h
 simp only [runT, Res.bind_eq_ok, Res.of_eq_ok, Res.need_eq_ok, decide_eq_true_eq] at h
 obtain ⟨af, haf, _, hlen, ⟨x, e, st1⟩, h1, h⟩ := h
 rcases hΓ f af haf with haf | ⟨xn, xg, xd, rfl, hX⟩
 case inr => exact ext_ends haf hX h0 hI hargs
 clear h0
 unfold funs at haf
 cases hfn : P.funcs[f]? with
 | none => simp [hfn] at haf
 | some fn =>
   simp only [hfn, Option.bind_some] at haf
   unfold compFun at haf
   split at haf
   ·rename_i c rs hc hrs
    split at haf
    ·cases haf
    ·rename_i hname
     cases haf
     have hknown : Known P f := ⟨fn, hfn, by simp [hc], hname⟩
     refine ⟨hknown, fun m => callsIn_of_wp_marks hfn hc trivial ?_ rfl⟩
     have hst1 : st1.next ≤ st'.next := by
      cases x with
      | exit id => cases h
      | normal => simp only [Res.bind_eq_ok, Res.pure_eq] at h; obtain ⟨_, _, h⟩ := h; cases h; exact Nat.le_refl _
      | ret => simp only [Res.bind_eq_ok, Res.pure_eq] at h; obtain ⟨_, _, h⟩ := h; cases h; exact Nat.le_refl _
     have hIv : Inv P st'.next none fn.ntmps w.heap.size (start args) st g { tmps := args'.toArray ++ Array.replicate (fn.ntmps - args'.toArray.size) undef, defers := [] } w :=
      { base := hI
        env := start_rel hargs hlen
        size := by have := hargs.1; have hl : args.length ≤ fn.ntmps := hlen; simp; omega
        around := fun l hl => by cases hl
        low := Nat.le_refl _
        marks := ⟨[], rfl, List.nodup_nil, fun r hr => by cases hr⟩ }
     refine code_wp (fr := none) hK hD (compL_impl P fn.ntmps c _ _ _) hst1 h1 hIv fun a' w' g' hI' hto => ?_
     cases x with
     | exit id => cases h
     | normal =>
       simp only [Res.bind_eq_ok, Res.pure_eq] at h
       obtain ⟨vs, hvs, h⟩ := h
       cases h
       exact leaves_ok hI hI'.env hrs hvs hto.le _ _ hto.step hI'.marks
     | ret =>
       simp only [Res.bind_eq_ok, Res.pure_eq] at h
       obtain ⟨vs, hvs, h⟩ := h
       cases h
       exact leaves_ok hI hI'.env hrs hvs hto.le _ _ hto.step hI'.marks
   ·cases haf
theorem round_ok {Γ : Funs} {k : Nat} (hK : Goes P (ctxOf (runT Γ k) k)) (hD : DrawOk P (ctxOf (runT Γ k) k)) {l : Nat} {args args' : List Value} {st st' : St} {v : Value} {g : Ghost} {w : World} {G : Gh}
 (h : runT Γ (k + 1) (.round l args) st = .ok (v, st')) (hI : Inv0 P st'.next st g w) (hargs : RelL g args args') (hG : g l = some G) :
 ∃ f tmps assign body, (Instr.yield G.blk args'.toArray).run P w = .ok (.round G.blk f tmps assign body) w ∧ ∀ m, RoundIn Fence.wide m P G.blk f tmps assign body w (Ends P st g w v st') := by
 have hle := runT_le Γ _ _ _ _ _ h
 simp only [runT] at h
 split at h
 ·rename_i e ps as bd s0 pd hget
  simp only [Res.bind_eq_ok, Res.need_eq_ok, decide_eq_true_eq] at h
  obtain ⟨_, hlen, _, hro, ⟨x, e1, st1⟩, h1, h⟩ := h
  obtain ⟨G', hG', r, hr, hst, hpend, henv, hps, hpt, has, hbd⟩ := hI.rl.obj l _ hget rfl
  rw [hG] at hG'; cases hG'
  have hlt : l < st.next := hI.top l _ hget rfl
  obtain ⟨p1, p2⟩ := putL_rel ps args args' e r.tmps henv hargs hpt
  have hfold : (r.params.zip args'.toArray).foldl (fun tmps (t, a) => tmps.setIfInBounds t a) r.tmps = (ps.zip args').foldl (fun tmps (t, a) => tmps.setIfInBounds t a) r.tmps := by
   rw [← Array.foldl_toList, Array.toList_zip, hps]
  refine ⟨r.fn, (ps.zip args').foldl (fun tmps (t, a) => tmps.setIfInBounds t a) r.tmps, r.assign, r.body, ?_, fun m => ?_⟩
  ·have hsz : ¬ args'.toArray.size ≠ r.params.size := by
    have e1 := hargs.1
    have e2 : r.params.size = ps.length := by rw [← hps]; simp
    simp; omega
   unfold Instr.yield
   simp only [Sem.run_bind, run_getLoop hr, Result.andThen_ok]
   rw [if_neg hsz, ← hfold]
   rfl
  ·have hIv : Inv P st'.next (some G.blk) r.tmps.size 0 (putL e ps args) st g { tmps := (ps.zip args').foldl (fun tmps (t, a) => tmps.setIfInBounds t a) r.tmps, defers := [] } w :=
    { base := hI
      env := p1
      size := p2
      around := fun lb hlb => by cases hlb; exact ⟨l, G, hlt, by rw [hget]; rfl, hG, rfl⟩
      low := Nat.zero_le _
      marks := ⟨[], rfl, List.nodup_nil, fun r hr => by cases hr⟩ }
   refine roundIn_of_wpIn trivial ?_
   have hst1 : st1.next ≤ st'.next := by
    simp only at h
    split at h
    ·simp only [Res.bind_eq_ok] at h
     obtain ⟨⟨y, e3, st3⟩, h2, h⟩ := h
     have hn := (codeC_le hK.le _ _ _ _ _ _ h2).next
     simp only at h
     split at h
     ·cases y <;> (cases h; exact hn)
     ·cases h
    ·cases h
   refine code_wp (fr := some G.blk) hK hD has hst1 h1 hIv fun a1 w1 g1 hI1 hto => ?_
   simp only at h
   split at h
   ·rename_i x0 o0 e2 ps2 as2 bd2 pd2 hget1
    simp only [Res.bind_eq_ok] at h
    obtain ⟨⟨y, e3, st3⟩, h2, h⟩ := h
    have hG1 : g1 l = some G := hto.step.ext _ _ hG
    obtain ⟨G', hG', r1, hr1, hst1, hpend1, henv1, hps1, hpt1, has1, hbd1⟩ := hI1.base.rl.obj l _ hget1 rfl
    rw [hG1] at hG'; cases hG'
    have hro1 : st1.ro = st.ro := hto.le.ro
    have hlt1 := (Array.getElem?_eq_some_iff.1 hr1).1
    show ∃ w₂, _
    refine ⟨{ w1 with heap := w1.heap.setIfInBounds G.blk (.loop { r1 with state := .busy }) }, ?_, ?_⟩
    ·unfold Instr.beginRound
     simp only [Sem.run_bind, run_getLoop hr1, Result.andThen_ok, run_setLoop _ hr1, hst1]
     rfl
    ·have sput : ∀ {g1 : Ghost} {w1 : World} {st1 : St} {e2 : Env} {ps2 : List Tmp} {as2 bd2 : ACode} {s2 : LoopState} {pd2 : AExit} {r1 : Loop}, Rl P st.ro g1 st1.get w1.heap → st1.get l = some (.loop e2 ps2 as2 bd2 s2 pd2) → g1 l = some G → w1.heap[G.blk]? = some (.loop r1) →
      ∀ (s' : LoopState) (pd' : AExit) (pc : Option Code), pendRel pd' pc → EnvRel g1 e2 r1.tmps → r1.params.toList = ps2 → (∀ t ∈ ps2, t < r1.tmps.size) → Impl P r1.tmps.size r1.assign as2 → Impl P r1.tmps.size r1.body bd2 →
      ∀ lo hi, Step P st.ro g1 st1.get w1 g1 (st1.put l (.loop e2 ps2 as2 bd2 s' pd')).get { w1 with heap := w1.heap.setIfInBounds G.blk (.loop { r1 with state := s', pending := pc }) } lo hi := by
      intro g1 w1 st1 e2 ps2 as2 bd2 s2 pd2 r1 hrl hget1 hG1 hr1 s' pd' pc hp k1 k2 k3 k4 k5 lo hi
      have hlt1 := (Array.getElem?_eq_some_iff.1 hr1).1
      rw [St.get_put]
      refine Step.change (o := .loop e2 ps2 as2 bd2 s2 pd2) (o' := .loop e2 ps2 as2 bd2 s' pd') (w' := { w1 with heap := w1.heap.setIfInBounds G.blk (.loop { r1 with state := s', pending := pc }) }) hrl hget1 rfl hro hG1 (by simp) (fun B hB => ?_) rfl rfl rfl (fun _ => ?_) _ _
      ·exact Array.getElem?_setIfInBounds_ne (Ne.symm hB)
      ·exact ⟨{ r1 with state := s', pending := pc }, by simp [Array.getElem?_setIfInBounds, hlt1], rfl, hp, k1, k2, k3, k4, k5⟩
     have hrl1 : Rl P st.ro g1 st1.get w1.heap := hto.step.rl
     have s2 := sput hrl1 hget1 hG1 hr1 .busy pd2 r1.pending hpend1 henv1 hps1 hpt1 has1 hbd1 st1.next st1.next
     have hto2 : To P st1 g1 w1 (st1.put l (.loop e2 ps2 as2 bd2 .busy pd2)) g1 { w1 with heap := w1.heap.setIfInBounds G.blk (.loop { r1 with state := .busy }) } := ⟨.putLoop rfl hget1 rfl, by rw [hro1]; exact s2⟩
     have hI2 := hI1.to hto2 hI1.env rfl rfl
     have hst3 : st3.next ≤ st'.next := by
      simp only at h
      split at h
      ·cases y <;> (cases h; exact Nat.le_refl _)
      ·cases h
     refine code_wp (fr := some G.blk) hK hD hbd hst3 h2 hI2 fun a3 w3 g3 hI3 hto3 => ?_
     have hto13 := (hto.trans hto2).trans hto3
     simp only at h
     split at h
     ·rename_i o3 e4 ps4 as4 bd4 s4 pd4 hget3
      have hG3 : g3 l = some G := hto13.step.ext _ _ hG
      have hrl3 : Rl P st.ro g3 st3.get w3.heap := hto13.step.rl
      obtain ⟨G', hG', r3, hr3, hst3, hpend3, henv3, hps3, hpt3, has3, hbd3⟩ := hrl3.obj l _ hget3 rfl
      rw [hG3] at hG'; cases hG'
      have fin : ∀ (j : Option Code) (y : AExit) (s5 : LoopState), pendRel y j → s5 = (if j.isNone then .ready else .done) → st' = st3.put l (.loop e4 ps4 as4 bd4 s5 y) → v = .bool j.isNone →
       ∃ v4 w4, (Instr.endRound G.blk j).run P w3 = .ok v4 w4 ∧ Ends P st g w v st' (.returned v4) w4 := by
       intro j y s5 hp hs5 hst' hv
       have s5' := sput hrl3 hget3 hG3 hr3 s5 y j hp henv3 hps3 hpt3 has3 hbd3 st3.next st3.next
       refine ⟨.bool j.isNone, { w3 with heap := w3.heap.setIfInBounds G.blk (.loop { r3 with state := s5, pending := j }) }, ?_, g3, by rw [hv]; exact .flat rfl, hle, ?_⟩
       ·unfold Instr.endRound
        simp only [Sem.run_bind, run_getLoop hr3, Result.andThen_ok, run_setLoop _ hr3, hs5]
        rfl
       ·subst hst'
        exact hto13.step.trans s5' hto13.le.next (Nat.le_refl _)
      cases y with
      | normal => cases h; exact fin none .normal .ready rfl rfl rfl rfl
      | exit id => cases h; exact fin (some (.exit id)) (.exit id) .done rfl rfl rfl rfl
      | ret => cases h; exact fin (some .ret) .ret .done rfl rfl rfl rfl
     ·cases h
   ·cases h
 ·cases h
theorem goes {Γ : Funs} (hΓ : Told P Γ) (hD : ∀ n, Goes P (ctxOf (runT Γ n) n) → DrawOk P (ctxOf (runT Γ n) n)) : ∀ n, Goes P (ctxOf (runT Γ n) n) := by
 intro n
 induction n with
 | zero => exact ⟨⟨fun t st v st' h => runT_le _ _ _ _ _ _ h, fun f e st r h => ⟨_, h⟩⟩, fun h => by simp [ctxOf, runT] at h, fun h => by simp [ctxOf, runT] at h⟩
 | succ n ih => exact ⟨⟨fun t st v st' h => runT_le _ _ _ _ _ _ h, fun f e st r h => ⟨_, h⟩⟩, fun h _ _ _ hI ha => call_ok hΓ ih (hD n ih) h hI ha, fun h _ _ _ _ hI ha hG => round_ok ih (hD n ih) h hI ha hG⟩
end
end Go.AM
set_option linter.unusedVariables false
set_option linter.unusedSimpArgs false
set_option linter.unnecessarySimpa false
namespace Go.AM
section
variable {st st' : St} {ρ : Operand → Value} {o : AOp} {v : Value}
theorem pure_run (hp : o.isPure = true) (h : o.run st ρ = .ok (v, st')) : st' = st ∧ ∀ st2, o.run st2 ρ = .ok (v, st2) := by
 unfold AOp.isPure at hp
 split at hp <;> first | (cases hp; done) | skip
 all_goals simp only [AOp.run] at h ⊢
 case h_1 => cases h; exact ⟨rfl, fun _ => rfl⟩
 case h_2 =>
  split at h
  ·rename_i t hc; cases h; exact ⟨rfl, fun _ => by simp [hc]⟩
  ·cases h
 case h_8 => rename_i x; cases hx : ρ x <;> simp only [aconv, hx] at h ⊢ <;> first | (cases h; done) | (cases h; exact ⟨rfl, fun _ => rfl⟩)
 case h_9 => rename_i k x; cases hx : ρ x <;> simp only [aconv, hx] at h ⊢ <;> first | (cases h; done) | (cases h; exact ⟨rfl, fun _ => rfl⟩)
 case h_17 =>
  rename_i t z ok x
  cases hx : ρ x <;> simp only [hx] at h ⊢ <;> first
   | (cases h; done)
   | ((repeat' split at h) <;> first
       | (cases h; done)
       | (cases h; refine ⟨rfl, fun _ => ?_⟩; simp [*]; done)
       | (cases h; refine ⟨rfl, fun _ => ?_⟩; simp_all; done))
 case h_19 => rename_i x; cases hx : ρ x <;> simp only [hx] at h ⊢ <;> first | (cases h; done) | (cases h; exact ⟨rfl, fun _ => rfl⟩)
 case h_20 => rename_i x; cases hx : ρ x <;> simp only [hx] at h ⊢ <;> first | (cases h; done) | (cases h; exact ⟨rfl, fun _ => rfl⟩)
 case h_23 =>
  rename_i x lo hi mx
  have e : ∀ (s1 s2 : St) (y : Value) (a b c : Option Value), aslice s1 .str y a b c = aslice s2 .str y a b c := by
   intro s1 s2 y a b c; cases y <;> rfl
  simp only [Res.bind_eq_ok, Res.pure_eq] at h
  obtain ⟨u, hu, h⟩ := h
  cases h
  exact ⟨rfl, fun st2 => by rw [e st2 st, hu]; rfl⟩
 all_goals first
  | (cases h; exact ⟨rfl, fun _ => rfl⟩)
  | (simp only [Res.bind_eq_ok, Res.pure_eq] at h; obtain ⟨u, hu, h⟩ := h; cases h; refine ⟨rfl, fun _ => ?_⟩; simp [hu]; done)
  | (split at h <;> first
      | (cases h; done)
      | (cases h; refine ⟨rfl, fun _ => ?_⟩; simp [*]; done)
      | (simp only [Res.bind_eq_ok, Res.pure_eq] at h; obtain ⟨u, hu, h⟩ := h; cases h; refine ⟨rfl, fun _ => ?_⟩; simp [*]; done)
      | (simp only [Res.bind_eq_ok, Res.pure_eq] at h; obtain ⟨u, hu, u2, hu2, h⟩ := h; cases h; refine ⟨rfl, fun _ => ?_⟩; simp [*]; done))
theorem alloc_run (ha : o.isAlloc = true) (h : o.run st ρ = .ok (v, st')) : ∃ ob, st' = st.alloc ob ∧ ob.live = true ∧ ∀ st2 : St, st2.next = st.next → o.run st2 ρ = .ok (v, st2.alloc ob) := by
 unfold AOp.isAlloc at ha
 split at ha <;> first | (cases ha; done) | skip
 all_goals simp only [AOp.run] at h ⊢
 case h_1 => cases h; exact ⟨_, rfl, rfl, fun st2 e => by rw [e]⟩
 case h_2 =>
  simp only [Res.bind_eq_ok, Res.pure_eq] at h
  obtain ⟨u, hu, h⟩ := h
  cases h; exact ⟨_, rfl, rfl, fun st2 e => by rw [e, hu]; rfl⟩
 case h_3 =>
  simp only [Res.bind_eq_ok, Res.pure_eq] at h
  obtain ⟨u, hu, h⟩ := h
  cases h; exact ⟨_, rfl, rfl, fun st2 e => by rw [e, hu]; rfl⟩
 case h_4 => cases h; exact ⟨_, rfl, rfl, fun st2 e => by rw [e]⟩
 case h_5 =>
  split at h
  ·rename_i a b ha hb
   simp only [Res.bind_eq_ok, Res.pure_eq] at h
   obtain ⟨u, hu, h⟩ := h
   cases h; exact ⟨_, rfl, rfl, fun st2 e => by rw [e, hu]; rfl⟩
  ·cases h
theorem mapOf_ok {x : Value} {es : List (Value × Value)} (h : mapOf st x = .ok es) : (∀ id, idOf x = some id → ∃ ob, st.get id = some ob ∧ ob.live = true) ∧ ∀ st2 : St, (∀ id, idOf x = some id → st2.get id = st.get id) → mapOf st2 x = .ok es := by
 unfold mapOf at h
 split at h
 ·cases h; exact ⟨fun id e => by simp [idOf] at e, fun _ _ => rfl⟩
 ·rename_i r
  refine ⟨fun id e => ?_, fun st2 he => ?_⟩
  ·simp only [idOf, Option.some.injEq] at e; subst e; exact ⟨_, map_get h, rfl⟩
  ·have hg := he r rfl
   simp only [mapOf, St.map, hg, map_get h]
 ·cases h
theorem aslice_ok {k : SliceK} {x u : Value} {lo hi mx : Option Value} (h : aslice st k x lo hi mx = .ok u) : (∀ id, idOf x = some id → ∃ ob, st.get id = some ob ∧ ob.live = true) ∧ ∀ st2 : St, (∀ id, idOf x = some id → st2.get id = st.get id) → aslice st2 k x lo hi mx = .ok u := by
 unfold aslice at h
 split at h
 ·exact ⟨fun id e => by simp [idOf] at e, fun st2 _ => by simp only [aslice, h]⟩
 ·exact ⟨fun id e => by simp [idOf] at e, fun st2 _ => by simp only [aslice, h]⟩
 ·rename_i s b of n s'
  simp only [Res.bind_eq_ok] at h
  obtain ⟨_, h1, xs, hxs, h⟩ := h
  refine ⟨fun id e => ?_, fun st2 he => ?_⟩
  ·simp only [idOf, Option.some.injEq] at e; subst e; exact ⟨_, cells_get hxs, rfl⟩
  ·have hg := he b rfl
   have hx2 : st2.cells b = .ok xs := by simp only [St.cells, hg, cells_get hxs]
   simp only [aslice, h1, hx2, Res.bind_ok]
   exact Res.bind_eq_ok.2 h
 ·rename_i n s b of
  simp only [Res.bind_eq_ok] at h
  obtain ⟨_, h1, xs, hxs, h⟩ := h
  refine ⟨fun id e => ?_, fun st2 he => ?_⟩
  ·simp only [idOf, Option.some.injEq] at e; subst e; exact ⟨_, cells_get hxs, rfl⟩
  ·have hg := he b rfl
   have hx2 : st2.cells b = .ok xs := by simp only [St.cells, hg, cells_get hxs]
   simp only [aslice, h1, hx2, Res.bind_ok]
   simp only [Res.bind_eq_ok]
   exact h
 ·cases h
theorem look_run (hl : o.isLook = true) (h : o.run st ρ = .ok (v, st')) : st' = st ∧ (∀ id, o.looks ρ = some id → ∃ ob, st.get id = some ob ∧ ob.live = true) ∧
 ∀ st2 : St, (∀ id, o.looks ρ = some id → st2.get id = st.get id) → o.run st2 ρ = .ok (v, st2) := by
 have hs : ∀ {k : SliceK} {x : Operand} {lo hi mx : Option Operand}, (AOp.slice k x lo hi mx).run st ρ = .ok (v, st') → st' = st ∧ (∀ id, (AOp.slice k x lo hi mx).looks ρ = some id → ∃ ob, st.get id = some ob ∧ ob.live = true) ∧
  ∀ st2 : St, (∀ id, (AOp.slice k x lo hi mx).looks ρ = some id → st2.get id = st.get id) → (AOp.slice k x lo hi mx).run st2 ρ = .ok (v, st2) := by
  intro k x lo hi mx h
  simp only [AOp.run, Res.bind_eq_ok, Res.pure_eq] at h
  obtain ⟨u, hu, h⟩ := h
  cases h
  obtain ⟨k1, k2⟩ := aslice_ok hu
  refine ⟨rfl, fun id e => k1 id (by simpa [AOp.looks, AOp.lookAt] using e), fun st2 he => ?_⟩
  simp only [AOp.run, k2 st2 (fun id e => he id (by simpa [AOp.looks, AOp.lookAt] using e))]; rfl
 unfold AOp.isLook at hl
 split at hl <;> first | (cases hl; done) | skip
 case h_1 n a =>
  have aux : ∀ {b of : Nat} (hp : asPtr (ρ a) = .ok (b, of)), AOp.looks ρ (.load n a) = some b := by
   intro b of hp
   unfold asPtr at hp
   split at hp
   ·rename_i b' o' hx; cases hp; simp [AOp.looks, AOp.lookAt, hx, idOf]
   ·cases hp
  cases n with
  | none =>
    simp only [AOp.run, Res.bind_eq_ok, Res.pure_eq, St.load1] at h
    obtain ⟨⟨b, of⟩, hp, u, ⟨xs, hxs, hu⟩, h⟩ := h
    cases h
    have hid := aux hp
    refine ⟨rfl, fun id e => ?_, fun st2 he => ?_⟩
    ·rw [hid] at e; cases e; exact ⟨_, cells_get hxs, rfl⟩
    ·have hg := he b hid
     have hx2 : st2.cells b = .ok xs := by simp only [St.cells, hg, cells_get hxs]
     simp only [AOp.run, hp, Res.bind_ok, St.load1, hx2, hu, Res.pure_eq]
  | some n =>
    simp only [AOp.run, Res.bind_eq_ok, Res.pure_eq, St.loadN] at h
    obtain ⟨⟨b, of⟩, hp, u, ⟨xs, hxs, u1, hu1, hu⟩, h⟩ := h
    cases h
    cases hu
    have hid := aux hp
    refine ⟨rfl, fun id e => ?_, fun st2 he => ?_⟩
    ·rw [hid] at e; cases e; exact ⟨_, cells_get hxs, rfl⟩
    ·have hg := he b hid
     have hx2 : st2.cells b = .ok xs := by simp only [St.cells, hg, cells_get hxs]
     simp only [AOp.run, hp, Res.bind_ok, St.loadN, hx2, hu1, Res.pure_eq]
 case h_2 q z ok x k =>
  simp only [AOp.run, Res.bind_eq_ok, Res.pure_eq, alook] at h
  obtain ⟨u, ⟨u1, h1, es, hes, u2, h2, h3⟩, h⟩ := h
  cases h
  cases h3
  obtain ⟨k1, k2⟩ := mapOf_ok hes
  refine ⟨rfl, fun id e => k1 id (by simpa [AOp.looks, AOp.lookAt] using e), fun st2 he => ?_⟩
  simp only [AOp.run, alook, h1, k2 st2 (fun id e => he id (by simpa [AOp.looks, AOp.lookAt] using e)), h2, Res.bind_ok, Res.pure_eq]
 case h_3 x =>
  simp only [AOp.run] at h
  cases hx : ρ x with
  | map r =>
    cases r with
    | none =>
      simp only [hx] at h
      cases h
      exact ⟨rfl, fun id e => by simp [AOp.looks, AOp.lookAt, hx, idOf] at e, fun st2 _ => by simp [AOp.run, hx]⟩
    | some r =>
      simp only [hx, Res.bind_eq_ok, Res.pure_eq] at h
      obtain ⟨es, hes, h⟩ := h
      cases h
      refine ⟨rfl, fun id e => ?_, fun st2 he => ?_⟩
      ·simp only [AOp.looks, AOp.lookAt, hx, idOf, Option.bind_some, Option.some.injEq] at e; subst e; exact ⟨_, map_get hes, rfl⟩
      ·have hg := he r (by simp [AOp.looks, AOp.lookAt, hx, idOf])
       have hx2 : st2.map r = .ok es := by simp only [St.map, hg, map_get hes]
       simp [AOp.run, hx, hx2]
  | _ => simp [hx] at h
 case h_4 => exact hs h
 case h_5 => exact hs h
 case h_6 x =>
  simp only [AOp.run] at h
  unfold aconv at h
  split at h <;> first | (rename_i hk _; cases hk; done) | skip
  case h_3 a n s hk hx =>
   simp only [Res.bind_eq_ok, Res.pure_eq] at h
   obtain ⟨u, h1, l, h2, u3, h3, t, h4, h5⟩ := h
   cases h5
   refine ⟨rfl, fun id e => ?_, fun st2 he => ?_⟩
   ·unfold firstL at h2
    split at h2
    ·rename_i b o n' s' hv
     rw [hx] at hv
     cases hv
     simp only [Res.bind_eq_ok, St.loadN] at h2
     obtain ⟨_, _, xs, hxs, _⟩ := h2
     simp only [AOp.looks, AOp.lookAt, hx, idOf, Option.bind_some, Option.some.injEq] at e
     subst e
     exact ⟨_, cells_get hxs, rfl⟩
    ·rename_i hv
     rw [hx] at hv
     cases hv
     simp [AOp.looks, AOp.lookAt, hx, idOf] at e
    ·rename_i hv; rw [hx] at hv; cases hv
    ·cases h2
   ·have h2' : firstL st2 1 n (ρ x) = .ok l := by
     unfold firstL at h2 ⊢
     split at h2
     ·rename_i b o n' s' hv
      have hg := he b (by simp [AOp.looks, AOp.lookAt, hv, idOf])
      simp only [Res.bind_eq_ok, St.loadN] at h2 ⊢
      obtain ⟨u4, e1, xs, hxs, e2⟩ := h2
      have hx2 : st2.cells b = .ok xs := by simp only [St.cells, hg, cells_get hxs]
      exact ⟨u4, e1, xs, hx2, e2⟩
     ·exact h2
     ·exact h2
     ·cases h2
    rw [hx] at h2'
    simp only [AOp.run, aconv, hx, h1, h2', h3, h4, Res.bind_ok, Res.pure_eq]
  all_goals first | (cases h; done) | skip
theorem sameCell_eq {x y : Value} (h : sameCell x y = true) : x = y := by
 unfold sameCell at h
 split at h <;> simp_all
theorem sameCells_eq : ∀ {xs ys : List Value}, sameCells xs ys = true → xs = ys := by
 intro xs
 induction xs with
 | nil => intro ys h; cases ys <;> simp [sameCells] at h ⊢
 | cons x xs ih =>
   intro ys h
   cases ys with
   | nil => simp [sameCells] at h
   | cons y ys =>
     simp only [sameCells, Bool.and_eq_true] at h
     rw [sameCell_eq h.1, ih h.2]
theorem cells_inj {x y : Value} (h : x.cells.toList = y.cells.toList) (hx : ∀ c, x ≠ .agg c) (hy : ∀ c, y ≠ .agg c) : x = y := by
 have e : ∀ z : Value, (∀ c, z ≠ .agg c) → z.cells = #[z] := by
  intro z hz; cases z <;> first | rfl | exact absurd rfl (hz _)
 rw [e x hx, e y hy] at h
 simpa using h
theorem sameOne_eq {x y : Value} (h : sameOne x y = true) : x = y := by
 unfold sameOne at h
 split at h
 ·rename_i xs ys; rw [Array.ext' (sameCells_eq h)]
 ·simp only [Bool.and_eq_true, decide_eq_true_eq] at h
  obtain ⟨⟨rfl, h1⟩, h2⟩ := h
  rw [Array.ext' (sameCells_eq h1), Array.ext' (sameCells_eq h2)]
 ·rename_i t x u y
  simp only [Bool.and_eq_true, decide_eq_true_eq] at h
  obtain ⟨⟨rfl, h1⟩, h2⟩ := h
  split at h2
  ·rename_i a b
   have := sameCells_eq h1
   have e : a = b := Array.ext' this
   rw [e]
  ·cases h2
  ·cases h2
  ·have hx : ∀ c, x ≠ .agg c := fun c e => by subst e; cases y <;> simp_all
   have hy : ∀ c, y ≠ .agg c := fun c e => by subst e; cases x <;> simp_all
   rw [cells_inj (sameCells_eq h1) hx hy]
 ·exact sameCell_eq h
theorem sameVal_eq {x y : Value} (h : sameVal x y = true) : x = y := by
 unfold sameVal at h
 split at h
 ·rename_i xs ys
  split at h
  ·rename_i x a y b e1 e2
   simp only [Bool.and_eq_true, decide_eq_true_eq] at h
   obtain ⟨h1, rfl⟩ := h
   have := sameOne_eq h1
   subst this
   have : xs = ys := Array.ext' (e1.trans e2.symm)
   rw [this]
  ·cases h
 ·exact sameOne_eq h
end
end Go.AM
set_option linter.unusedVariables false
set_option linter.unusedSimpArgs false
set_option linter.unnecessarySimpa false
namespace Go.AM
section
variable {P : Program} {ro : Nat} {g g' : Ghost} {H H1 H1' H' : AHeap} {w w' : World} {lo hi : Nat}
def Touched (H1 : AHeap) (lo hi id : Nat) : Prop := (∃ o, H1 id = some o ∧ o.live = true) ∨ (lo ≤ id ∧ id < hi)
theorem Step.beside (hR : Rl P ro g H w.heap) (hlo : ro ≤ lo) (hsub : ∀ id o, H1 id = some o → o.live = true → H id = some o) (hs : Step P ro g H1 w g' H1' w' lo hi)
 (halive : ∀ id o, H1' id = some o → o.live = true → (∃ o0, H1 id = some o0 ∧ o0.live = true) ∨ (lo ≤ id ∧ id < hi))
 (hT : ∀ id o, o.live = true → Touched H1 lo hi id → (H' id = some o ↔ H1' id = some o)) (hN : ∀ id o, o.live = true → ¬ Touched H1 lo hi id → (H' id = some o ↔ H id = some o)) :
 Step P ro g H w g' H' w' lo hi := by
 have hblk : ∀ id o G, ¬ Touched H1 lo hi id → H id = some o → o.live = true → g id = some G → w'.heap[G.blk]? = w.heap[G.blk]? ∧ G.blk < w.heap.size ∧ ¬ Owned ro g H1 G.blk := by
  intro id o G hn ho hl hG
  obtain ⟨K, hK, hok⟩ := hR.obj id o ho hl
  rw [hG] at hK; cases hK
  have hno : ¬ Owned ro g H1 G.blk := by
   rintro ⟨id1, o1, G1, h1, hl1, hro1, hG1, e⟩
   have := hR.inj id1 id o1 o G1 G (hsub _ _ h1 hl1) hl1 ho hl hro1 hG1 hG e
   subst this
   exact hn (.inl ⟨o1, h1, hl1⟩)
  exact ⟨hs.frame _ (hok.lt hl) hno, hok.lt hl, hno⟩
 have hgh : ∀ id o G, H id = some o → o.live = true → g' id = some G → g id = some G := by
  intro id o G ho hl hG
  obtain ⟨K, hK, _⟩ := hR.obj id o ho hl
  have := hs.ext _ _ hK
  rw [hG] at this; cases this
  exact hK
 have hsubO : ∀ B, Owned ro g H1 B → Owned ro g H B := fun B ⟨id1, o1, G1, h1, hl1, hro1, hG1, e⟩ => ⟨id1, o1, G1, hsub _ _ h1 hl1, hl1, hro1, hG1, e⟩
 have clash : ∀ id o G id' o' G', Touched H1 lo hi id → H1' id = some o → o.live = true → ro ≤ id → g' id = some G → ¬ Touched H1 lo hi id' → H id' = some o' → o'.live = true → g' id' = some G' → G.blk = G'.blk → False := by
  intro id o G id' o' G' ht ho hl hro hG hn ho' hl' hG' e
  have hG2 := hgh id' o' G' ho' hl' hG'
  obtain ⟨_, hlt, hno⟩ := hblk id' o' G' hn ho' hl' hG2
  rcases hs.own G.blk ⟨id, o, G, ho, hl, hro, hG, rfl⟩ with h | h
  ·rw [e] at h; exact hno h
  ·omega
 refine ⟨⟨?_, ?_, hs.rl.glob⟩, hs.ext, hs.only, hs.size, hs.os, hs.tape, hs.output, fun B hB hn => hs.frame B hB (fun h => hn (hsubO B h)), ?_⟩
 ·intro id o ho hl
  by_cases ht : Touched H1 lo hi id
  ·exact hs.rl.obj id o ((hT id o hl ht).1 ho) hl
  ·have ho' := (hN id o hl ht).1 ho
   obtain ⟨K, hK, hok⟩ := hR.obj id o ho' hl
   exact ⟨K, hs.ext _ _ hK, (hok.mono hs.ext).block (hblk id o K ht ho' hl hK).1⟩
 ·intro id id' o o' G G' ho hl ho' hl' hro hG hG' e
  by_cases ht : Touched H1 lo hi id
  ·have ho1 := (hT id o hl ht).1 ho
   by_cases ht' : Touched H1 lo hi id'
   ·exact hs.rl.inj id id' o o' G G' ho1 hl ((hT id' o' hl' ht').1 ho') hl' hro hG hG' e
   ·exact (clash id o G id' o' G' ht ho1 hl hro hG ht' ((hN id' o' hl' ht').1 ho') hl' hG' e).elim
  ·have ho1 := (hN id o hl ht).1 ho
   have hG1 := hgh id o G ho1 hl hG
   by_cases ht' : Touched H1 lo hi id'
   ·have ho1' := (hT id' o' hl' ht').1 ho'
    rcases halive id' o' ho1' hl' with ⟨o0, h0, hl0⟩ | hw
    ·have h0' := hsub id' o0 h0 hl0
     exact hR.inj id id' o o0 G G' ho1 hl h0' hl0 hro hG1 (hgh id' o0 G' h0' hl0 hG') e
    ·exact (clash id' o' G' id o G ht' ho1' hl' (by omega) hG' ht ho1 hl hG e.symm).elim
   ·have ho1' := (hN id' o' hl' ht').1 ho'
    exact hR.inj id id' o o' G G' ho1 hl ho1' hl' hro hG1 (hgh id' o' G' ho1' hl' hG') e
 ·rintro B ⟨id, o, G, ho, hl, hro, hG, e⟩
  by_cases ht : Touched H1 lo hi id
  ·rcases hs.own B ⟨id, o, G, (hT id o hl ht).1 ho, hl, hro, hG, e⟩ with h | h
   ·exact .inl (hsubO B h)
   ·exact .inr h
  ·have ho1 := (hN id o hl ht).1 ho
   exact .inl ⟨id, o, G, ho1, hl, hro, hgh id o G ho1 hl hG, e⟩
theorem Step.congr {lo hi : Nat} (hs : Step P ro g H w g' H' w' lo hi) {H2 : AHeap} (h : ∀ id o, o.live = true → (H2 id = some o ↔ H' id = some o)) : Step P ro g H w g' H2 w' lo hi :=
 { hs with
   rl := ⟨fun id o ho hl => hs.rl.obj id o ((h id o hl).1 ho) hl, fun id id' o o' G G' ho hl ho' hl' => hs.rl.inj id id' o o' G G' ((h id o hl).1 ho) hl ((h id' o' hl').1 ho') hl', hs.rl.glob⟩
   own := fun B ⟨id, o, G, ho, hl, k⟩ => hs.own B ⟨id, o, G, (h id o hl).1 ho, hl, k⟩ }
theorem Step.trans2 {g'' : Ghost} {H'' : AHeap} {w'' : World} (h : Step P ro g H w g' H' w' lo hi) (k : Step P ro g' H' w' g'' H'' w'' lo hi) : Step P ro g H w g'' H'' w'' lo hi where
 rl := k.rl
 ext := Ghost.le_trans h.ext k.ext
 only := fun id hn => (k.only id hn).trans (h.only id hn)
 size := Nat.le_trans h.size k.size
 os := k.os.trans h.os
 tape := k.tape.trans h.tape
 output := k.output.trans h.output
 frame := fun B hB hn => (k.frame B (Nat.lt_of_lt_of_le hB h.size) (fun ho => (h.own B ho).elim hn (by omega))).trans (h.frame B hB hn)
 own := fun B ho => (k.own B ho).elim (fun ho => h.own B ho) (fun hs => .inr (Nat.le_trans h.size hs))
theorem Rl.sub {hp : Array Obj} (hR : Rl P ro g H hp) (hsub : ∀ id o, H1 id = some o → o.live = true → H id = some o) : Rl P ro g H1 hp :=
 ⟨fun id o ho hl => hR.obj id o (hsub id o ho hl) hl, fun id id' o o' G G' ho hl ho' hl' => hR.inj id id' o o' G G' (hsub _ _ ho hl) hl (hsub _ _ ho' hl') hl', hR.glob⟩
end
inductive Anc (ops : List Oper) : Nat → Nat → Prop
 | one {i j : Nat} {o : Oper} (ho : ops[i]? = some o) (hj : j ∈ preds o) : Anc ops i j
 | more {i k j : Nat} {o : Oper} (ho : ops[i]? = some o) (hk : k ∈ preds o) (h : Anc ops k j) : Anc ops i j
theorem mem_dedup : ∀ {l : List Nat} {x : Nat}, x ∈ dedup l → x ∈ l := by
 intro l
 induction l with
 | nil => intro x h; exact h
 | cons y l ih =>
   intro x h
   simp only [dedup] at h
   split at h
   ·exact List.mem_cons_of_mem _ (ih h)
   ·rcases List.mem_cons.1 h with rfl | h
    ·simp
    ·exact List.mem_cons_of_mem _ (ih h)
theorem ancsL_sound {ops : List Oper} : ∀ (l : List Oper) (acc : List (List Nat)), ops.drop acc.length = l → acc.length ≤ ops.length → (∀ i j, j ∈ (acc[i]?).getD [] → Anc ops i j) → ∀ i j, j ∈ ((ancsL l acc)[i]?).getD [] → Anc ops i j := by
 intro l
 induction l with
 | nil => intro acc _ _ h; exact h
 | cons o l ih =>
   intro acc hd hle h
   have ho : ops[acc.length]? = some o := by
    have := List.getElem?_drop (xs := ops) (i := acc.length) (j := 0)
    rw [hd] at this
    simpa using this.symm
   have hlt : acc.length < ops.length := (List.getElem?_eq_some_iff.1 ho).1
   refine ih _ ?_ ?_ ?_
   ·simp only [List.length_append, List.length_cons, List.length_nil]
    rw [← List.drop_drop, hd]
    rfl
   ·simp; omega
   ·intro i j hj
    by_cases hi : i < acc.length
    ·rw [List.getElem?_append_left hi] at hj; exact h i j hj
    ·rw [List.getElem?_append_right (by omega)] at hj
     by_cases e : i = acc.length
     ·subst e
      simp only [Nat.sub_self, List.getElem?_cons_zero, Option.getD_some] at hj
      have hj := mem_dedup hj
      rw [List.mem_flatMap] at hj
      obtain ⟨k, hk, hj⟩ := hj
      rcases List.mem_cons.1 hj with rfl | hj
      ·exact .one ho hk
      ·exact .more ho hk (h k j hj)
     ·have : i - acc.length ≠ 0 := by omega
      obtain ⟨m, hm⟩ := Nat.exists_eq_succ_of_ne_zero this
      rw [hm] at hj
      simp at hj
theorem ancs_sound {ops : List Oper} {i j : Nat} (h : j ∈ ((ancs ops)[i]?).getD []) : Anc ops i j :=
 ancsL_sound ops [] (by simp) (by simp) (fun i j h => by simp at h) i j h
theorem Anc.closed {ops : List Oper} {D : Nat → Prop} (hD : ∀ i o j, D i → ops[i]? = some o → j ∈ preds o → D j) {i j : Nat} (h : Anc ops i j) : D i → D j := by
 induction h with
 | one ho hj => exact fun hi => hD _ _ _ hi ho hj
 | more ho hk _ ih => exact fun hi => ih (hD _ _ _ hi ho hk)
theorem Anc.ready {ops : List Oper} {D : Nat → Prop} (hD : ∀ i o j, D i → ops[i]? = some o → j ∈ preds o → D j) {i j : Nat} {o : Oper} (ho : ops[i]? = some o) (hr : ∀ j ∈ preds o, D j) (h : Anc ops i j) : D j := by
 cases h with
 | one ho' hj => rw [ho] at ho'; cases ho'; exact hr _ hj
 | more ho' hk h => rw [ho] at ho'; cases ho'; exact h.closed hD (hr _ hk)
def ancOf (ops : List Oper) (i : Nat) : List Nat := ((ancs ops)[i]?).getD []
structure Facts (ops : List Oper) (L : List DOper) : Prop where
 has : ∀ {k : Nat} {d : DOper}, L[k]? = some d → ∃ o, ops[d.ix]? = some o
 topo : ∀ {k : Nat} {d : DOper} {o : Oper} {j : Nat}, L[k]? = some d → ops[d.ix]? = some o → j ∈ preds o → ∃ i s, i < k ∧ L[i]? = some s ∧ s.ix = j
 inj : ∀ {i k : Nat} {s d : DOper}, i < k → L[i]? = some s → L[k]? = some d → s.ix ≠ d.ix
 chain : ∀ {i k : Nat} {s d : DOper}, i < k → L[i]? = some s → L[k]? = some d → d.writes = true → Anc ops d.ix s.ix
 dst : ∀ {i k : Nat} {s d : DOper} {t : Tmp}, i < k → L[i]? = some s → L[k]? = some d → d.o.dst = some t → s.o.dst ≠ some t
 clash : ∀ {i k : Nat} {s d : DOper}, i < k → L[i]? = some s → L[k]? = some d → Anc ops d.ix s.ix ∨ (clash ops s.o.dst d = false ∧ clash ops d.o.dst s = false)
 back : ∀ {k : Nat} {d : DOper}, L[k]? = some d → d.o.op.isLook = true → (L.take k).countP (fun s => s.writes && !(ancOf ops d.ix).contains s.ix) ≤ d.back
theorem okL_at {ops : List Oper} {anc : List (List Nat)} : ∀ (L seen : List DOper), okL ops anc seen L = true → ∀ k d, L[k]? = some d → okD ops ((anc[d.ix]?).getD []) ((L.take k).reverse ++ seen) d = true := by
 intro L
 induction L with
 | nil => intro seen _ k d h; simp at h
 | cons x L ih =>
   intro seen h k d hk
   simp only [okL, Bool.and_eq_true] at h
   cases k with
   | zero => simp at hk; subst hk; simpa using h.1
   | succ k =>
     have := ih (x :: seen) h.2 k d (by simpa using hk)
     simpa using this
theorem mem_take {α : Type} {L : List α} {k : Nat} {s : α} (h : s ∈ (L.take k).reverse) : ∃ i, i < k ∧ L[i]? = some s := by
 rw [List.mem_reverse] at h
 obtain ⟨i, hi⟩ := List.mem_iff_getElem?.1 h
 rw [List.getElem?_take] at hi
 split at hi
 ·rename_i hlt; exact ⟨i, hlt, hi⟩
 ·cases hi
theorem take_mem {α : Type} {L : List α} {i k : Nat} {s : α} (h : i < k) (hs : L[i]? = some s) : s ∈ (L.take k).reverse := by
 rw [List.mem_reverse]
 exact List.mem_iff_getElem?.2 ⟨i, by rw [List.getElem?_take, if_pos h]; exact hs⟩
theorem facts_of {ops : List Oper} {L : List DOper} (h : okL ops (ancs ops) [] L = true) : Facts ops L := by
 have hat : ∀ {k d}, L[k]? = some d → _ := fun {k d} hk => okL_at L [] h k d hk
 simp only [List.append_nil, okD, Bool.and_eq_true, List.all_eq_true] at hat
 refine ⟨fun {k d} hk => ?_, fun {k d o j} hk ho hj => ?_, fun {i k s d} hi hs hk => ?_, fun {i k s d} hi hs hk hw => ?_, fun {i k s d t} hi hs hk ht => ?_, fun {i k s d} hi hs hk => ?_, fun {k d} hk hl => ?_⟩
 ·have := (hat hk).1.1
  split at this
  ·rename_i o ho; exact ⟨o, ho⟩
  ·cases this
 ·have := (hat hk).1.1
  rw [ho] at this
  simp only [List.all_eq_true, List.any_eq_true, beq_iff_eq] at this
  obtain ⟨s, hs, e⟩ := this j hj
  obtain ⟨i, hi, hs⟩ := mem_take hs
  exact ⟨i, s, hi, hs, e⟩
 ·have := ((hat hk).1.2 s (take_mem hi hs)).1.1.1
  simpa using this
 ·have := ((hat hk).1.2 s (take_mem hi hs)).1.1.2
  rw [hw] at this
  simp only [Bool.not_true, Bool.false_or, List.contains_iff_mem] at this
  exact ancs_sound this
 ·have := ((hat hk).1.2 s (take_mem hi hs)).1.2
  rw [ht] at this
  simpa using this
 ·have := ((hat hk).1.2 s (take_mem hi hs)).2
  rw [Bool.or_eq_true] at this
  rcases this with h1 | h1
  ·exact .inl (ancs_sound (List.contains_iff_mem.1 h1))
  ·simp only [Bool.not_eq_true', Bool.or_eq_false_iff] at h1
   exact .inr h1
 ·have := (hat hk).2
  rw [hl] at this
  simpa [List.countP_reverse, ancOf] using this
end Go.AM
set_option linter.unusedVariables false
set_option linter.unusedSimpArgs false
set_option linter.unnecessarySimpa false
namespace Go.AM
structure Trace (K : Ctx) (L : List DOper) (S : Nat → St) (E : Nat → Env) (V : Nat → Value) (W : Nat → Bool) (SN : Nat → List St) (BA : Nat → Nat) : Prop where
 want : ∀ {k : Nat} {d : DOper}, L[k]? = some d → wants (E k) d.o.guard = .ok (W k)
 env : ∀ {k : Nat} {d : DOper}, L[k]? = some d → E (k + 1) = (E k).put d.o.dst (V k)
 skip : ∀ {k : Nat} {d : DOper}, L[k]? = some d → W k = false → V k = skipped ∧ S (k + 1) = S k ∧ SN (k + 1) = SN k ∧ BA (k + 1) = BA k
 run : ∀ {k : Nat} {d : DOper}, L[k]? = some d → W k = true → AOper.run K (S k) (E k).ev d.o.op = .ok (V k, S (k + 1))
 wr : ∀ {k : Nat} {d : DOper}, L[k]? = some d → W k = true → d.writes = true → SN (k + 1) = S k :: SN k ∧ BA (k + 1) = (S (k + 1)).next
 rd : ∀ {k : Nat} {d : DOper}, L[k]? = some d → W k = true → d.writes = false → SN (k + 1) = SN k ∧ BA (k + 1) = BA k ∧ (d.back = 0 ∨ stays ((SN k).take d.back) (BA k) (E k).ev d.o.op (V k) = true)
def sh {α : Type} (x : α) (f : Nat → α) : Nat → α
 | 0 => x
 | k + 1 => f k
theorem drawC_trace {K : Ctx} : ∀ (L : List DOper) (sn : List St) (base : Nat) (e e' : Env) (st st' : St), drawC K L sn base e st = .ok (e', st') →
 ∃ S E V W SN BA, Trace K L S E V W SN BA ∧ S 0 = st ∧ E 0 = e ∧ SN 0 = sn ∧ BA 0 = base ∧ S L.length = st' ∧ E L.length = e' := by
 intro L
 induction L with
 | nil =>
   intro sn base e e' st st' h
   simp [drawC] at h
   obtain ⟨rfl, rfl⟩ := h
   exact ⟨fun _ => st, fun _ => e, fun _ => nothing, fun _ => true, fun _ => sn, fun _ => base, ⟨fun h => by simp at h, fun h => by simp at h, fun h => by simp at h, fun h => by simp at h, fun h => by simp at h, fun h => by simp at h⟩, rfl, rfl, rfl, rfl, rfl, rfl⟩
 | cons d L ih =>
   intro sn base e e' st st' h
   simp only [drawC, Res.bind_eq_ok] at h
   obtain ⟨b, hb, h⟩ := h
   have build : ∀ (v : Value) (st1 : St) (sn1 : List St) (base1 : Nat), drawC K L sn1 base1 (e.put d.o.dst v) st1 = .ok (e', st') →
    (b = false → v = skipped ∧ st1 = st ∧ sn1 = sn ∧ base1 = base) → (b = true → AOper.run K st e.ev d.o.op = .ok (v, st1)) →
    (b = true → d.writes = true → sn1 = st :: sn ∧ base1 = st1.next) → (b = true → d.writes = false → sn1 = sn ∧ base1 = base ∧ (d.back = 0 ∨ stays (sn.take d.back) base e.ev d.o.op v = true)) →
    ∃ S E V W SN BA, Trace K (d :: L) S E V W SN BA ∧ S 0 = st ∧ E 0 = e ∧ SN 0 = sn ∧ BA 0 = base ∧ S (d :: L).length = st' ∧ E (d :: L).length = e' := by
    intro v st1 sn1 base1 h1 k1 k2 k3 k4
    obtain ⟨S, E, V, W, SN, BA, T, a1, a2, a3, a4, a5, a6⟩ := ih _ _ _ _ _ _ h1
    refine ⟨sh st S, sh e E, sh v V, sh b W, sh sn SN, sh base BA, ⟨?_, ?_, ?_, ?_, ?_, ?_⟩, rfl, rfl, rfl, rfl, a5, a6⟩
    ·intro k x hx
     cases k with
     | zero => simp at hx; subst hx; exact hb
     | succ k => exact T.want (by simpa using hx)
    ·intro k x hx
     cases k with
     | zero => simp at hx; subst hx; exact a2
     | succ k => exact T.env (by simpa using hx)
    ·intro k x hx hw
     cases k with
     | zero =>
       obtain ⟨r1, r2, r3, r4⟩ := k1 hw
       exact ⟨r1, a1.trans r2, a3.trans r3, a4.trans r4⟩
     | succ k => exact T.skip (by simpa using hx) hw
    ·intro k x hx hw
     cases k with
     | zero => simp at hx; subst hx; show _ = Res.ok (v, S 0); rw [a1]; exact k2 hw
     | succ k => exact T.run (by simpa using hx) hw
    ·intro k x hx hw hwr
     cases k with
     | zero => simp at hx; subst hx; obtain ⟨r1, r2⟩ := k3 hw hwr; exact ⟨a3.trans r1, by show BA 0 = (S 0).next; rw [a4, a1, r2]⟩
     | succ k => exact T.wr (by simpa using hx) hw hwr
    ·intro k x hx hw hwr
     cases k with
     | zero => simp at hx; subst hx; obtain ⟨r1, r2, r3⟩ := k4 hw hwr; exact ⟨a3.trans r1, a4.trans r2, r3⟩
     | succ k => exact T.rd (by simpa using hx) hw hwr
   cases b with
   | false =>
     simp only [Bool.false_eq_true, if_false] at h
     exact build skipped st sn base h (fun _ => ⟨rfl, rfl, rfl, rfl⟩) (fun h => by cases h) (fun h => by cases h) (fun h => by cases h)
   | true =>
     simp only [if_true, Res.bind_eq_ok] at h
     obtain ⟨⟨v, st1⟩, h1, h⟩ := h
     simp only at h
     split at h
     ·rename_i hw
      exact build v st1 (st :: sn) st1.next h (fun h => by cases h) (fun _ => h1) (fun _ _ => ⟨rfl, rfl⟩) (fun _ hf => by rw [hw] at hf; cases hf)
     ·rename_i hw
      simp only [Res.bind_eq_ok, Res.need_eq_ok, Bool.or_eq_true, decide_eq_true_eq] at h
      obtain ⟨_, hst, h⟩ := h
      exact build v st1 sn base h (fun h => by cases h) (fun _ => h1) (fun _ ht => absurd ht hw) (fun _ _ => ⟨rfl, rfl, hst⟩)
section
variable {P : Program} {ops : Array Oper} {n : Nat}
theorem compDraw_at {d : DOper} {o : Oper} (hd : d ∈ compDraw P ops n) (ho : ops.toList[d.ix]? = some o) : d.o = compOper P ops n o ∧ d.writes = !(d.o.op.isPure || d.o.op.isLook || d.o.op.isAlloc) := by
 unfold compDraw at hd
 simp only [List.mem_map] at hd
 obtain ⟨i, _, rfl⟩ := hd
 simp only at ho
 simp [List.getElem?_map, ho]
theorem compOper_at {K : Ctx} {st : St} {e : Env} {o : Oper} {b : Bool} {v : Value} {st' : St} (hw : wants e (compOper P ops n o).guard = .ok b) (hr : b = true → AOper.run K st e.ev (compOper P ops n o).op = .ok (v, st')) :
 ∃ gd, compGuard ops o.guard = some gd ∧ dstOk n o.dst = true ∧ o.op.operands.toList.all (opdOk P) = true ∧ compOper P ops n o = ⟨o.dst, gd, compOp P o⟩ := by
 unfold compOper at hw hr ⊢
 split at hw
 ·rename_i gd hg
  split at hw
  ·rename_i hc
   rw [Bool.and_eq_true] at hc
   simp only [hg, hc.1, hc.2, Bool.and_self, if_true]
   exact ⟨gd, rfl, trivial, trivial, rfl⟩
  ·rename_i hc
   simp only [wants] at hw
   cases hw
   simp only [hg, hc, if_false, Bool.false_eq_true] at hr
   exact (bad_oper (hr trivial)).elim
 ·rename_i hg
  simp only [wants] at hw
  cases hw
  simp only [hg] at hr
  exact (bad_oper (hr trivial)).elim
theorem compOp_look {o : Oper} {a : AOp} (h : compOp P o = a) (hl : a.isLook = true) : ∃ x, a.lookAt = some x ∧ x ∈ o.op.operands.toList := by
 have hb : AOp.bad.isLook = false := rfl
 have hE : ∀ {neg op t x y}, (compEq P neg op t x y).isLook = false := by
  intro neg op t x y
  unfold compEq
  (repeat' split) <;> rfl
 subst h
 unfold compOp at hl ⊢
 split at hl
 all_goals first
  | (cases hl; done)
  | skip
 all_goals rename_i ho
 all_goals first
  | (unfold compBin at hl; (repeat' split at hl) <;> first | (cases hl; done) | (rw [hE] at hl; cases hl; done))
  | (unfold compConv at hl ⊢; (repeat' split at hl) <;> first | (cases hl; done) | (exact ⟨_, rfl, by simp [Op.operands, ho]⟩); done)
  | skip
 all_goals first
  | ((repeat' split at hl) <;> first | (cases hl; done))
  | skip
 all_goals revert hl
 case h_30 =>
  rename_i c
  split
  ·rename_i b hc
   intro hl
   have hlen : ∀ x, x ∈ c.args.toList → x ∈ o.op.operands.toList := fun x hx => by
    simp [Op.operands, ho, Call.operands, hc]; simpa using hx
   generalize c.args.toList = args at hl hlen ⊢
   generalize c.argTypes.toList = ts at hl ⊢
   revert hl
   unfold compBuiltin
   (repeat' split) <;> intro hl <;> first
     | (cases hl; done)
     | exact ⟨_, rfl, hlen _ (by simp)⟩
  ·intro hl; cases hl
  ·intro hl; cases hl
 all_goals ((repeat' split) <;> intro hl <;> first
  | (cases hl; done)
  | exact ⟨_, rfl, by simp [Op.operands, ho]⟩)
theorem idOf_rel {g : Ghost} {v v' : Value} {id : Nat} (h : Rel g v v') (hi : idOf v = some id) : ∃ G, g id = some G := by
 cases h with
 | ptr h => simp [idOf] at hi; subst hi; exact ⟨_, h⟩
 | slice h => simp [idOf] at hi; subst hi; exact ⟨_, h⟩
 | emptySlice h => simp [idOf] at hi; subst hi; exact ⟨_, h⟩
 | map h => simp [idOf] at hi; subst hi; exact ⟨_, h⟩
 | flat h =>
   unfold idOf at hi
   split at hi <;> simp_all [flat]
 | _ => simp [idOf, AM.nothing, AM.skipped] at hi
end
end Go.AM
set_option linter.unusedVariables false
set_option linter.unusedSimpArgs false
set_option linter.unnecessarySimpa false
namespace Go.AM
structure Seq (P : Program) (K : Ctx) (ops : Array Oper) (n : Nat) (L : List DOper) (S : Nat → St) (E : Nat → Env) (V : Nat → Value) (W : Nat → Bool) (SN : Nat → List St) (BA : Nat → Nat) : Prop where
 goes : Goes P K
 tr : Trace K L S E V W SN BA
 facts : Facts ops.toList L
 comp : ∀ {d : DOper} {o : Oper}, d ∈ L → ops.toList[d.ix]? = some o → d.o = compOper P ops n o ∧ d.writes = !(d.o.op.isPure || d.o.op.isLook || d.o.op.isAlloc)
 top : ∀ id o, (S 0).get id = some o → o.live = true → id < (S 0).next
 ro : (S 0).ro ≤ (S 0).next
section
variable {P : Program} {K : Ctx} {ops : Array Oper} {n : Nat} {L : List DOper} {S : Nat → St} {E : Nat → Env} {V : Nat → Value} {W : Nat → Bool} {SN : Nat → List St} {BA : Nat → Nat}
def eff (L : List DOper) (W : Nat → Bool) (k : Nat) : Prop := ∃ d, L[k]? = some d ∧ W k = true ∧ d.writes = true
def alc (L : List DOper) (W : Nat → Bool) (k : Nat) : Prop := ∃ d, L[k]? = some d ∧ W k = true ∧ d.o.op.isAlloc = true
theorem at_of_lt {k : Nat} (h : k < L.length) : ∃ d, L[k]? = some d := ⟨L[k], by simp [h]⟩
theorem lt_of_at {k : Nat} {d : DOper} (h : L[k]? = some d) : k < L.length := (List.getElem?_eq_some_iff.1 h).1
variable (T : Seq P K ops n L S E V W SN BA)
include T
theorem Seq.le1 {k : Nat} (hk : k < L.length) : StLe (S k) (S (k + 1)) := by
 obtain ⟨d, hd⟩ := at_of_lt hk
 cases hw : W k with
 | false => rw [(T.tr.skip hd hw).2.1]; exact .refl _
 | true => exact oper_le T.goes.le (T.tr.run hd hw)
theorem Seq.le {j k : Nat} (hjk : j ≤ k) (hk : k ≤ L.length) : StLe (S j) (S k) := by
 induction k with
 | zero => have : j = 0 := by omega
           subst this; exact .refl _
 | succ k ih =>
   by_cases e : j = k + 1
   ·subst e; exact .refl _
   ·exact (ih (by omega) (by omega)).trans (T.le1 (by omega))
theorem Seq.isTop {k : Nat} (hk : k ≤ L.length) {id : Nat} {o : AObj} (h : (S k).get id = some o) (hl : o.live = true) : id < (S k).next := by
 have hle := T.le (Nat.zero_le k) hk
 rcases hle.alive id o h hl with ⟨o0, h0, hl0⟩ | h
 ·exact Nat.lt_of_lt_of_le (T.top id o0 h0 hl0) hle.next
 ·exact h.2
theorem Seq.kind {k : Nat} {d : DOper} (hd : L[k]? = some d) (hw : d.writes = false) : d.o.op.isPure = true ∨ d.o.op.isLook = true ∨ d.o.op.isAlloc = true := by
 obtain ⟨o, ho⟩ := T.facts.has hd
 have := (T.comp (List.mem_of_getElem? hd) ho).2
 rw [hw] at this
 have this : (d.o.op.isPure || d.o.op.isLook || d.o.op.isAlloc) = true := by
  cases hx : (d.o.op.isPure || d.o.op.isLook || d.o.op.isAlloc) with
  | true => rfl
  | false => rw [hx] at this; cases this
 simpa [or_assoc] using this
omit T in
theorem notCall {a : AOp} (h : a.isPure = true ∨ a.isLook = true ∨ a.isAlloc = true) : ∀ f args, a ≠ .call f args := by
 intro f args e; subst e; simp [AOp.isPure, AOp.isLook, AOp.isAlloc] at h
theorem Seq.run {k : Nat} {d : DOper} (hd : L[k]? = some d) (hW : W k = true) (hw : d.writes = false) : d.o.op.run (S k) (E k).ev = .ok (V k, S (k + 1)) := by
 have := T.tr.run hd hW
 rwa [notCall_run (notCall (T.kind hd hw))] at this
theorem Seq.same {k : Nat} (hk : k < L.length) (he : ¬ eff L W k) (ha : ¬ alc L W k) : S (k + 1) = S k := by
 obtain ⟨d, hd⟩ := at_of_lt hk
 cases hW : W k with
 | false => exact (T.tr.skip hd hW).2.1
 | true =>
   have hw : d.writes = false := by cases hx : d.writes with | false => rfl | true => exact absurd ⟨d, hd, hW, hx⟩ he
   rcases T.kind hd hw with h | h | h
   ·exact (pure_run h (T.run hd hW hw)).1
   ·exact (look_run h (T.run hd hW hw)).1
   ·exact absurd ⟨d, hd, hW, h⟩ ha
theorem Seq.alcWrites {k : Nat} {d : DOper} (hd : L[k]? = some d) (ha : d.o.op.isAlloc = true) : d.writes = false := by
 obtain ⟨o, ho⟩ := T.facts.has hd
 rw [(T.comp (List.mem_of_getElem? hd) ho).2, ha]
 simp
theorem Seq.new {k : Nat} {d : DOper} (hd : L[k]? = some d) (hW : W k = true) (ha : d.o.op.isAlloc = true) :
 ∃ ob, S (k + 1) = (S k).alloc ob ∧ ob.live = true ∧ ∀ st2 : St, st2.next = (S k).next → d.o.op.run st2 (E k).ev = .ok (V k, st2.alloc ob) :=
 alloc_run ha (T.run hd hW (T.alcWrites hd ha))
theorem Seq.newer {j k : Nat} (hj : alc L W j) (hjk : j < k) (hk : k ≤ L.length) : (S j).next < (S k).next := by
 obtain ⟨d, hd, hW, ha⟩ := hj
 obtain ⟨ob, h1, _⟩ := T.new hd hW ha
 have := (T.le (j := j + 1) (k := k) (by omega) hk).next
 rw [h1] at this
 exact this
theorem Seq.alcInj {j k : Nat} (hj : alc L W j) (hk : alc L W k) (e : (S j).next = (S k).next) : j = k := by
 have h1 := lt_of_at hj.choose_spec.1
 have h2 := lt_of_at hk.choose_spec.1
 rcases Nat.lt_trichotomy j k with h | h | h
 ·have := T.newer hj h (Nat.le_of_lt h2); omega
 ·exact h
 ·have := T.newer hk h (Nat.le_of_lt h1); omega
theorem Seq.notBoth {k : Nat} (ha : alc L W k) (he : eff L W k) : False := by
 obtain ⟨d, hd, _, h⟩ := ha
 obtain ⟨d', hd', _, h'⟩ := he
 rw [hd] at hd'; cases hd'
 rw [T.alcWrites hd h] at h'; cases h'
theorem Seq.seg {p k : Nat} (hpk : p ≤ k) (hk : k ≤ L.length) (hn : ∀ j, p ≤ j → j < k → ¬ eff L W j) : ∀ id o, o.live = true →
 ((S k).get id = some o ↔ (S p).get id = some o ∨ ∃ j, p ≤ j ∧ j < k ∧ alc L W j ∧ id = (S j).next ∧ (S (j + 1)).get id = some o) := by
 induction k with
 | zero =>
   intro id o hl
   have : p = 0 := by omega
   subst this
   exact ⟨fun h => .inl h, fun h => h.elim (fun x => x) (fun ⟨j, _, h, _⟩ => by omega)⟩
 | succ k ih =>
   intro id o hl
   by_cases e : p = k + 1
   ·subst e
    exact ⟨fun h => .inl h, fun h => h.elim (fun x => x) (fun ⟨j, h1, h2, _⟩ => by omega)⟩
   ·have ih := ih (by omega) (by omega) (fun j h1 h2 => hn j h1 (by omega)) id o hl
    by_cases ha : alc L W k
    ·have ha' := ha
     obtain ⟨d, hd, hW, hal⟩ := ha'
     obtain ⟨ob, h1, _, _⟩ := T.new hd hW hal
     have hget : ∀ i, (S (k + 1)).get i = if i = (S k).next then some ob else (S k).get i := by
      intro i; rw [h1, St.get_alloc]; rfl
     constructor
     ·intro h
      by_cases ei : id = (S k).next
      ·exact .inr ⟨k, by omega, by omega, ha, ei, h⟩
      ·rw [hget, if_neg ei] at h
       rcases ih.1 h with h | ⟨j, q1, q2, q3⟩
       ·exact .inl h
       ·exact .inr ⟨j, q1, by omega, q3⟩
     ·intro h
      have old : (S k).get id = some o → (S (k + 1)).get id = some o := by
       intro h
       have := T.isTop (k := k) (by omega) h hl
       rw [hget, if_neg (by omega)]; exact h
      rcases h with h | ⟨j, q1, q2, q3, q4, q5⟩
      ·exact old (ih.2 (.inl h))
      ·by_cases ej : j = k
       ·subst ej; exact q5
       ·exact old (ih.2 (.inr ⟨j, q1, by omega, q3, q4, q5⟩))
    ·rw [T.same (by omega) (hn k (by omega) (by omega)) ha, ih]
     constructor
     ·rintro (h | ⟨j, q1, q2, q3⟩)
      ·exact .inl h
      ·exact .inr ⟨j, q1, by omega, q3⟩
     ·rintro (h | ⟨j, q1, q2, q3, q4⟩)
      ·exact .inl h
      ·by_cases ej : j = k
       ·subst ej; exact absurd q3 ha
       ·exact .inr ⟨j, q1, by omega, q3, q4⟩
theorem Seq.envAt {k : Nat} (hk : k ≤ L.length) (t : Tmp) : (∃ j d, j < k ∧ L[j]? = some d ∧ d.o.dst = some t ∧ (E k).at t = V j) ∨ ((∀ j d, j < k → L[j]? = some d → d.o.dst ≠ some t) ∧ (E k).at t = (E 0).at t) := by
 induction k with
 | zero => exact .inr ⟨fun j d h => by omega, rfl⟩
 | succ k ih =>
   obtain ⟨d, hd⟩ := at_of_lt (L := L) (k := k) (by omega)
   rw [T.tr.env hd]
   by_cases e : d.o.dst = some t
   ·exact .inl ⟨k, d, by omega, hd, e, by simp [Env.put, e]⟩
   ·have h2 : ((E k).put d.o.dst (V k)).at t = (E k).at t := by
     cases hx : d.o.dst with
     | none => rfl
     | some u =>
       simp only [Env.put]
       rw [Env.at_set_ne _ _ (fun e2 => e (by rw [hx, e2]))]
    rw [h2]
    rcases ih (by omega) with ⟨j, d', h1, h3⟩ | ⟨h1, h3⟩
    ·exact .inl ⟨j, d', by omega, h3⟩
    ·refine .inr ⟨fun j d' hj hd' => ?_, h3⟩
     by_cases ej : j = k
     ·subst ej; rw [hd] at hd'; cases hd'; exact e
     ·exact h1 j d' (by omega) hd'
theorem Seq.snap {q k : Nat} (hqk : q < k) (hk : k ≤ L.length) (hq : eff L W q) (pred : DOper → Bool) (hp : ∀ j d, q ≤ j → j < k → L[j]? = some d → eff L W j → pred d = true) :
 S q ∈ (SN k).take ((L.take k).countP pred) := by
 induction k with
 | zero => omega
 | succ k ih =>
   obtain ⟨d, hd⟩ := at_of_lt (L := L) (k := k) (by omega)
   have htake : (L.take (k + 1)).countP pred = (L.take k).countP pred + if pred d then 1 else 0 := by
    rw [List.take_add_one, hd]; simp [List.countP_append]
   by_cases he : eff L W k
   ·have hpd := hp k d (by omega) (by omega) hd he
    obtain ⟨d', hd', hW, hw⟩ := he
    rw [hd] at hd'; cases hd'
    rw [(T.tr.wr hd hW hw).1, htake, hpd]
    simp only [if_true, List.take_succ_cons]
    by_cases e : q = k
    ·subst e; simp
    ·exact List.mem_cons_of_mem _ (ih (by omega) (by omega) (fun j d' h1 h2 => hp j d' h1 (by omega)))
   ·have hne : q ≠ k := fun e => he (e ▸ hq)
    have hSN : SN (k + 1) = SN k := by
     cases hW : W k with
     | false => exact (T.tr.skip hd hW).2.2.1
     | true =>
       have hw : d.writes = false := by cases hx : d.writes with | false => rfl | true => exact absurd ⟨d, hd, hW, hx⟩ he
       exact (T.tr.rd hd hW hw).1
    have := ih (by omega) (by omega) (fun j d' h1 h2 => hp j d' h1 (by omega))
    rw [hSN, htake]
    exact (List.take_sublist_take_left (by omega)).mem this
theorem Seq.base {k : Nat} (hk : k ≤ L.length) : (∃ b, b < k ∧ eff L W b ∧ (∀ j, b < j → j < k → ¬ eff L W j) ∧ BA k = (S (b + 1)).next) ∨ (∀ j, j < k → ¬ eff L W j) := by
 induction k with
 | zero => exact .inr fun j h => by omega
 | succ k ih =>
   obtain ⟨d, hd⟩ := at_of_lt (L := L) (k := k) (by omega)
   by_cases he : eff L W k
   ·have he' := he
    obtain ⟨d', hd', hW, hw⟩ := he'
    rw [hd] at hd'; cases hd'
    exact .inl ⟨k, by omega, he, fun j h1 h2 => by omega, (T.tr.wr hd hW hw).2⟩
   ·have hBA : BA (k + 1) = BA k := by
     cases hW : W k with
     | false => exact (T.tr.skip hd hW).2.2.2
     | true =>
       have hw : d.writes = false := by cases hx : d.writes with | false => rfl | true => exact absurd ⟨d, hd, hW, hx⟩ he
       exact (T.tr.rd hd hW hw).2.1
    rcases ih (by omega) with ⟨b, h1, h2, h3, h4⟩ | h
    ·refine .inl ⟨b, by omega, h2, fun j q1 q2 => ?_, hBA.trans h4⟩
     by_cases e : j = k
     ·subst e; exact he
     ·exact h3 j q1 (by omega)
    ·refine .inr fun j q => ?_
     by_cases e : j = k
     ·subst e; exact he
     ·exact h j (by omega)
end
end Go.AM
set_option linter.unusedVariables false
set_option linter.unusedSimpArgs false
set_option linter.unnecessarySimpa false
namespace Go.AM
structure J (P : Program) (ops : Array Oper) (n hi : Nat) (L : List DOper) (S : Nat → St) (E : Nat → Env) (V : Nat → Value) (W : Nat → Bool) (g0 : Ghost) (w0 : World) (df : List Deferred)
 (p : Nat) (D : Nat → Prop) (HD : AHeap) (g : Ghost) (a : Act) (w : World) : Prop where
 pN : p ≤ L.length
 done : ∀ {k : Nat} {d : DOper}, k < p → L[k]? = some d → D d.ix
 late : ∀ {k : Nat} {d : DOper}, p ≤ k → L[k]? = some d → D d.ix → ¬ eff L W k
 closed : ∀ i o j, D i → ops.toList[i]? = some o → j ∈ preds o → D j
 heap : ∀ id o, o.live = true → (HD id = some o ↔ (S p).get id = some o ∨ ∃ (k : Nat) (d : DOper), p ≤ k ∧ L[k]? = some d ∧ D d.ix ∧ alc L W k ∧ id = (S k).next ∧ (S (k + 1)).get id = some o)
 fresh : ∀ id, (S p).next ≤ id → id < hi → g id ≠ none → ∃ (k : Nat) (d : DOper), p ≤ k ∧ L[k]? = some d ∧ D d.ix ∧ alc L W k ∧ id = (S k).next
 val : ∀ {k : Nat} {d : DOper} {t : Tmp}, L[k]? = some d → D d.ix → d.o.dst = some t → Rel g (V k) (a.tmps.getD t undef)
 old : ∀ t, (∀ (k : Nat) (d : DOper), L[k]? = some d → d.o.dst = some t → ¬ D d.ix) → Rel g ((E 0).at t) (a.tmps.getD t undef)
 size : a.tmps.size = n
 defers : a.defers = df
 step : Step P (S 0).ro g0 (S 0).get w0 g HD w (S 0).next (S L.length).next
section
variable {P : Program} {K : Ctx} {ops : Array Oper} {n hi : Nat} {L : List DOper} {S : Nat → St} {E : Nat → Env} {V : Nat → Value} {W : Nat → Bool} {SN : Nat → List St} {BA : Nat → Nat}
 {g0 : Ghost} {w0 : World} {df : List Deferred} {p : Nat} {D : Nat → Prop} {HD : AHeap} {g : Ghost} {a : Act} {w : World}
theorem J.after (T : Seq P K ops n L S E V W SN BA) (h : J P ops n hi L S E V W g0 w0 df p D HD g a w) {k : Nat} {d : DOper} (hd : L[k]? = some d) (hu : ¬ D d.ix) : p ≤ k := by
 rcases Nat.lt_or_ge k p with h1 | h1
 ·exact absurd (h.done h1 hd) hu
 ·exact h1
theorem J.reads (T : Seq P K ops n L S E V W SN BA) (h : J P ops n hi L S E V W g0 w0 df p D HD g a w) {k : Nat} {d : DOper} (hd : L[k]? = some d) (hu : ¬ D d.ix)
 {o : Oper} (ho : ops.toList[d.ix]? = some o) (hr : ∀ j ∈ preds o, D j) {t : Tmp} (ht : t ∈ readsOf ops.toList d) : Rel g ((E k).at t) (a.tmps.getD t undef) := by
 have hcl : ∀ {x : Option Tmp}, x = some t → clash ops.toList x d = true := fun {x} e => by subst e; simp [clash, ht]
 rcases T.envAt (Nat.le_of_lt (lt_of_at hd)) t with ⟨j, s, h1, h2, h3, h4⟩ | ⟨h1, h2⟩
 ·rw [h4]
  rcases T.facts.clash h1 h2 hd with h5 | ⟨h5, _⟩
  ·exact h.val h2 (h5.ready h.closed ho hr) h3
  ·rw [hcl h3] at h5; cases h5
 ·rw [h2]
  refine h.old t fun k' d' hd' hdst => ?_
  rcases Nat.lt_trichotomy k' k with hlt | heq | hgt
  ·exact absurd hdst (h1 k' d' hlt hd')
  ·subst heq; rw [hd] at hd'; cases hd'; exact hu
  ·rcases T.facts.clash hgt hd hd' with h5 | ⟨_, h5⟩
   ·exact fun hD => hu (h5.closed h.closed hD)
   ·rw [hcl hdst] at h5; cases h5
theorem J.envs (T : Seq P K ops n L S E V W SN BA) (h : J P ops n hi L S E V W g0 w0 df p D HD g a w) {k : Nat} {d : DOper} (hd : L[k]? = some d) (hu : ¬ D d.ix) {o : Oper} {g' : Ghost} {v' : Value}
 (hdo : d.o.dst = o.dst) (hdst : dstOk n o.dst = true) (hle : g.le g') (hv : Rel g' (V k) v') :
 (∀ {k' : Nat} {d' : DOper} {t : Tmp}, L[k']? = some d' → (D d'.ix ∨ d'.ix = d.ix) → d'.o.dst = some t → Rel g' (V k') ((a.put o.dst v').tmps.getD t undef)) ∧
 (∀ t, (∀ (k' : Nat) (d' : DOper), L[k']? = some d' → d'.o.dst = some t → ¬ (D d'.ix ∨ d'.ix = d.ix)) → Rel g' ((E 0).at t) ((a.put o.dst v').tmps.getD t undef)) := by
 have hne : ∀ t, o.dst ≠ some t → (a.put o.dst v').tmps.getD t undef = a.tmps.getD t undef := by
  intro t ht
  cases hx : o.dst with
  | none => rfl
  | some u =>
    have : u ≠ t := fun e => ht (by rw [hx, e])
    simp [Act.put, Array.getElem?_setIfInBounds_ne this]
 have hself : ∀ {k' : Nat} {d' : DOper}, L[k']? = some d' → d'.ix = d.ix → k' = k := by
  intro k' d' h1 h2
  rcases Nat.lt_trichotomy k' k with h3 | h3 | h3
  ·exact absurd h2 (T.facts.inj h3 h1 hd)
  ·exact h3
  ·exact absurd h2.symm (T.facts.inj h3 hd h1)
 constructor
 ·intro k' d' t h1 h2 h3
  by_cases e : d'.ix = d.ix
  ·have := hself h1 e
   subst this
   rw [hd] at h1; cases h1
   rw [hdo] at h3
   have hlt : t < a.tmps.size := by rw [h.size]; rw [h3] at hdst; simpa [dstOk] using hdst
   rw [h3]
   simp [Act.put, hlt]
   exact hv
  ·have hD := h2.resolve_right e
   rw [hne t ?_]
   ·exact (h.val h1 hD h3).mono hle
   ·intro h4
    rw [← hdo] at h4
    rcases Nat.lt_trichotomy k' k with h5 | h5 | h5
    ·exact T.facts.dst h5 h1 hd h4 h3
    ·subst h5; rw [hd] at h1; cases h1; exact e rfl
    ·exact T.facts.dst h5 hd h1 h3 h4
 ·intro t ht
  rw [hne t ?_]
  ·exact (h.old t fun k' d' h1 h2 hD => ht k' d' h1 h2 (.inl hD)).mono hle
  ·intro h4
   exact ht k d hd (by rw [hdo]; exact h4) (.inr rfl)
theorem J.closed' (T : Seq P K ops n L S E V W SN BA) (h : J P ops n hi L S E V W g0 w0 df p D HD g a w) {d : DOper} {o : Oper} (ho : ops.toList[d.ix]? = some o) (hr : ∀ j ∈ preds o, D j) :
 ∀ i o j, (D i ∨ i = d.ix) → ops.toList[i]? = some o → j ∈ preds o → (D j ∨ j = d.ix) := by
 intro i o' j hi ho' hj
 rcases hi with hi | rfl
 ·exact .inl (h.closed i o' j hi ho' hj)
 ·rw [ho] at ho'; cases ho'; exact .inl (hr j hj)
theorem J.quiet (T : Seq P K ops n L S E V W SN BA) (hhi : (S L.length).next ≤ hi) (h : J P ops n hi L S E V W g0 w0 df p D HD g a w) {k : Nat} {d : DOper} (hd : L[k]? = some d) (hu : ¬ D d.ix) {o : Oper} (ho : ops.toList[d.ix]? = some o) (hr : ∀ j ∈ preds o, D j)
 (hdo : d.o.dst = o.dst) (hdst : dstOk n o.dst = true) (hne : ¬ eff L W k) {g' : Ghost} {v' : Value} {w' : World} {HD' : AHeap} (hv : Rel g' (V k) v')
 (hs : Step P (S 0).ro g HD w g' HD' w' (S k).next (S (k + 1)).next)
 (hheap : ∀ id o, o.live = true → (HD' id = some o ↔ HD id = some o ∨ (alc L W k ∧ id = (S k).next ∧ (S (k + 1)).get id = some o))) :
 J P ops n hi L S E V W g0 w0 df p (fun i => D i ∨ i = d.ix) HD' g' (a.put o.dst v') w' := by
 have hpk := h.after T hd hu
 have hk := lt_of_at hd
 obtain ⟨e1, e2⟩ := h.envs T hd hu hdo hdst hs.ext hv
 refine ⟨h.pN, fun q1 q2 => .inl (h.done q1 q2), fun {k' d'} q1 q2 q3 => ?_, h.closed' T ho hr, fun id ob hl => ?_, fun id q1 q2 q3 => ?_, e1, e2, by rw [put_size]; exact h.size, by rw [put_defers]; exact h.defers, ?_⟩
 ·rcases q3 with q3 | q3
  ·exact h.late q1 q2 q3
  ·rcases Nat.lt_trichotomy k' k with h3 | h3 | h3
   ·exact absurd q3 (T.facts.inj h3 q2 hd)
   ·subst h3; exact hne
   ·exact absurd q3.symm (T.facts.inj h3 hd q2)
 ·rw [hheap id ob hl, h.heap id ob hl]
  constructor
  ·rintro ((q | ⟨k', d', q1, q2, q3, q4⟩) | ⟨q1, q2, q3⟩)
   ·exact .inl q
   ·exact .inr ⟨k', d', q1, q2, .inl q3, q4⟩
   ·exact .inr ⟨k, d, hpk, hd, .inr rfl, q1, q2, q3⟩
  ·rintro (q | ⟨k', d', q1, q2, q3, q4⟩)
   ·exact .inl (.inl q)
   ·rcases q3 with q3 | q3
    ·exact .inl (.inr ⟨k', d', q1, q2, q3, q4⟩)
    ·have : k' = k := by
      rcases Nat.lt_trichotomy k' k with h3 | h3 | h3
      ·exact absurd q3 (T.facts.inj h3 q2 hd)
      ·exact h3
      ·exact absurd q3.symm (T.facts.inj h3 hd q2)
     subst this
     exact .inr q4
 ·by_cases hin : (S k).next ≤ id ∧ id < (S (k + 1)).next
  ·by_cases ha : alc L W k
   ·refine ⟨k, d, hpk, hd, .inr rfl, ha, ?_⟩
    obtain ⟨d', hd', hW, hal⟩ := ha
    obtain ⟨ob, h1, _, _⟩ := T.new hd' hW hal
    have : (S (k + 1)).next = (S k).next + 1 := by rw [h1]; rfl
    omega
   ·rw [T.same hk hne ha] at hin; omega
  ·rw [hs.only id hin] at q3
   obtain ⟨k', d', r1, r2, r3, r4⟩ := h.fresh id q1 q2 q3
   exact ⟨k', d', r1, r2, .inl r3, r4⟩
 ·exact h.step.trans2 (hs.wider (T.le (Nat.zero_le k) (Nat.le_of_lt hk)).next (T.le (j := k + 1) hk (Nat.le_refl _)).next)
end
end Go.AM
set_option linter.unusedVariables false
set_option linter.unusedSimpArgs false
set_option linter.unnecessarySimpa false
namespace Go.AM
section
variable {P : Program} {K : Ctx} {ops : Array Oper} {n hi : Nat} {L : List DOper} {S : Nat → St} {E : Nat → Env} {V : Nat → Value} {W : Nat → Bool} {SN : Nat → List St} {BA : Nat → Nat}
 {g0 : Ghost} {w0 : World} {df : List Deferred} {p : Nat} {D : Nat → Prop} {HD : AHeap} {g : Ghost} {a : Act} {w : World}
theorem run_looks_none {o : AOp} {st st' : St} {ρ : Operand → Value} {v : Value} (hl : o.isLook = true) (h : o.run st ρ = .ok (v, st')) (hn : o.looks ρ = none) (st2 : St) : o.run st2 ρ = .ok (v, st2) :=
 (look_run hl h).2.2 st2 fun id e => by rw [hn] at e; cases e
theorem J.found (T : Seq P K ops n L S E V W SN BA) (hhi : (S L.length).next ≤ hi) (h : J P ops n hi L S E V W g0 w0 df p D HD g a w) {k : Nat} {d : DOper} (hd : L[k]? = some d) (hu : ¬ D d.ix) {o : Oper} (ho : ops.toList[d.ix]? = some o) (hr : ∀ j ∈ preds o, D j)
 (hW : W k = true) (hl : d.o.op.isLook = true) (hwr : d.writes = false) {id : Nat} (hid : d.o.op.looks (E k).ev = some id) (hg : ∃ G, g id = some G) :
 ∃ s ob, d.o.op.run s (E k).ev = .ok (V k, s) ∧ s.get id = some ob ∧ ob.live = true ∧ HD id = some ob := by
 have hpk := h.after T hd hu
 have hk := lt_of_at hd
 have hgn : g id ≠ none := by obtain ⟨G, hG⟩ := hg; rw [hG]; simp
 have fromSeg : ∀ q b, p ≤ b → b ≤ q → q ≤ k → (∀ j, b ≤ j → j < q → ¬ eff L W j) → ∀ ob, ob.live = true → (S q).get id = some ob → (b = p ∨ (S b).next ≤ id) → HD id = some ob := by
  intro q b hpb hbq hqk hn ob hlo hget hb
  rcases (T.seg hbq (by omega) hn id ob hlo).1 hget with h1 | ⟨j, j1, j2, j3, j4, j5⟩
  ·rcases hb with rfl | hb
   ·exact (h.heap id ob hlo).2 (.inl h1)
   ·have := T.isTop (k := b) (by omega) h1 hlo; omega
  ·have hlt : id < (S L.length).next := by
    have := T.newer (k := L.length) j3 (by omega) (Nat.le_refl _); omega
   have hge : (S p).next ≤ id := by
    have := (T.le (j := p) (k := j) (by omega) (by omega)).next; omega
   obtain ⟨k', d', r1, r2, r3, r4, r5⟩ := h.fresh id hge (Nat.lt_of_lt_of_le hlt hhi) hgn
   have : k' = j := T.alcInj r4 j3 (by rw [← r5, ← j4])
   subst this
   exact (h.heap id ob hlo).2 (.inr ⟨k', d', r1, r2, r3, r4, r5, j5⟩)
 have hrunK := T.run hd hW hwr
 obtain ⟨hSk, hobK, hsameK⟩ := look_run hl hrunK
 rw [hSk] at hrunK
 by_cases hq : ∃ q, p ≤ q ∧ q < k ∧ eff L W q
 ·obtain ⟨q, ⟨hq1, hq2, hq3⟩, hmin⟩ : ∃ q, (p ≤ q ∧ q < k ∧ eff L W q) ∧ ∀ j, j < q → ¬ (p ≤ j ∧ j < k ∧ eff L W j) := by
   obtain ⟨q, hq⟩ := hq
   induction q using Nat.strongRecOn with
   | _ q ih =>
     by_cases hx : ∃ j, j < q ∧ (p ≤ j ∧ j < k ∧ eff L W j)
     ·obtain ⟨j, hj, hj2⟩ := hx; exact ih j hj hj2
     ·exact ⟨q, hq, fun j hj hj2 => hx ⟨j, hj, hj2⟩⟩
  have hcount : 1 ≤ (L.take k).countP (fun s => s.writes && !(ancOf ops.toList d.ix).contains s.ix) ∧ S q ∈ (SN k).take ((L.take k).countP (fun s => s.writes && !(ancOf ops.toList d.ix).contains s.ix)) := by
   have hp : ∀ j d', q ≤ j → j < k → L[j]? = some d' → eff L W j → (d'.writes && !(ancOf ops.toList d.ix).contains d'.ix) = true := by
    intro j d' h1 h2 h3 h4
    obtain ⟨d'', h5, _, h6⟩ := h4
    rw [h3] at h5; cases h5
    rw [h6]
    simp only [Bool.true_and, Bool.not_eq_true']
    cases hx : (ancOf ops.toList d.ix).contains d'.ix with
    | false => rfl
    | true =>
      have hanc := ancs_sound (List.contains_iff_mem.1 hx)
      exact absurd ⟨d', h3, by assumption, h6⟩ (h.late (by omega) h3 (hanc.ready h.closed ho hr))
   have hm := T.snap hq2 (Nat.le_of_lt hk) hq3 _ hp
   refine ⟨?_, hm⟩
   rcases Nat.eq_zero_or_pos ((L.take k).countP (fun s => s.writes && !(ancOf ops.toList d.ix).contains s.ix)) with h0 | h0
   ·rw [h0] at hm; simp at hm
   ·exact h0
  have hback := T.facts.back hd hl
  rcases (T.tr.rd hd hW hwr).2.2 with h0 | hst
  ·omega
  ·unfold stays at hst
   rw [Bool.or_eq_true, hid] at hst
   rcases hst with hst | hst
   ·simp only [decide_eq_true_eq] at hst
    obtain ⟨ob, hob, hlo⟩ := hobK id hid
    rcases T.base (Nat.le_of_lt hk) with ⟨b, b1, b2, b3, b4⟩ | hno
    ·have hqb : q ≤ b := by
      rcases Nat.lt_or_ge b q with hlt | hge
      ·exact absurd hq3 (b3 q hlt hq2)
      ·exact hge
     exact ⟨S k, ob, hrunK, hob, hlo, fromSeg k (b + 1) (by omega) (by omega) (Nat.le_refl _) (fun j j1 j2 => b3 j (by omega) j2) ob hlo hob (.inr (by omega))⟩
    ·exact absurd hq3 (hno q hq2)
   ·have hmem : S q ∈ (SN k).take d.back := (List.take_sublist_take_left hback).mem hcount.2
    have := List.all_eq_true.1 hst _ hmem
    split at this
    ·rename_i u su hrunq
     have hv := sameVal_eq this
     subst hv
     obtain ⟨hsq, hobq, _⟩ := look_run hl hrunq
     rw [hsq] at hrunq
     obtain ⟨ob, hob, hlo⟩ := hobq id hid
     exact ⟨S q, ob, hrunq, hob, hlo, fromSeg q p (Nat.le_refl _) hq1 (Nat.le_of_lt hq2) (fun j j1 j2 he => hmin j j2 ⟨j1, by omega, he⟩) ob hlo hob (.inl rfl)⟩
    ·cases this
 ·obtain ⟨ob, hob, hlo⟩ := hobK id hid
  exact ⟨S k, ob, hrunK, hob, hlo, fromSeg k p (Nat.le_refl _) hpk (Nat.le_refl _) (fun j j1 j2 he => hq ⟨j, j1, j2, he⟩) ob hlo hob (.inl rfl)⟩
theorem J.plain (T : Seq P K ops n L S E V W SN BA) (hhi : (S L.length).next ≤ hi) (h : J P ops n hi L S E V W g0 w0 df p D HD g a w) {k : Nat} {d : DOper} (hd : L[k]? = some d) (hu : ¬ D d.ix) {o : Oper} (ho : ops.toList[d.ix]? = some o) (hr : ∀ j ∈ preds o, D j)
 (hdo : d.o.dst = o.dst) (hop : d.o.op = compOp P o) (hdst : dstOk n o.dst = true) (hρ : ∀ x ∈ o.op.operands.toList, Rel g ((E k).ev x) (a.eval x)) (hW : W k = true) (hwr : d.writes = false)
 {fr : Option Nat} {m : Nat} {next : Act → World → Prop} {Q : Exit → Act → World → Prop}
 (hn : ∀ HD' g' v' w', J P ops n hi L S E V W g0 w0 df p (fun i => D i ∨ i = d.ix) HD' g' (a.put o.dst v') w' → next (a.put o.dst v') w') : o.wpIn (Fr fr) m P a w next Q := by
 have hpk := h.after T hd hu
 have hk := lt_of_at hd
 have hne : ¬ eff L W k := fun ⟨d', q1, _, q3⟩ => by rw [hd] at q1; cases q1; rw [hwr] at q3; cases q3
 have hro : (S 0).ro ≤ (S k).next := Nat.le_trans T.ro (T.le (Nat.zero_le k) (Nat.le_of_lt hk)).next
 have still : ¬ alc L W k → ∀ (st1 : St), st1.ro = (S 0).ro → st1.next = (S k).next → (∀ id ob, st1.get id = some ob → ob.live = true → HD id = some ob) → (compOp P o).run st1 (E k).ev = .ok (V k, st1) → o.wpIn (Fr fr) m P a w next Q := by
  intro hna st1 e1 e2 hsub hrun
  have hnx : (S (k + 1)).next = (S k).next := by rw [T.same hk hne hna]
  refine plain_wp (st := st1) (by rw [e1]; exact h.step.rl.sub hsub) (by rw [e1, e2]; exact hro) (fun id q1 q2 => by omega) hρ hrun fun v' w' g' hv hs => hn HD g' v' w' ?_
  rw [e1, e2] at hs
  refine h.quiet T hhi hd hu ho hr hdo hdst hne hv ?_ (fun id ob _ => ⟨.inl, fun q => q.elim (fun x => x) (fun q => absurd q.1 hna)⟩)
  rw [hnx]
  refine Step.beside h.step.rl hro hsub hs (fun id ob q1 q2 => .inl ⟨ob, q1, q2⟩) (fun id ob hl ht => ?_) (fun id ob hl _ => Iff.rfl)
  rcases ht with ⟨o0, q1, q2⟩ | ⟨q1, q2⟩
  ·rw [hsub id o0 q1 q2, q1]
  ·omega
 have empty : ∀ (st1 : St), st1.h = .nil → ∀ id ob, st1.get id = some ob → ob.live = true → HD id = some ob := fun st1 e id ob q => by simp [St.get, e] at q
 rcases T.kind hd hwr with hp | hl | hal
 ·have hna : ¬ alc L W k := fun ⟨d', q1, _, q3⟩ => by
   rw [hd] at q1; cases q1
   revert hp q3
   cases d.o.op <;> simp [AOp.isPure, AOp.isAlloc]
  have hrun := T.run hd hW hwr
  rw [hop] at hrun hp
  exact still hna ⟨.nil, (S k).next, (S 0).ro⟩ rfl rfl (empty _ rfl) ((pure_run hp hrun).2 _)
 ·have hna : ¬ alc L W k := fun ⟨d', q1, _, q3⟩ => by
   rw [hd] at q1; cases q1
   revert hl q3
   cases d.o.op <;> simp [AOp.isLook, AOp.isAlloc]
  have hrun := T.run hd hW hwr
  cases hid : d.o.op.looks (E k).ev with
  | none =>
    refine still hna ⟨.nil, (S k).next, (S 0).ro⟩ rfl rfl (empty _ rfl) ?_
    rw [← hop]; exact run_looks_none hl hrun hid _
  | some id =>
    obtain ⟨x, hx, hmem⟩ := compOp_look hop.symm hl
    have hidx : idOf ((E k).ev x) = some id := by
     unfold AOp.looks at hid; rw [hx] at hid; simpa using hid
    obtain ⟨s, ob, r1, r2, r3, r4⟩ := h.found T hhi hd hu ho hr hW hl hwr hid (idOf_rel (hρ x hmem) hidx)
    refine still hna ⟨Tr.set .nil id ob, (S k).next, (S 0).ro⟩ rfl rfl (fun i ob' q _ => ?_) ?_
    ·simp only [St.get, Tr.get_set] at q
     split at q
     ·rename_i e; subst e; cases q; exact r4
     ·simp at q
    ·rw [← hop]
     refine (look_run hl r1).2.2 _ fun i e => ?_
     rw [hid] at e; cases e
     show (Tr.set .nil id ob).get id = s.get id
     rw [Tr.get_set_same, r2]
 ·obtain ⟨ob, h1, hlo, h2⟩ := T.new hd hW hal
  have ha : alc L W k := ⟨d, hd, hW, hal⟩
  have hnx : (S (k + 1)).next = (S k).next + 1 := by rw [h1]; rfl
  let st1 : St := ⟨.nil, (S k).next, (S 0).ro⟩
  have hrun : (compOp P o).run st1 (E k).ev = .ok (V k, st1.alloc ob) := by rw [← hop]; exact h2 st1 rfl
  have hle := (T.le (j := k + 1) hk (Nat.le_refl _)).next
  have hfr : ∀ id, (S k).next ≤ id → id < (S k).next + 1 → g id = none := by
   intro id q1 q2
   cases hx : g id with
   | none => rfl
   | some G =>
     have hge := (T.le (j := p) (k := k) hpk (Nat.le_of_lt hk)).next
     obtain ⟨k', d', r1, r2, r3, r4, r5⟩ := h.fresh id (by omega) (by omega) (by rw [hx]; simp)
     have : k' = k := T.alcInj r4 ha (by omega)
     subst this
     rw [hd] at r2; cases r2
     exact absurd r3 hu
  refine plain_wp (st := st1) (h.step.rl.sub (empty st1 rfl)) hro hfr hρ hrun fun v' w' g' hv hs => hn (upd HD (S k).next ob) g' v' w' ?_
  have hs : Step P (S 0).ro g st1.get w g' (st1.alloc ob).get w' (S k).next (S (k + 1)).next := hnx ▸ hs
  refine h.quiet T hhi hd hu ho hr hdo hdst hne hv (Step.beside h.step.rl hro (empty st1 rfl) hs (fun id o' q1 q2 => ?_) (fun id o' hl ht => ?_) (fun id o' hl ht => ?_)) (fun id o' hl => ?_)
  ·by_cases e : id = (S k).next
   ·exact .inr ⟨by omega, by omega⟩
   ·rw [St.get_alloc, upd_ne _ _ e] at q1; simp [St.get, st1] at q1
  ·rcases ht with ⟨o0, q1, q2⟩ | ⟨q1, q2⟩
   ·simp [St.get, st1] at q1
   ·have e : id = (S k).next := by omega
    subst e
    rw [upd_same, St.get_alloc]
    show _ ↔ upd st1.get (S k).next ob (S k).next = some o'
    rw [upd_same]
  ·have e : id ≠ (S k).next := fun e => ht (.inr ⟨by omega, by omega⟩)
   rw [upd_ne _ _ e]
  ·have hnew : (S (k + 1)).get (S k).next = some ob := by rw [h1, St.get_alloc, upd_same]
   by_cases e : id = (S k).next
   ·subst e
    rw [upd_same]
    constructor
    ·intro q; exact .inr ⟨ha, rfl, by rw [hnew]; exact q⟩
    ·rintro (q | ⟨_, _, q⟩)
     ·obtain ⟨G, hG, _⟩ := h.step.rl.obj _ _ q hl
      rw [hfr _ (Nat.le_refl _) (Nat.lt_succ_self _)] at hG; cases hG
     ·rw [hnew] at q; exact q
   ·rw [upd_ne _ _ e]
    exact ⟨.inl, fun q => q.elim (fun x => x) (fun q => absurd q.2.1 e)⟩
theorem J.skipped (T : Seq P K ops n L S E V W SN BA) (hhi : (S L.length).next ≤ hi) (h : J P ops n hi L S E V W g0 w0 df p D HD g a w) {k : Nat} {d : DOper} (hd : L[k]? = some d) (hu : ¬ D d.ix) {o : Oper} (ho : ops.toList[d.ix]? = some o) (hr : ∀ j ∈ preds o, D j)
 (hdo : d.o.dst = o.dst) (hdst : dstOk n o.dst = true) (hW : W k = false) : J P ops n hi L S E V W g0 w0 df p (fun i => D i ∨ i = d.ix) HD g (a.put o.dst undef) w := by
 have hk := lt_of_at hd
 obtain ⟨hV, hS, _⟩ := T.tr.skip hd hW
 have hna : ¬ alc L W k := fun ⟨d', _, q2, _⟩ => by rw [hW] at q2; cases q2
 refine h.quiet T hhi hd hu ho hr hdo hdst (fun ⟨d', _, q2, _⟩ => by rw [hW] at q2; cases q2) (by rw [hV]; exact .skip) (.refl h.step.rl _ _) (fun id ob _ => ⟨.inl, fun q => q.elim (fun x => x) (fun q => absurd q.1 hna)⟩)
end
end Go.AM
set_option linter.unusedVariables false
set_option linter.unusedSimpArgs false
set_option linter.unnecessarySimpa false
namespace Go.AM
section
variable {P : Program} {K : Ctx} {ops : Array Oper} {n hi : Nat} {L : List DOper} {S : Nat → St} {E : Nat → Env} {V : Nat → Value} {W : Nat → Bool} {SN : Nat → List St} {BA : Nat → Nat}
 {g0 : Ghost} {w0 : World} {df : List Deferred} {p : Nat} {D : Nat → Prop} {HD : AHeap} {g : Ghost} {a : Act} {w : World}
open Classical in
theorem J.writer (T : Seq P K ops n L S E V W SN BA) (hhi : (S L.length).next ≤ hi) (h : J P ops n hi L S E V W g0 w0 df p D HD g a w) {k : Nat} {d : DOper} (hd : L[k]? = some d) (hu : ¬ D d.ix) {o : Oper} (ho : ops.toList[d.ix]? = some o) (hr : ∀ j ∈ preds o, D j)
 (hdo : d.o.dst = o.dst) (hop : d.o.op = compOp P o) (hdst : dstOk n o.dst = true) (hρ : ∀ x ∈ o.op.operands.toList, Rel g ((E k).ev x) (a.eval x)) (hW : W k = true) (hwr : d.writes = true)
 {fr : Option Nat} {m : Nat} {next : Act → World → Prop} {Q : Exit → Act → World → Prop}
 (hn : ∀ HD' g' v' w', J P ops n hi L S E V W g0 w0 df (k + 1) (fun i => D i ∨ i = d.ix) HD' g' (a.put o.dst v') w' → next (a.put o.dst v') w') : o.wpIn (Fr fr) m P a w next Q := by
 have hpk := h.after T hd hu
 have hk := lt_of_at hd
 have hkl := Nat.le_of_lt hk
 have heff : eff L W k := ⟨d, hd, hW, hwr⟩
 have hall : ∀ {i s}, i < k → L[i]? = some s → D s.ix := fun {i s} hi hs => (T.facts.chain hi hs hd hwr).ready h.closed ho hr
 have hnoeff : ∀ j, p ≤ j → j < k → ¬ eff L W j := fun j j1 j2 => by
  obtain ⟨s, hs⟩ := at_of_lt (L := L) (k := j) (by omega)
  exact h.late j1 hs (hall j2 hs)
 have hseg := T.seg hpk hkl hnoeff
 have hsub : ∀ id ob, (S k).get id = some ob → ob.live = true → HD id = some ob := by
  intro id ob q hl
  rcases (hseg id ob hl).1 q with q | ⟨j, j1, j2, j3, j4, j5⟩
  ·exact (h.heap id ob hl).2 (.inl q)
  ·obtain ⟨s, hs⟩ := at_of_lt (L := L) (k := j) (by omega)
   exact (h.heap id ob hl).2 (.inr ⟨j, s, j1, hs, hall j2 hs, j3, j4, j5⟩)
 have hle0 := T.le (Nat.zero_le k) hkl
 have hro : (S k).ro = (S 0).ro := hle0.ro
 have hrole : (S 0).ro ≤ (S k).next := Nat.le_trans T.ro hle0.next
 have hle1 := T.le1 hk
 have hleN := T.le (j := k + 1) hk (Nat.le_refl _)
 have early : ∀ id, (S k).next ≤ id → id < hi → g id ≠ none → ∃ k' d', k < k' ∧ L[k']? = some d' ∧ D d'.ix ∧ alc L W k' ∧ id = (S k').next ∧ (S (k + 1)).next ≤ id := by
  intro id q1 q2 q3
  obtain ⟨k', d', r1, r2, r3, r4, r5⟩ := h.fresh id (Nat.le_trans (T.le hpk hkl).next q1) q2 q3
  have hk' : k < k' := by
   rcases Nat.lt_trichotomy k' k with h3 | h3 | h3
   ·have := T.newer r4 h3 hkl; omega
   ·subst h3; rw [hd] at r2; cases r2; exact absurd r3 hu
   ·exact h3
  refine ⟨k', d', hk', r2, r3, r4, r5, ?_⟩
  rw [r5]; exact (T.le (j := k + 1) (k := k') hk' (Nat.le_of_lt (lt_of_at r2))).next
 have hI : Inv0 P (S (k + 1)).next (S k) g w :=
  ⟨by rw [hro]; exact h.step.rl.sub hsub, by rw [hro]; exact hrole, fun id q1 q2 => by
    cases hx : g id with
    | none => rfl
    | some G =>
      obtain ⟨k', d', _, _, _, _, _, r⟩ := early id q1 (by have := hleN.next; omega) (by rw [hx]; simp)
      omega, fun id ob q hl => T.isTop hkl q hl⟩
 have hrun := T.tr.run hd hW
 rw [hop] at hrun
 refine oper_wp T.goes hI (Nat.le_refl _) hρ hrun fun v' w' g' hv hto => ?_
 have hs := hto.step
 rw [hro] at hs
 let HD' : AHeap := fun id => if Touched (S k).get (S k).next (S (k + 1)).next id then (S (k + 1)).get id else HD id
 refine hn HD' g' v' w' ?_
 have hstep : Step P (S 0).ro g HD w g' HD' w' (S k).next (S (k + 1)).next :=
  Step.beside h.step.rl hrole hsub hs hto.le.alive (fun id ob hl ht => by simp only [HD', if_pos ht]) (fun id ob hl ht => by simp only [HD', if_neg ht])
 obtain ⟨e1, e2⟩ := h.envs T hd hu hdo hdst hs.ext hv
 have hself : ∀ {k' : Nat} {d' : DOper}, L[k']? = some d' → d'.ix = d.ix → k' = k := by
  intro k' d' h1 h2
  rcases Nat.lt_trichotomy k' k with h3 | h3 | h3
  ·exact absurd h2 (T.facts.inj h3 h1 hd)
  ·exact h3
  ·exact absurd h2.symm (T.facts.inj h3 hd h1)
 refine ⟨hk, fun {k' d'} q1 q2 => ?_, fun {k' d'} q1 q2 q3 => ?_, h.closed' T ho hr, fun id ob hl => ?_, fun id q1 q2 q3 => ?_, e1, e2, by rw [put_size]; exact h.size, by rw [put_defers]; exact h.defers, h.step.trans2 (hstep.wider hle0.next hleN.next)⟩
 ·by_cases e : k' = k
  ·subst e; rw [hd] at q2; cases q2; exact .inr rfl
  ·exact .inl (hall (by omega) q2)
 ·rcases q3 with q3 | q3
  ·exact h.late (by omega) q2 q3
  ·have := hself q2 q3; omega
 ·constructor
  ·intro q
   by_cases ht : Touched (S k).get (S k).next (S (k + 1)).next id
   ·simp only [HD', if_pos ht] at q; exact .inl q
   ·simp only [HD', if_neg ht] at q
    rcases (h.heap id ob hl).1 q with q | ⟨k', d', r1, r2, r3, r4, r5, r6⟩
    ·exact absurd (.inl ⟨ob, (hseg id ob hl).2 (.inl q), hl⟩) ht
    ·rcases Nat.lt_trichotomy k' k with h3 | h3 | h3
     ·exact absurd (.inl ⟨ob, (hseg id ob hl).2 (.inr ⟨k', r1, h3, r4, r5, r6⟩), hl⟩) ht
     ·subst h3; exact (T.notBoth r4 heff).elim
     ·exact .inr ⟨k', d', h3, r2, .inl r3, r4, r5, r6⟩
  ·rintro (q | ⟨k', d', r1, r2, r3, r4, r5, r6⟩)
   ·have ht : Touched (S k).get (S k).next (S (k + 1)).next id := hto.le.alive id ob q hl
    simp only [HD', if_pos ht]; exact q
   ·have hge : (S (k + 1)).next ≤ id := by rw [r5]; exact (T.le (j := k + 1) (k := k') r1 (Nat.le_of_lt (lt_of_at r2))).next
    have ht : ¬ Touched (S k).get (S k).next (S (k + 1)).next id := by
     rintro (⟨o0, q1, q2⟩ | ⟨_, q2⟩)
     ·have := T.isTop hkl q1 q2; have := hle1.next; omega
     ·omega
    simp only [HD', if_neg ht]
    have hD : D d'.ix := r3.resolve_right fun e => by have := hself r2 e; omega
    exact (h.heap id ob hl).2 (.inr ⟨k', d', by omega, r2, hD, r4, r5, r6⟩)
 ·rw [hs.only id (by omega)] at q3
  obtain ⟨k', d', r1, r2, r3, r4, r5, _⟩ := early id (Nat.le_trans hle1.next q1) q2 q3
  exact ⟨k', d', r1, r2, .inl r3, r4, r5⟩
theorem J.final (T : Seq P K ops n L S E V W SN BA) (h : J P ops n hi L S E V W g0 w0 df p D HD g a w) (hall : ∀ {k : Nat} {d : DOper}, L[k]? = some d → D d.ix) :
 Step P (S 0).ro g0 (S 0).get w0 g (S L.length).get w (S 0).next (S L.length).next ∧ EnvRel g (E L.length) a.tmps := by
 refine ⟨h.step.congr fun id ob hl => ?_, fun t => ?_⟩
 ·rw [T.seg h.pN (Nat.le_refl _) (fun j j1 j2 => by obtain ⟨s, hs⟩ := at_of_lt (L := L) j2; exact h.late j1 hs (hall hs)) id ob hl, h.heap id ob hl]
  constructor
  ·rintro (q | ⟨j, j1, j2, j3, j4, j5⟩)
   ·exact .inl q
   ·obtain ⟨s, hs⟩ := at_of_lt (L := L) j2
    exact .inr ⟨j, s, j1, hs, hall hs, j3, j4, j5⟩
  ·rintro (q | ⟨j, s, j1, j2, _, j3, j4, j5⟩)
   ·exact .inl q
   ·exact .inr ⟨j, j1, lt_of_at j2, j3, j4, j5⟩
 ·rcases T.envAt (Nat.le_refl _) t with ⟨j, d, h1, h2, h3, h4⟩ | ⟨h1, h2⟩
  ·rw [h4]; exact h.val h2 (hall h2) h3
  ·rw [h2]; exact h.old t fun k d q1 q2 => absurd q2 (h1 k d (lt_of_at q1) q1)
theorem count_set {l : List Nat} {q q' : Nat → Bool} {i : Nat} (hn : l.Nodup) (hi : i ∈ l) (h1 : q i = true) (h2 : q' i = false) (h3 : ∀ j, j ≠ i → q' j = q j) : l.countP q = l.countP q' + 1 := by
 induction l with
 | nil => cases hi
 | cons x l ih =>
   rw [List.nodup_cons] at hn
   rw [List.countP_cons, List.countP_cons]
   by_cases e : x = i
   ·subst e
    have : l.countP q = l.countP q' := List.countP_congr fun j hj => by rw [h3 j (fun e => hn.1 (e ▸ hj))]
    simp [h1, h2, this]
   ·have hi' : i ∈ l := (List.mem_cons.1 hi).resolve_left (fun e' => e e'.symm)
    rw [h3 x e, ih hn.2 hi']
    omega
theorem any_wp (T : Seq P K ops n L S E V W SN BA) (hhi : (S L.length).next ≤ hi) (hcov : ∀ i, i < ops.size → ∃ (k : Nat) (d : DOper), L[k]? = some d ∧ d.ix = i) {fr : Option Nat} {m : Nat} {Q : Exit → Act → World → Prop}
 (hQ : ∀ g a w, Step P (S 0).ro g0 (S 0).get w0 g (S L.length).get w (S 0).next (S L.length).next → EnvRel g (E L.length) a.tmps → a.tmps.size = n → a.defers = df → Q .normal a w) :
 ∀ (fuel : Nat) (listed : Array Bool) (p : Nat) (HD : AHeap) (g : Ghost) (a : Act) (w : World), listed.size = ops.size → (List.range ops.size).countP (fun i => !listed.getD i false) = fuel →
   J P ops n hi L S E V W g0 w0 df p (fun i => listed.getD i false = true) HD g a w → wpAnyIn (Fr fr) m P .any ops Q fuel listed a w := by
 have hixlt : ∀ {k : Nat} {d : DOper}, L[k]? = some d → d.ix < ops.size := fun {k d} hd => by
  obtain ⟨o, ho⟩ := T.facts.has hd
  have := (List.getElem?_eq_some_iff.1 ho).1
  simpa using this
 intro fuel
 induction fuel with
 | zero =>
   intro listed p HD g a w hsz hc h
   have hall : ∀ i, i < ops.size → listed.getD i false = true := by
    intro i hi'
    have := List.countP_eq_zero.1 hc i (List.mem_range.2 hi')
    simpa using this
   obtain ⟨f1, f2⟩ := h.final T fun {k d} hd => hall _ (hixlt hd)
   refine ⟨?_, hQ g a w f1 f2 h.size h.defers⟩
   cases hrd : Region.ready .any ops listed with
   | nil => rfl
   | cons i rest =>
     have hmem : i ∈ Region.ready .any ops listed := by rw [hrd]; simp
     obtain ⟨hun, o, ho, _⟩ := mem_ready.1 hmem
     have hlt := (Array.getElem?_eq_some_iff.1 ho).1
     have := hall i hlt
     have hlt' : i < listed.size := by omega
     simp [hlt'] at hun this
     rw [hun] at this; cases this
 | succ fuel ih =>
   intro listed p HD g a w hsz hc h
   have hlist : ∀ i, i < ops.size → (listed.getD i true = listed.getD i false) := fun i hi' => by
    have : i < listed.size := by omega
    simp [this]
   have hready : ∀ i, i ∈ Region.ready .any ops listed ↔ listed.getD i true = false ∧ ∃ o, ops[i]? = some o ∧ ∀ j ∈ preds o, listed.getD j false = true := by
    intro i
    rw [mem_ready]
    refine and_congr Iff.rfl (exists_congr fun o => and_congr Iff.rfl ?_)
    constructor
    ·intro hh j hj
     unfold preds at hj
     rw [List.mem_map] at hj
     obtain ⟨e, he, rfl⟩ := hj
     rw [List.mem_filter] at he
     exact hh e (by simpa using he.1) he.2
    ·intro hh e he hb
     exact hh e.on (List.mem_map.2 ⟨e, List.mem_filter.2 ⟨by simpa using he, hb⟩, rfl⟩)
   refine ⟨fun hnil => ?_, fun i hi' => ?_⟩
   ·
    exfalso
    have hex : ∃ (k : Nat) (d : DOper), L[k]? = some d ∧ listed.getD d.ix false = false := by
     refine Classical.byContradiction fun hno => ?_
     have h0 : (List.range ops.size).countP (fun i => !listed.getD i false) = 0 := List.countP_eq_zero.2 fun i hi' => by
      obtain ⟨k, d, hd, e⟩ := hcov i (List.mem_range.1 hi')
      show ¬ ((!listed.getD i false) = true)
      cases hx : listed.getD i false with
      | true => decide
      | false => exact absurd ⟨k, d, hd, by rw [e]; exact hx⟩ hno
     omega
    obtain ⟨k, ⟨d, hd, hun⟩, hmin⟩ : ∃ k : Nat, (∃ d : DOper, L[k]? = some d ∧ listed.getD d.ix false = false) ∧ ∀ j, j < k → ¬ ∃ d : DOper, L[j]? = some d ∧ listed.getD d.ix false = false := by
     obtain ⟨k, hk⟩ := hex
     induction k using Nat.strongRecOn with
     | _ k ihk =>
       by_cases hx : ∃ j, j < k ∧ ∃ d : DOper, L[j]? = some d ∧ listed.getD d.ix false = false
       ·obtain ⟨j, hj, hj2⟩ := hx; exact ihk j hj hj2
       ·exact ⟨k, hk, fun j hj hj2 => hx ⟨j, hj, hj2⟩⟩
    obtain ⟨o, ho⟩ := T.facts.has hd
    have hmem : d.ix ∈ Region.ready .any ops listed := by
     refine (hready _).2 ⟨by rw [hlist _ (hixlt hd)]; exact hun, o, by simpa using ho, fun j hj => ?_⟩
     obtain ⟨i, s, h1, h2, h3⟩ := T.facts.topo hd ho hj
     cases hx : listed.getD j false with
     | true => rfl
     | false => exact absurd ⟨s, h2, by rw [h3]; exact hx⟩ (hmin i h1)
    rw [hnil] at hmem; cases hmem
   ·obtain ⟨hun, o, ho, hprd⟩ := (hready i).1 hi'
    have hilt := (Array.getElem?_eq_some_iff.1 ho).1
    obtain ⟨k, d, hd, rfl⟩ := hcov i hilt
    have ho' : ops.toList[d.ix]? = some o := by simpa using ho
    rw [hlist _ hilt] at hun
    have hu : ¬ listed.getD d.ix false = true := by rw [hun]; simp
    have hset : (fun j => (listed.setIfInBounds d.ix true).getD j false = true) = fun j => listed.getD j false = true ∨ j = d.ix := by
     funext j
     have hlt : d.ix < listed.size := by omega
     by_cases e : j = d.ix
     ·subst e; simp [hlt]
     ·simp [Array.getElem?_setIfInBounds_ne (Ne.symm e), e]
    have hcnt : (List.range ops.size).countP (fun j => !(listed.setIfInBounds d.ix true).getD j false) = fuel := by
     have hlt : d.ix < listed.size := by omega
     have := count_set (l := List.range ops.size) (q := fun j => !listed.getD j false) (q' := fun j => !(listed.setIfInBounds d.ix true).getD j false) (i := d.ix) List.nodup_range (List.mem_range.2 hilt)
      (by simp only [hun, Bool.not_false]) (by simp [hlt]) (fun j hj => by simp [Array.getElem?_setIfInBounds_ne (Ne.symm hj)])
     omega
    have hnext : ∀ {p' HD' g' a' w'}, J P ops n hi L S E V W g0 w0 df p' (fun j => listed.getD j false = true ∨ j = d.ix) HD' g' a' w' → wpAnyIn (Fr fr) m P .any ops Q fuel (listed.setIfInBounds d.ix true) a' w' :=
     fun {p' HD' g' a' w'} hj => ih _ p' HD' g' a' w' (by simpa using hsz) hcnt (by rw [hset]; exact hj)
    obtain ⟨hdo1, _⟩ := T.comp (List.mem_of_getElem? hd) ho'
    obtain ⟨gd, c1, c2, c3, c4⟩ := compOper_at (P := P) (ops := ops) (n := n) (o := o) (K := K) (by rw [← hdo1]; exact T.tr.want hd) (fun hW => by rw [← hdo1]; exact T.tr.run hd hW)
    have hdo : d.o = ⟨o.dst, gd, compOp P o⟩ := hdo1.trans c4
    have hrd : ∀ {t : Tmp}, t ∈ readsOf ops.toList d → Rel g ((E k).at t) (a.tmps.getD t undef) := fun ht => h.reads T hd hu ho' hprd ht
    have hρ : ∀ x ∈ o.op.operands.toList, Rel g ((E k).ev x) (a.eval x) := fun x hx => by
     refine ev_rel' h.step.rl.glob (fun t e => hrd ?_) (List.all_eq_true.1 c3 x hx)
     subst e
     unfold readsOf
     rw [ho']
     exact List.mem_append_left _ (List.mem_filterMap.2 ⟨.tmp t, hx, rfl⟩)
    have hwant := T.tr.want hd
    rw [hdo] at hwant
    have hwanted := wants_ok' (g := g) (a := a) (ops := ops) (o := o) (fun t c e => hrd (by
     subst e
     unfold readsOf
     rw [hdo]
     exact List.mem_append_right _ (by simp))) c1 hwant
    unfold wpOpIn
    simp only [ho]
    cases hW : W k with
    | true =>
      rw [hwanted, hW]
      simp only [if_true]
      cases hwr : d.writes with
      | true => exact h.writer T hhi hd hu ho' hprd (by rw [hdo]) (by rw [hdo]) c2 hρ hW hwr fun HD' g' v' w' hj => hnext hj
      | false => exact h.plain T hhi hd hu ho' hprd (by rw [hdo]) (by rw [hdo]) c2 hρ hW hwr fun HD' g' v' w' hj => hnext hj
    | false =>
      rw [hwanted, hW]
      simp only [Bool.false_eq_true, if_false]
      exact ⟨fun _ _ => trivial, hnext (h.skipped T hhi hd hu ho' hprd (by rw [hdo]) c2 hW)⟩
end
theorem draw_ok {P : Program} {K : Ctx} (hm : P.follows .mixedOrders = true) (hK : Goes P K) : DrawOk P K := by
 intro id ops fr hi m n b e e' st st' g a w Q hok hhi h hI hQ
 unfold okDraw at hok
 simp only [Bool.and_eq_true] at hok
 obtain ⟨hcov, hL⟩ := hok
 obtain ⟨S, E, V, W, SN, BA, tr, a1, a2, a3, a4, a5, a6⟩ := drawC_trace _ _ _ _ _ _ _ h
 have T : Seq P K ops n (compDraw P ops n) S E V W SN BA :=
  { goes := hK, tr := tr, facts := facts_of hL, comp := fun hd ho => compDraw_at hd ho, top := by rw [a1]; exact hI.base.top, ro := by rw [a1]; exact hI.base.ro }
 have hlen : (S (compDraw P ops n).length).next ≤ hi := by rw [a5]; exact hhi
 have hrep : ∀ i, (Array.replicate ops.size false).getD i false = false := by
  intro i
  simp only [Array.getD_eq_getD_getElem?, Array.getElem?_replicate]
  split <;> rfl
 have hnot : ∀ i, ¬ (Array.replicate ops.size false).getD i false = true := fun i q => by rw [hrep] at q; cases q
 refine wpIn_region_any hm ?_
 refine any_wp (g0 := g) (w0 := { w with drawn := w.drawn + 1 }) (df := a.defers) T hlen (fun i hi' => ?_) (fun g' a' w' hs henv hsz hdf => ?_) ops.size _ 0 st.get g a _ (by simp) ?_ ?_
 ·have := List.all_eq_true.1 hcov i (List.mem_range.2 hi')
  obtain ⟨d, hd, e⟩ := List.any_eq_true.1 this
  obtain ⟨k, hk⟩ := List.mem_iff_getElem?.1 hd
  exact ⟨k, d, hk, by simpa using e⟩
 ·rw [a1, a5] at hs
  rw [a6] at henv
  have hle : StLe st st' := drawC_le hK.le _ _ _ _ _ _ _ h
  have hs0 : Step P st.ro g st.get w g st.get { w with drawn := w.drawn + 1 } st.next st.next := Step.drawn (w' := { w with drawn := w.drawn + 1 }) hI.base.rl rfl rfl rfl rfl _ _
  have hto : To P st g w st' g' w' := ⟨hle, hs0.trans hs (Nat.le_refl _) hle.next⟩
  exact hQ a' w' g' (hI.to hto henv (by rw [hsz, hI.size]) hdf) hto
 ·have : (List.range ops.size).countP (fun i => !(Array.replicate ops.size false).getD i false) = (List.range ops.size).length := List.countP_eq_length.2 fun i _ => by rw [hrep]; rfl
  rw [this, List.length_range]
 ·refine ⟨Nat.zero_le _, fun h => by omega, fun {k d} _ _ q => absurd q (hnot _), fun i o j q => absurd q (hnot _), fun i o hl => ?_, fun i q1 q2 q3 => ?_, fun {k d t} _ q => absurd q (hnot _), fun t _ => by rw [a2]; exact hI.env t, hI.size, rfl, ?_⟩
  ·rw [a1]
   exact ⟨.inl, fun q => q.elim (fun x => x) fun ⟨k, d, _, _, q, _⟩ => absurd q (hnot _)⟩
  ·rw [a1] at q1
   exact absurd (hI.base.fresh i q1 q2) q3
  ·rw [a1]; exact Step.refl (w := { w with drawn := w.drawn + 1 }) hI.base.rl _ _
theorem goes_told {P : Program} (hm : P.follows .mixedOrders = true) {Γ : Funs} (hΓ : Told P Γ) (n : Nat) : Goes P (ctxOf (runT Γ n) n) := goes hΓ (fun _ h => draw_ok hm h) n
end Go.AM
set_option linter.unusedVariables false
namespace Go.AM
open Go.RowKit Go.ChangeShapes Go.WideShapes Go.ChangeAt
def st0 (N : Nat) : St := ⟨.nil, N, N⟩
def isTrue : Res (Value × St) → Bool
 | .ok (.bool true, _) => true
 | _ => false
section
variable {H : Type} {enc : TypeId × Value → H} {P : Program}
theorem post_below {f : Func} {s : ChangeSpec} {apart fresh handsOn again : Bool} {W W' : World} {args : Array Value} {v : Value} {ds gs : List (DataW H)} {before pa pv : List MemPlace}
 (hW : DataW.Whole enc P f.params.toList s.vars apart W args.toList ds gs before)
 (hres : ∀ (b : Nat) (sp : Nat → Bool) (hd : Bool), DataW.TrodAll enc P W' b sp hd f.resultTypes.toList (v.resultList f.resultTypes.size) (s.fn H (ds ++ gs)).results [])
 (hargs : ∀ sp : Nat → Bool, (∀ p ∈ before, sp p.block = true) → DataW.TrodAll enc P W' 0 sp true f.params.toList args.toList (s.fn H (ds ++ gs)).args pa)
 (hvars : ∀ sp : Nat → Bool, (∀ p ∈ before, sp p.block = true) → DataW.TrodVars enc P W' sp s.vars (s.fn H (ds ++ gs)).vars pv)
 (hps : before = pa ++ pv) (hB : Below W.heap.size W W')
 (hok : ∀ (j : Nat) (t : TypeId) (r : Value), f.resultTypes[j]? = some t → (v.resultList f.resultTypes.size)[j]? = some r → Value.okWide P W' .any 0 t r) :
 s.post enc P f apart fresh handsOn again W args v W' := by
 have hlt := fun p hp => hW.lt p hp
 refine ⟨ds, gs, before, [], pa, pv, hW, hres _ _ _, hargs _ (fun p hp => by simpa using hlt p hp), hvars _ (fun p hp => by simpa using hlt p hp), World.keptBut_mono (fun p hp => ⟨hp, .inr (by rw [hps, List.mem_append] at hp; exact hp)⟩) (hB.frame _), fun _ => ?_⟩
 obtain ⟨_, _, _, _, _, hz, hn⟩ := hW
 refine ⟨hok, _, _, ([] ++ pa) ++ pv, ⟨[] ++ pa, pv, trodAll_append (hargs _ (fun _ _ => rfl)) (hres _ _ _), hvars _ (fun _ _ => rfl), rfl, fun b off hp => ?_, fun ha => ?_⟩, fun p hp _ => ?_⟩
 ·have hp : MemPlace.cell b off ∈ before := by rw [hps]; simpa using hp
  rw [hB.frozen (hlt _ hp)]
  exact hz b off hp
 ·simpa [hps] using hn ha
 ·simpa [hps] using hp
end
end Go.AM
set_option linter.unusedVariables false
namespace Go.AM
open Classical in
noncomputable def lim {α : Type} (φ : Nat → Res α) : Res α := if h : ∃ a, ∃ N, ∀ n, N ≤ n → φ n = .ok a then .ok h.choose else .err "no end"
theorem lim_ok {α : Type} {φ : Nat → Res α} {a : α} : lim φ = .ok a ↔ ∃ N, ∀ n, N ≤ n → φ n = .ok a := by
 unfold lim
 split
 ·rename_i h
  obtain ⟨N, hN⟩ := h.choose_spec
  constructor
  ·intro e; cases e; exact ⟨N, hN⟩
  ·rintro ⟨M, hM⟩
   have h1 := hN (max N M) (Nat.le_max_left _ _)
   rw [hM _ (Nat.le_max_right _ _)] at h1
   exact h1.symm
 ·rename_i h
  constructor
  ·intro e; cases e
  ·intro h1; exact absurd ⟨a, h1⟩ h
noncomputable def ctxL (Γ : Funs) : Ctx := ⟨fun t st => lim fun n => runT Γ n t st, fun f e st => lim fun n => iterC f n e st⟩
def ctxN (Γ : Funs) (n : Nat) : Ctx := ctxOf (runT Γ n) n
section
variable {Γ : Funs} {α : Type}
def Late (p : Nat → Prop) : Prop := ∃ N, ∀ n, N ≤ n → p n
theorem Late.of {p : Nat → Prop} (h : ∀ n, p n) : Late p := ⟨0, fun n _ => h n⟩
theorem Late.and {p q : Nat → Prop} (h : Late p) (k : Late q) : Late fun n => p n ∧ q n := by
 obtain ⟨N, hN⟩ := h
 obtain ⟨M, hM⟩ := k
 exact ⟨max N M, fun n hn => ⟨hN n (Nat.le_trans (Nat.le_max_left _ _) hn), hM n (Nat.le_trans (Nat.le_max_right _ _) hn)⟩⟩
theorem Late.mono {p q : Nat → Prop} (h : Late p) (k : ∀ n, p n → q n) : Late q := h.imp fun N hN n hn => k n (hN n hn)
theorem late_oper {st st' : St} {ρ : Operand → Value} {o : AOp} {v : Value} (h : AOper.run (ctxL Γ) st ρ o = .ok (v, st')) : Late fun n => AOper.run (ctxN Γ n) st ρ o = .ok (v, st') := by
 cases o
 case call f args =>
  simp only [AOper.run, Res.bind_eq_ok] at h ⊢
  obtain ⟨t, ht, h⟩ := h
  exact (show Late _ from lim_ok.1 h).mono fun n hn => ⟨t, ht, hn⟩
 all_goals exact .of fun n => h
theorem late_ops : ∀ (l : List AOper) {e e' : Env} {st st' : St}, opsC (ctxL Γ) l e st = .ok (e', st') → Late fun n => opsC (ctxN Γ n) l e st = .ok (e', st') := by
 intro l
 induction l with
 | nil => intro e e' st st' h; exact .of fun n => h
 | cons o l ih =>
   intro e e' st st' h
   simp only [opsC, Res.bind_eq_ok] at h ⊢
   obtain ⟨b, hb, h⟩ := h
   cases b with
   | true =>
     simp only [if_true, Res.bind_eq_ok] at h
     obtain ⟨⟨v, st1⟩, h1, h⟩ := h
     exact ((late_oper h1).and (ih h)).mono fun n hn => ⟨true, hb, by simp only [if_true, Res.bind_eq_ok]; exact ⟨_, hn.1, hn.2⟩⟩
   | false => exact (ih (by simpa using h)).mono fun n hn => ⟨false, hb, by simpa using hn⟩
theorem late_draw : ∀ (l : List DOper) {sn : List St} {base : Nat} {e e' : Env} {st st' : St}, drawC (ctxL Γ) l sn base e st = .ok (e', st') → Late fun n => drawC (ctxN Γ n) l sn base e st = .ok (e', st') := by
 intro l
 induction l with
 | nil => intro sn base e e' st st' h; exact .of fun n => h
 | cons o l ih =>
   intro sn base e e' st st' h
   simp only [drawC, Res.bind_eq_ok] at h ⊢
   obtain ⟨b, hb, h⟩ := h
   cases b with
   | true =>
     simp only [if_true, Res.bind_eq_ok] at h
     obtain ⟨⟨v, st1⟩, h1, h⟩ := h
     cases hw : o.writes with
     | true =>
       simp only [hw, if_true] at h
       exact ((late_oper h1).and (ih h)).mono fun n hn => ⟨true, hb, by simp only [if_true, Res.bind_eq_ok]; exact ⟨_, hn.1, by simpa using hn.2⟩⟩
     | false =>
       simp only [hw, Bool.false_eq_true, if_false, Res.bind_eq_ok] at h
       obtain ⟨u, hu, h⟩ := h
       exact ((late_oper h1).and (ih h)).mono fun n hn => ⟨true, hb, by
        simp only [if_true, Res.bind_eq_ok]
        exact ⟨_, hn.1, by simp only [Bool.false_eq_true, if_false, Res.bind_eq_ok]; exact ⟨u, hu, hn.2⟩⟩⟩
   | false => exact (ih (by simpa using h)).mono fun n hn => ⟨false, hb, by simpa using hn⟩
theorem late_iter {F : Ctx → Env → St → Res (AExit × Env × St)} (hF : ∀ {e st r}, F (ctxL Γ) e st = .ok r → Late fun n => F (ctxN Γ n) e st = .ok r) :
 ∀ (m : Nat) {e : Env} {st : St} {r : AExit × Env × St}, iterC (F (ctxL Γ)) m e st = .ok r → Late fun n => ∀ k, m ≤ k → iterC (F (ctxN Γ n)) k e st = .ok r := by
 intro m
 induction m with
 | zero => intro e st r h; simp [iterC] at h
 | succ m ih =>
   intro e st r h
   simp only [iterC, Res.bind_eq_ok] at h
   obtain ⟨⟨x, e1, st1⟩, h1, h⟩ := h
   have h1 := hF h1
   cases x with
   | normal =>
     refine (h1.and (ih h)).mono fun n hn k hk => ?_
     obtain ⟨k, rfl⟩ : ∃ j, k = j + 1 := ⟨k - 1, by omega⟩
     simp only [iterC, hn.1, Res.bind_ok]
     exact hn.2 k (by omega)
   | exit id =>
     cases h
     refine h1.mono fun n hn k hk => ?_
     obtain ⟨k, rfl⟩ : ∃ j, k = j + 1 := ⟨k - 1, by omega⟩
     simp only [iterC, hn, Res.bind_ok, Res.pure_eq]
   | ret =>
     cases h
     refine h1.mono fun n hn k hk => ?_
     obtain ⟨k, rfl⟩ : ∃ j, k = j + 1 := ⟨k - 1, by omega⟩
     simp only [iterC, hn, Res.bind_ok, Res.pure_eq]
theorem late_code : ∀ (c : ACode) {e : Env} {st : St} {r : AExit × Env × St}, codeC (ctxL Γ) c e st = .ok r → Late fun n => codeC (ctxN Γ n) c e st = .ok r := by
 intro c
 induction c with
 | skip => intro e st r h; exact .of fun n => h
 | ops l =>
   intro e st r h
   simp only [codeC, Res.bind_eq_ok] at h ⊢
   obtain ⟨⟨e1, st1⟩, h1, h⟩ := h
   exact (late_ops l h1).mono fun n hn => ⟨_, hn, h⟩
 | draw l =>
   intro e st r h
   simp only [codeC, Res.bind_eq_ok] at h ⊢
   obtain ⟨⟨e1, st1⟩, h1, h⟩ := h
   exact (late_draw l h1).mono fun n hn => ⟨_, hn, h⟩
 | seq a b iha ihb =>
   intro e st r h
   simp only [codeC, Res.bind_eq_ok] at h ⊢
   obtain ⟨⟨x, e1, st1⟩, h1, h⟩ := h
   cases x with
   | normal => exact ((iha h1).and (ihb h)).mono fun n hn => ⟨_, hn.1, hn.2⟩
   | exit id => exact (iha h1).mono fun n hn => ⟨_, hn, h⟩
   | ret => exact (iha h1).mono fun n hn => ⟨_, hn, h⟩
 | cond c a b iha ihb =>
   intro e st r h
   simp only [codeC] at h ⊢
   split at h
   ·exact (iha h).mono fun n hn => by simpa using hn
   ·exact (ihb h).mono fun n hn => by simpa using hn
   ·cases h
 | block id b ihb =>
   intro e st r h
   simp only [codeC, Res.bind_eq_ok] at h ⊢
   obtain ⟨⟨x, e1, st1⟩, h1, h⟩ := h
   cases x with
   | normal => exact (ihb h1).mono fun n hn => ⟨_, hn, h⟩
   | exit id => exact (ihb h1).mono fun n hn => ⟨_, hn, h⟩
   | ret => exact (ihb h1).mono fun n hn => ⟨_, hn, h⟩
 | loop b ihb =>
   intro e st r h
   obtain ⟨N, hN⟩ := lim_ok.1 h
   have := late_iter (F := fun K => codeC K b) (fun {e st r} h => ihb h) N (hN N (Nat.le_refl _))
   exact (this.and (show Late fun n => N ≤ n from ⟨N, fun n h => h⟩)).mono fun n hn => hn.1 n hn.2
 | range f ps a b =>
   intro e st r h
   simp only [codeC, Res.bind_eq_ok] at h ⊢
   obtain ⟨t, ht, u, hu, ⟨v, st1⟩, h1, h⟩ := h
   exact (show Late _ from lim_ok.1 h1).mono fun n hn => ⟨t, ht, u, hu, _, hn, h⟩
 | exit id => intro e st r h; exact .of fun n => h
 | ret => intro e st r h; exact .of fun n => h
 | keep l => intro e st r h; exact .of fun n => h
end
structure Fix (Γ : Funs) (K : Ctx) : Prop where
 call : ∀ {f fn args st x e st1 vs}, Γ f = some fn → args.length ≤ fn.ntmps → codeC K fn.body (start args) st = .ok (x, e, st1) → (∀ id, x ≠ .exit id) → resultsC e st1 fn.results = .ok vs →
  K.go (.call f args) st = .ok (oneOf vs, st1)
 round : ∀ {l args st e ps as bd s pd e1 st1 e2 ps2 as2 bd2 pd2 x e3 st3 e4 ps4 as4 bd4 s4 pd4}, st.get l = some (.loop e ps as bd s pd) → args.length = ps.length → st.ro ≤ l →
  codeC K as (putL e ps args) st = .ok (.normal, e1, st1) → st1.get l = some (.loop e2 ps2 as2 bd2 .ready pd2) →
  codeC K bd e1 (st1.put l (.loop e2 ps2 as2 bd2 .busy pd2)) = .ok (x, e3, st3) → st3.get l = some (.loop e4 ps4 as4 bd4 s4 pd4) →
  K.go (.round l args) st = .ok (match x with | .normal => (.bool true, st3.put l (.loop e4 ps4 as4 bd4 .ready .normal)) | x => (.bool false, st3.put l (.loop e4 ps4 as4 bd4 .done x)))
 loop : ∀ {f e st r}, f e st = .ok r → (∀ e' st', r = (.normal, e', st') → ∀ r', K.loop f e' st' = .ok r' → K.loop f e st = .ok r') ∧ (r.1 ≠ .normal → K.loop f e st = .ok r)
theorem fix_lim (Γ : Funs) : Fix Γ (ctxL Γ) where
 call := by
  intro f fn args st x e st1 vs hf hl h hx hv
  refine lim_ok.2 ?_
  obtain ⟨N, hN⟩ := late_code _ h
  refine ⟨N + 1, fun n hn => ?_⟩
  obtain ⟨n, rfl⟩ : ∃ j, n = j + 1 := ⟨n - 1, by omega⟩
  have h1 := hN n (by omega)
  simp only [ctxN] at h1
  simp only [runT, hf, Res.of_some, Res.bind_ok, h1, show Res.need (decide (args.length ≤ fn.ntmps)) "too many arguments" = .ok () by simp [Res.need, hl]]
  cases x with
  | exit id => exact absurd rfl (hx id)
  | normal => simp [hv]
  | ret => simp [hv]
 round := by
  intro l args st e ps as bd s pd e1 st1 e2 ps2 as2 bd2 pd2 x e3 st3 e4 ps4 as4 bd4 s4 pd4 h0 hl hro h1 h2 h3 h4
  refine lim_ok.2 ?_
  obtain ⟨N, hN⟩ := (late_code _ h1).and (late_code _ h3)
  refine ⟨N + 1, fun n hn => ?_⟩
  obtain ⟨n, rfl⟩ : ∃ j, n = j + 1 := ⟨n - 1, by omega⟩
  obtain ⟨k1, k3⟩ := hN n (by omega)
  simp only [ctxN] at k1 k3
  simp only [runT, h0, Res.bind_ok, show Res.need (decide (args.length = ps.length)) "yield: arguments" = .ok () by simp [Res.need, hl],
   show Res.need (decide (st.ro ≤ l)) "yield: what came in" = .ok () by simp [Res.need, hro], k1, h2, k3, h4]
  cases x <;> rfl
 loop := by
  intro f e st r h
  refine ⟨fun e' st' hr r' hr' => ?_, fun hr => ?_⟩
  ·subst hr
   obtain ⟨N, hN⟩ := lim_ok.1 hr'
   refine lim_ok.2 ⟨N + 1, fun n hn => ?_⟩
   obtain ⟨n, rfl⟩ : ∃ j, n = j + 1 := ⟨n - 1, by omega⟩
   simp only [iterC, h, Res.bind_ok]
   exact hN n (by omega)
  ·refine lim_ok.2 ⟨1, fun n hn => ?_⟩
   obtain ⟨n, rfl⟩ : ∃ j, n = j + 1 := ⟨n - 1, by omega⟩
   obtain ⟨x, e', st'⟩ := r
   cases x with
   | normal => exact absurd rfl hr
   | exit id => simp [iterC, h]
   | ret => simp [iterC, h]
theorem run_lim {Γ : Funs} {t : Task} {st : St} {r : Value × St} (h : (ctxL Γ).go t st = .ok r) : ∃ n, runT Γ n t st = .ok r := by
 obtain ⟨N, hN⟩ := lim_ok.1 h
 exact ⟨N, hN N (Nat.le_refl _)⟩
def Ok {α : Type} (x : Res α) (Q : α → Prop) : Prop := ∃ a, x = .ok a ∧ Q a
section
variable {α β : Type}
theorem ok_ok {a : α} {Q : α → Prop} : Ok (.ok a) Q ↔ Q a := ⟨(fun ⟨_, h, hq⟩ => by cases h; exact hq), fun h => ⟨a, rfl, h⟩⟩
theorem ok_err {s : String} {Q : α → Prop} : Ok (.err s : Res α) Q ↔ False := ⟨(fun ⟨_, h, _⟩ => by cases h), False.elim⟩
theorem ok_bind {x : Res α} {f : α → Res β} {Q : β → Prop} : Ok (x >>= f) Q ↔ Ok x fun a => Ok (f a) Q := by
 cases x with
 | ok a => simp only [Res.bind_ok, ok_ok]
 | err s => simp only [Res.bind_err, ok_err]
theorem Ok.mono {x : Res α} {Q R : α → Prop} (h : Ok x Q) (k : ∀ a, Q a → R a) : Ok x R := by
 obtain ⟨a, h1, h2⟩ := h
 exact ⟨a, h1, k a h2⟩
theorem Ok.bind {x : Res α} {f : α → Res β} {Q : α → Prop} {R : β → Prop} (h : Ok x Q) (k : ∀ a, Q a → Ok (f a) R) : Ok (x >>= f) R := ok_bind.2 (h.mono k)
end
def condX {R : Type} (v : Value) (a b : Res R) : Res R := match v with | .bool c => bif c then a else b | _ => .err "cond"
section
variable {R : Type}
def withAt (k : Value → R) : Env → Tmp → R
 | [], _ => k nothing
 | (u, v) :: l, t => bif Nat.beq u t then k v else withAt k l t
def withOp (e : Env) (k : Value → R) : Operand → R
 | .tmp t => withAt k e t
 | .const v => bif constOk v then k v else k nothing
 | .global g => k (.pointer (some ⟨g, 0, none⟩))
 | .func f => k (.func (.func f) #[] #[])
def withOps (e : Env) : (List Value → R) → List Operand → R
 | k, [] => k []
 | k, x :: l => withOp e (fun v => withOps e (fun vs => k (v :: vs)) l) x
def keepX (e : Env) : (Env → R) → List Tmp → R
 | k, [] => k []
 | k, t :: l => withAt (fun v => keepX e (fun e' => k ((t, v) :: e')) l) e t
theorem withAt_eq (k : Value → R) : ∀ (e : Env) (t : Tmp), withAt k e t = k (e.at t) := by
 intro e
 induction e with
 | nil => intro t; rfl
 | cons x l ih =>
   intro t
   obtain ⟨u, v⟩ := x
   simp only [withAt, Env.at]
   cases Nat.beq u t
   ·exact ih t
   ·rfl
theorem withOp_eq (e : Env) (k : Value → R) (x : Operand) : withOp e k x = k (e.ev x) := by
 cases x with
 | tmp t => exact withAt_eq k e t
 | const v => simp only [withOp, Env.ev]; cases constOk v <;> rfl
 | global g => rfl
 | func f => rfl
theorem withOps_eq (e : Env) : ∀ (l : List Operand) (k : List Value → R), withOps e k l = k (l.map e.ev) := by
 intro l
 induction l with
 | nil => intro k; rfl
 | cons x l ih => intro k; simp only [withOps, withOp_eq, ih, List.map_cons]
theorem keepX_eq (e : Env) : ∀ (l : List Tmp) (k : Env → R), keepX e k l = k (e.keep l) := by
 intro l
 induction l with
 | nil => intro k; rfl
 | cons t l ih => intro k; simp only [keepX, withAt_eq, ih, Env.keep, Env.set]
def _root_.Go.AM.Res.thn {α β : Type} (st : St) (x : Res α) (f : α → Res β) : Res β := match st.ro with | 0 => x >>= f | _ + 1 => x >>= f
theorem _root_.Go.AM.thn_eq {α β : Type} (st : St) (x : Res α) (f : α → Res β) : Res.thn st x f = x >>= f := by unfold Res.thn; split <;> rfl
def operX (K : Ctx) (k : Value → St → Res R) (e : Env) (st : St) : AOp → Res R
 | .mv x => withOp e (fun v => k v st) x
 | .iface t x => withOp e (fun v => k (.iface t v) st) x
 | .fn f a b => withOps e (fun va => withOps e (fun vb => k (.func (.func f) va.toArray vb.toArray) st) b) a
 | o => Res.thn st (AOper.run K st e.ev o) fun p => k p.1 p.2
theorem operX_eq (K : Ctx) (k : Value → St → Res R) (e : Env) (st : St) (o : AOp) : operX K k e st o = AOper.run K st e.ev o >>= fun p => k p.1 p.2 := by
 cases o with
 | mv x => simp only [operX, withOp_eq]; rfl
 | iface t x => simp only [operX, withOp_eq]; rfl
 | fn f a b => simp only [operX, withOps_eq]; rfl
 | _ => simp only [operX, thn_eq]
end
section
variable {R : Type} (K : Ctx)
def opsX (k : Env → St → Res R) : List AOper → Env → St → Res R
 | [], e, st => k e st
 | o :: l, e, st =>
   match o.guard with
   | none => operX K (fun v st' => opsX k l (e.put o.dst v) st') e st o.op
   | some g => Res.thn st (wants e (some g) >>= fun b => bif b then AOper.run K st e.ev o.op else .ok (skipped, st)) fun p => opsX k l (e.put o.dst p.1) p.2
def drawX (k : Env → St → Res R) : List DOper → List St → Nat → Env → St → Res R
 | [], _, _, e, st => k e st
 | d :: l, sn, base, e, st =>
   match d.o.guard, d.writes with
   | none, true => Res.thn st (AOper.run K st e.ev d.o.op) fun p => drawX k l (st :: sn) p.2.next (e.put d.o.dst p.1) p.2
   | none, false => operX K (fun v st' => Res.need (Nat.beq d.back 0 || stays (sn.take d.back) base e.ev d.o.op v) "order" >>= fun _ => drawX k l sn base (e.put d.o.dst v) st') e st d.o.op
   | some g, true => Res.thn st (wants e (some g) >>= fun b => bif b then (AOper.run K st e.ev d.o.op >>= fun p => Res.ok (p.1, p.2, st :: sn, p.2.next)) else Res.ok (skipped, st, sn, base)) fun q => drawX k l q.2.2.1 q.2.2.2 (e.put d.o.dst q.1) q.2.1
   | some g, false => Res.thn st (wants e (some g) >>= fun b => bif b then (AOper.run K st e.ev d.o.op >>= fun p => Res.need (Nat.beq d.back 0 || stays (sn.take d.back) base e.ev d.o.op p.1) "order" >>= fun _ => .ok p) else .ok (skipped, st))
      fun p => drawX k l sn base (e.put d.o.dst p.1) p.2
def codeX : ACode → (AExit → Env → St → Res R) → Env → St → Res R
 | .skip, k => k .normal
 | .ops l, k => opsX K (k .normal) l
 | .draw l, k => fun e st => drawX K (k .normal) l [] st.next e st
 | .seq a b, k => codeX a fun x => match x with | .normal => codeX b k | x => k x
 | .cond c a b, k => fun e st => condX (e.ev c) (codeX a k e st) (codeX b k e st)
 | .block id b, k => codeX b fun x => match x with | .exit j => k (bif Nat.beq j id then .normal else .exit j) | x => k x
 | .loop b, k => fun e st => K.loop (codeC K b) e st >>= fun r => k r.1 r.2.1 r.2.2
 | .range f ps a b, k => fun e st =>
   taskOf (e.ev f) [.func (.yield st.next) #[] #[]] >>= fun t => Res.need t.isCall "range: no function" >>= fun _ => K.go t (st.alloc (.loop e ps a b .ready .normal)) >>= fun p =>
   match p.2.get st.next with
   | some (.loop _ _ _ _ state pend) => Res.need (state != .busy) "range" >>= fun _ => k pend e (p.2.put st.next .dead)
   | _ => .err "range: the loop is gone"
 | .exit id, k => k (.exit id)
 | .ret, k => k .ret
 | .keep l, k => fun e st => keepX e (fun e' => k .normal e' st) l
inductive Frame where
 | seq (b : ACode)
 | block (id : Nat)
 | loop (b : ACode)
def kOf (k : AExit → Env → St → Res R) : List Frame → AExit → Env → St → Res R
 | [] => k
 | .seq b :: ks => fun x => match x with | .normal => codeX K b (kOf k ks) | x => kOf k ks x
 | .block id :: ks => fun x => match x with | .exit j => kOf k ks (bif Nat.beq j id then .normal else .exit j) | x => kOf k ks x
 | .loop b :: ks => fun x => match x with | .normal => (fun e st => K.loop (codeC K b) e st >>= fun r => kOf k ks r.1 r.2.1 r.2.2) | x => kOf k ks x
end
def posC : ACode → List Nat → ACode
 | c, [] => c
 | .seq a _, 0 :: p => posC a p
 | .seq _ b, _ :: p => posC b p
 | .cond _ a _, 0 :: p => posC a p
 | .cond _ _ b, _ :: p => posC b p
 | .block _ b, _ :: p => posC b p
 | .loop b, _ :: p => posC b p
 | .range _ _ a _, 0 :: p => posC a p
 | .range _ _ _ b, _ :: p => posC b p
 | c, _ => c
def posK : ACode → List Nat → List Frame → List Frame
 | _, [], ks => ks
 | .seq a b, 0 :: p, ks => posK a p (.seq b :: ks)
 | .seq _ b, _ :: p, ks => posK b p ks
 | .cond _ a _, 0 :: p, ks => posK a p ks
 | .cond _ _ b, _ :: p, ks => posK b p ks
 | .block id b, _ :: p, ks => posK b p (.block id :: ks)
 | .loop b, _ :: p, ks => posK b p (.loop b :: ks)
 | .range _ _ a _, 0 :: p, _ => posK a p []
 | .range _ _ _ b, _ :: p, _ => posK b p []
 | _, _, ks => ks
abbrev envT (l : List (Nat × Value)) : Env := l
def retK (rs : List ARes) : AExit → Env → St → Res (Value × St)
 | .exit _, _, _ => .err "exit: no such block"
 | _, e, st => resultsC e st rs >>= fun vs => .ok (oneOf vs, st)
section
variable {R : Type} (K : Ctx) (J : List Frame → Env → St → Res R) (fin : AExit → Env → St → Res R)
def codeJ : ACode → (AExit → Env → St → Res R) → List Frame → Env → St → Res R
 | .skip, k, _ => k .normal
 | .ops l, k, _ => opsX K (k .normal) l
 | .draw l, k, _ => fun e st => drawX K (k .normal) l [] st.next e st
 | .seq a b, k, ks =>
   match a, b with
   | .keep l, .loop c => fun e st => keepX e (fun e' => J (.loop c :: ks) e' st) l
   | a', b' => codeJ a (fun x => match x with | .normal => codeJ b k ks | x => k x) (.seq b :: ks)
 | .cond c a b, k, ks => fun e st => condX (e.ev c) (codeJ a k ks e st) (codeJ b k ks e st)
 | .block id b, k, ks => codeJ b (fun x => match x with | .exit j => k (bif Nat.beq j id then .normal else .exit j) | x => k x) (.block id :: ks)
 | .loop b, _, ks => fun e st => J (.loop b :: ks) e st
 | .range f ps a b, k, _ => fun e st =>
   taskOf (e.ev f) [.func (.yield st.next) #[] #[]] >>= fun t => Res.need t.isCall "range: no function" >>= fun _ => K.go t (st.alloc (.loop e ps a b .ready .normal)) >>= fun p =>
   match p.2.get st.next with
   | some (.loop _ _ _ _ state pend) => Res.need (state != .busy) "range" >>= fun _ => k pend e (p.2.put st.next .dead)
   | _ => .err "range: the loop is gone"
 | .exit id, k, _ => k (.exit id)
 | .ret, k, _ => k .ret
 | .keep l, _, ks => fun e st => keepX e (fun e' => J ks e' st) l
def kJ : List Frame → AExit → Env → St → Res R
 | [] => fin
 | .seq b :: ks => fun x => match x with | .normal => codeJ K J b (kJ ks) ks | x => kJ ks x
 | .block id :: ks => fun x => match x with | .exit j => kJ ks (bif Nat.beq j id then .normal else .exit j) | x => kJ ks x
 | .loop b :: ks => fun x => match x with | .normal => J (.loop b :: ks) | x => kJ ks x
end
def IsJ {R : Type} (K : Ctx) (fin : AExit → Env → St → Res R) (J : List Frame → Env → St → Res R) : Prop := ∀ ks e st, J ks e st = kOf K fin ks .normal e st
def atX (K : Ctx) (J : List Frame → Env → St → Res (Value × St)) (fn : AFun) (e : Env) (st : St) : Res (Value × St) := codeJ K J fn.body (retK fn.results) [] e st
def goX {R : Type} (J : List Frame → Env → St → Res R) (c : ACode) (p : List Nat) (e : Env) (st : St) : Res R := J (.seq (posC c p) :: posK c p []) e st
def onX {R : Type} (K : Ctx) (J : List Frame → Env → St → Res R) (fin : AExit → Env → St → Res R) (c : ACode) (p : List Nat) (e : Env) (st : St) : Res R :=
 codeJ K J (posC c p) (kJ K J fin (posK c p [])) (posK c p []) e st
section
variable {R : Type} {K : Ctx}
theorem opsX_eq (k : Env → St → Res R) : ∀ (l : List AOper) (e : Env) (st : St), opsX K k l e st = opsC K l e st >>= fun r => k r.1 r.2 := by
 intro l
 induction l with
 | nil => intro e st; rfl
 | cons o l ih =>
   intro e st
   obtain ⟨dst, guard, op⟩ := o
   cases guard with
   | none =>
     simp only [opsX, opsC, wants, thn_eq, Res.bind_ok, if_true, operX_eq]
     cases AOper.run K st e.ev op with
     | err s => rfl
     | ok p => simp only [Res.bind_ok]; exact ih _ _
   | some g =>
     simp only [opsX, opsC, thn_eq]
     cases wants e (some g) with
     | err s => rfl
     | ok b =>
       simp only [Res.bind_ok]
       cases b with
       | false => simp only [cond_false, Res.bind_ok, Bool.false_eq_true, if_false]; exact ih _ _
       | true =>
         simp only [cond_true, if_true]
         cases AOper.run K st e.ev op with
         | err s => rfl
         | ok p => simp only [Res.bind_ok]; exact ih _ _
theorem drawX_eq (k : Env → St → Res R) : ∀ (l : List DOper) (sn : List St) (base : Nat) (e : Env) (st : St), drawX K k l sn base e st = drawC K l sn base e st >>= fun r => k r.1 r.2 := by
 intro l
 induction l with
 | nil => intro sn base e st; rfl
 | cons d l ih =>
   intro sn base e st
   obtain ⟨ix, back, writes, dst, guard, op⟩ := d
   have hb : Nat.beq back 0 = decide (back = 0) := by cases back <;> rfl
   cases guard with
   | none =>
     cases writes with
     | true =>
       simp only [drawX, drawC, wants, thn_eq, Res.bind_ok, if_true]
       cases AOper.run K st e.ev op with
       | err s => rfl
       | ok p => simp only [Res.bind_ok]; exact ih _ _ _ _
     | false =>
       simp only [drawX, drawC, wants, thn_eq, Res.bind_ok, if_true, Bool.false_eq_true, if_false, operX_eq]
       cases AOper.run K st e.ev op with
       | err s => rfl
       | ok p =>
         simp only [Res.bind_ok, hb]
         cases (Res.need (decide (back = 0) || stays (sn.take back) base e.ev op p.1) "order") with
         | err s => rfl
         | ok u => simp only [Res.bind_ok]; exact ih _ _ _ _
   | some g =>
     cases writes with
     | true =>
       simp only [drawX, drawC, thn_eq]
       cases wants e (some g) with
       | err s => rfl
       | ok b =>
         simp only [Res.bind_ok]
         cases b with
         | false => simp only [cond_false, Res.bind_ok, Bool.false_eq_true, if_false]; exact ih _ _ _ _
         | true =>
           simp only [cond_true, if_true]
           cases AOper.run K st e.ev op with
           | err s => rfl
           | ok p => simp only [Res.bind_ok]; exact ih _ _ _ _
     | false =>
       simp only [drawX, drawC, thn_eq]
       cases wants e (some g) with
       | err s => rfl
       | ok b =>
         simp only [Res.bind_ok]
         cases b with
         | false => simp only [cond_false, Res.bind_ok, Bool.false_eq_true, if_false]; exact ih _ _ _ _
         | true =>
           simp only [cond_true, if_true, Bool.false_eq_true, if_false]
           cases AOper.run K st e.ev op with
           | err s => rfl
           | ok p =>
             simp only [Res.bind_ok, hb]
             cases (Res.need (decide (back = 0) || stays (sn.take back) base e.ev op p.1) "order") with
             | err s => rfl
             | ok u => simp only [Res.bind_ok]; exact ih _ _ _ _
theorem codeX_eq : ∀ (c : ACode) (k : AExit → Env → St → Res R) (e : Env) (st : St), codeX K c k e st = codeC K c e st >>= fun r => k r.1 r.2.1 r.2.2 := by
 intro c
 induction c with
 | skip => intro k e st; rfl
 | ops l =>
   intro k e st
   simp only [codeX, codeC, opsX_eq]
   cases opsC K l e st <;> rfl
 | draw l =>
   intro k e st
   simp only [codeX, codeC, drawX_eq]
   cases drawC K l [] st.next e st <;> rfl
 | seq a b iha ihb =>
   intro k e st
   simp only [codeX, codeC, iha]
   cases codeC K a e st with
   | err s => rfl
   | ok r =>
     obtain ⟨x, e1, st1⟩ := r
     cases x with
     | normal => exact ihb _ _ _
     | exit id => rfl
     | ret => rfl
 | cond c a b iha ihb =>
   intro k e st
   simp only [codeX, codeC, condX, iha, ihb]
   split
   ·rename_i c' hc
    cases c' <;> simp [hc]
   ·rename_i hc
    split
    ·rename_i h; exact absurd h (hc true)
    ·rename_i h; exact absurd h (hc false)
    ·rfl
 | block id b ihb =>
   intro k e st
   simp only [codeX, codeC, ihb]
   cases codeC K b e st with
   | err s => rfl
   | ok r =>
     obtain ⟨x, e1, st1⟩ := r
     cases x with
     | normal => rfl
     | ret => rfl
     | exit j =>
       simp only [Res.bind_ok, Res.pure_eq]
       by_cases h : j = id
       ·subst h; simp
       ·have : Nat.beq j id = false := by
         cases hb : Nat.beq j id with
         | false => rfl
         | true => exact absurd (Nat.eq_of_beq_eq_true hb) h
        simp [h, this]
 | loop b ihb => intro k e st; rfl
 | range f ps a b =>
   intro k e st
   simp only [codeX, codeC]
   cases taskOf (e.ev f) [.func (.yield st.next) #[] #[]] with
   | err s => rfl
   | ok t =>
     simp only [Res.bind_ok]
     cases Res.need t.isCall "range: no function" with
     | err s => rfl
     | ok u =>
       simp only [Res.bind_ok]
       cases K.go t (st.alloc (.loop e ps a b .ready .normal)) with
       | err s => rfl
       | ok p =>
         simp only [Res.bind_ok]
         cases hg : p.2.get st.next with
         | none => rfl
         | some o =>
           cases o with
           | loop e2 ps2 a2 b2 s2 pd2 =>
             simp only []
             cases Res.need (s2 != LoopState.busy) "range" <;> rfl
           | _ => rfl
 | exit id => intro k e st; rfl
 | ret => intro k e st; rfl
 | keep l => intro k e st; exact keepX_eq e l _
theorem codeJ_eq {J : List Frame → Env → St → Res R} {fin : AExit → Env → St → Res R} (hJ : IsJ K fin J) : ∀ (c : ACode) {k : AExit → Env → St → Res R} {ks : List Frame} (hk : ∀ x e st, k x e st = kOf K fin ks x e st) (e : Env) (st : St),
 codeJ K J c k ks e st = codeC K c e st >>= fun r => kOf K fin ks r.1 r.2.1 r.2.2 := by
 intro c
 induction c with
 | skip => intro k ks hk e st; exact hk _ _ _
 | ops l =>
   intro k ks hk e st
   simp only [codeJ, codeC, opsX_eq]
   cases opsC K l e st with
   | err s => rfl
   | ok r => exact hk _ _ _
 | draw l =>
   intro k ks hk e st
   simp only [codeJ, codeC, drawX_eq]
   cases drawC K l [] st.next e st with
   | err s => rfl
   | ok r => exact hk _ _ _
 | seq a b iha ihb =>
   intro k ks hk e st
   have hk' : ∀ x e st, (match x with | .normal => codeJ K J b k ks | x => k x) e st = kOf K fin (.seq b :: ks) x e st := by
    intro x e st
    cases x with
    | normal => simp only [kOf]; rw [ihb hk, codeX_eq]
    | exit id => exact hk _ _ _
    | ret => exact hk _ _ _
   have main : codeJ K J a (fun x => match x with | .normal => codeJ K J b k ks | x => k x) (.seq b :: ks) e st = codeC K (.seq a b) e st >>= fun r => kOf K fin ks r.1 r.2.1 r.2.2 := by
    rw [iha hk']
    simp only [codeC]
    cases codeC K a e st with
    | err s => rfl
    | ok r =>
      obtain ⟨x, e1, st1⟩ := r
      cases x with
      | normal => simp only [Res.bind_ok, kOf, codeX_eq]
      | exit id => rfl
      | ret => rfl
   simp only [codeJ]
   split
   ·simp only [keepX_eq, codeC, Res.bind_ok]
    rw [hJ]; rfl
   ·exact main
 | cond c a b iha ihb =>
   intro k ks hk e st
   simp only [codeJ, codeC, condX, iha hk, ihb hk]
   split
   ·rename_i c' hc
    cases c' <;> simp [hc]
   ·rename_i hc
    split
    ·rename_i h; exact absurd h (hc true)
    ·rename_i h; exact absurd h (hc false)
    ·rfl
 | block id b ihb =>
   intro k ks hk e st
   have hk' : ∀ x e st, (match x with | .exit j => k (bif Nat.beq j id then .normal else .exit j) | x => k x) e st = kOf K fin (.block id :: ks) x e st := by
    intro x e st
    cases x <;> exact hk _ _ _
   simp only [codeJ, codeC]
   rw [ihb hk']
   cases codeC K b e st with
   | err s => rfl
   | ok r =>
     obtain ⟨x, e1, st1⟩ := r
     cases x with
     | normal => rfl
     | ret => rfl
     | exit j =>
       simp only [Res.bind_ok, Res.pure_eq, kOf]
       by_cases h : j = id
       ·subst h; simp
       ·simp [h, beq_false h]
 | loop b ihb =>
   intro k ks hk e st
   simp only [codeJ, codeC]
   rw [hJ]; rfl
 | range f ps a b =>
   intro k ks hk e st
   simp only [codeJ, codeC]
   cases taskOf (e.ev f) [.func (.yield st.next) #[] #[]] with
   | err s => rfl
   | ok t =>
     simp only [Res.bind_ok]
     cases Res.need t.isCall "range: no function" with
     | err s => rfl
     | ok u =>
       simp only [Res.bind_ok]
       cases K.go t (st.alloc (.loop e ps a b .ready .normal)) with
       | err s => rfl
       | ok p =>
         simp only [Res.bind_ok]
         cases hg : p.2.get st.next with
         | none => rfl
         | some o =>
           cases o with
           | loop e2 ps2 a2 b2 s2 pd2 =>
             simp only []
             cases Res.need (s2 != LoopState.busy) "range" with
             | err s => rfl
             | ok u => exact hk _ _ _
           | _ => rfl
 | exit id => intro k ks hk e st; exact hk _ _ _
 | ret => intro k ks hk e st; exact hk _ _ _
 | keep l => intro k ks hk e st; simp only [codeJ, keepX_eq]; rw [hJ]; rfl
theorem kJ_eq {J : List Frame → Env → St → Res R} {fin : AExit → Env → St → Res R} (hJ : IsJ K fin J) : ∀ (ks : List Frame) (x : AExit) (e : Env) (st : St), kJ K J fin ks x e st = kOf K fin ks x e st := by
 intro ks
 induction ks with
 | nil => intro x e st; rfl
 | cons f ks ih =>
   intro x e st
   cases f with
   | seq b =>
     cases x with
     | normal => simp only [kJ, kOf]; rw [codeJ_eq hJ b ih, codeX_eq]
     | exit id => exact ih _ _ _
     | ret => exact ih _ _ _
   | block id => cases x <;> exact ih _ _ _
   | loop b =>
     cases x with
     | normal => exact hJ _ _ _
     | exit id => exact ih _ _ _
     | ret => exact ih _ _ _
theorem go_eq {J : List Frame → Env → St → Res R} {fin : AExit → Env → St → Res R} (hJ : IsJ K fin J) (c : ACode) (p : List Nat) (e : Env) (st : St) : goX J c p e st = onX K J fin c p e st := by
 unfold goX onX
 rw [codeJ_eq hJ _ (kJ_eq hJ _), hJ]
 simp only [kOf, codeX_eq]
variable {Γ : Funs} {Q : Value × St → Prop}
theorem call_of (hF : Fix Γ K) {f : FuncId} {fn : AFun} {args : List Value} {st : St} (hf : Γ f = some fn) (hl : Nat.ble args.length fn.ntmps = true) (h : ∀ J, IsJ K (retK fn.results) J → Ok (atX K J fn (start args) st) Q) : Ok (K.go (.call f args) st) Q := by
 obtain ⟨r, h, hq⟩ := h (fun ks => kOf K (retK fn.results) ks .normal) (fun _ _ _ => rfl)
 unfold atX at h
 rw [codeJ_eq (fin := retK fn.results) (k := retK fn.results) (ks := []) (fun _ _ _ => rfl) fn.body (fun _ _ _ => rfl)] at h
 simp only [Res.bind_eq_ok] at h
 obtain ⟨⟨x, e, st1⟩, h1, h⟩ := h
 have hl : args.length ≤ fn.ntmps := Nat.le_of_ble_eq_true hl
 have hne : ∀ id, x ≠ .exit id := fun id e => by subst e; simp [kOf, retK] at h
 have hk : kOf K (retK fn.results) [] x e st1 = (resultsC e st1 fn.results >>= fun vs => .ok (oneOf vs, st1)) := by
  cases x with
  | exit id => exact absurd rfl (hne id)
  | normal => rfl
  | ret => rfl
 rw [hk, Res.bind_eq_ok] at h
 obtain ⟨vs, hvs, h⟩ := h
 cases h
 exact ⟨_, hF.call hf hl h1 hne hvs, hq⟩
end
end Go.AM
