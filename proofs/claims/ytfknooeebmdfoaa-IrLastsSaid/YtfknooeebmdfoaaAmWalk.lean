/-
  THE ABSTRACT MACHINE, 16: what holds between a state of the machine and a world, an activation; one operation, calls and all.
-/
import Derived.Test.YtfknooeebmdfoaaAmCode
import Derived.RangeFuncLeaves
set_option linter.unusedVariables false
set_option linter.unusedSimpArgs false
set_option linter.unnecessarySimpa false
namespace Go.AM

def Fr (fr : Option Nat) : Fence := { Fence.wide with round := fr }

structure Inv0 (P : Program) (hi : Nat) (st : St) (g : Ghost) (w : World) : Prop where
  rl : Rl P st.ro g st.get w.heap
  ro : st.ro ≤ st.next
  fresh : ∀ id, st.next ≤ id → id < hi → g id = none
  top : ∀ id o, st.get id = some o → o.live = true → id < st.next

structure To (P : Program) (st : St) (g : Ghost) (w : World) (st' : St) (g' : Ghost) (w' : World) : Prop where
  le : StLe st st'
  step : Step P st.ro g st.get w g' st'.get w' st.next st'.next

def Marks (b : Nat) (ds : List Deferred) (w : World) : Prop :=
  ∃ rs : List Nat, ds.map (·.target) = rs.map Target.collected ∧ rs.Nodup ∧ ∀ r ∈ rs, b ≤ r ∧ w.heap[r]? = some (.deferred (some []))

structure Inv (P : Program) (hi : Nat) (fr : Option Nat) (n b : Nat) (e : Env) (st : St) (g : Ghost) (a : Act) (w : World) : Prop where
  base : Inv0 P hi st g w
  env : EnvRel g e a.tmps
  size : a.tmps.size = n
  around : ∀ l, fr = some l → ∃ id G, id < st.next ∧ isLoop (st.get id) = true ∧ g id = some G ∧ G.blk = l
  low : b ≤ w.heap.size
  marks : Marks b a.defers w

section
variable {P : Program} {hi : Nat} {st st' st'' : St} {g g' g'' : Ghost} {w w' w'' : World}

theorem To.refl (h : Inv0 P hi st g w) : To P st g w st g w := ⟨.refl _, .refl h.rl _ _⟩
theorem To.trans (h : To P st g w st' g' w') (k : To P st' g' w' st'' g'' w'') : To P st g w st'' g'' w'' :=
  ⟨h.le.trans k.le, h.step.trans (h.le.ro ▸ k.step) h.le.next k.le.next⟩
theorem To.inv0 (h : To P st g w st' g' w') (k : Inv0 P hi st g w) : Inv0 P hi st' g' w' :=
  ⟨h.le.ro ▸ h.step.rl, by rw [h.le.ro]; exact Nat.le_trans k.ro h.le.next, fun id h1 h2 => by
    rw [h.step.only id (by omega)]; exact k.fresh id (Nat.le_trans h.le.next h1) h2, fun id o ho hl => by
    rcases h.le.alive id o ho hl with ⟨o0, h1, h2⟩ | h1
    · exact Nat.lt_of_lt_of_le (k.top id o0 h1 h2) h.le.next
    · exact h1.2⟩

theorem Inv0.mono {hi' : Nat} (h : Inv0 P hi st g w) (hh : hi' ≤ hi) : Inv0 P hi' st g w := ⟨h.rl, h.ro, fun id a b => h.fresh id a (Nat.lt_of_lt_of_le b hh), h.top⟩

theorem Inv0.deferred (h : Inv0 P hi st g w) {r : Nat} {ds : Option (List Deferred)} (hr : w.heap[r]? = some (.deferred ds)) {id : Nat} {o : AObj} {G : Gh} (ho : st.get id = some o) (hl : o.live = true) (hG : g id = some G) : G.blk ≠ r := by
  intro e
  obtain ⟨G', hG', hok⟩ := h.rl.obj id o ho hl
  rw [hG] at hG'; cases hG'
  subst e
  cases o with
  | cells xs => obtain ⟨_, _, _, h1, _⟩ := hok; rw [hr] at h1; cases h1
  | map es => obtain ⟨_, _, h1, _⟩ := hok; rw [hr] at h1; cases h1
  | strIter s pos => have h1 := hok.1; rw [hr] at h1; cases h1
  | loop e ps as bd s pd => obtain ⟨_, h1, _⟩ := hok; rw [hr] at h1; cases h1
  | dead => simp [AObj.live] at hl

theorem Inv0.notOwned (h : Inv0 P hi st g w) {r : Nat} {ds : Option (List Deferred)} (hr : w.heap[r]? = some (.deferred ds)) : ¬ Owned st.ro g st.get r := by
  rintro ⟨id, o, G, ho, hl, _, hG, e⟩
  exact h.deferred hr ho hl hG e

theorem To.deferred (h : To P st g w st' g' w') (k : Inv0 P hi st g w) {r : Nat} {ds : Option (List Deferred)} (hr : w.heap[r]? = some (.deferred ds)) : w'.heap[r]? = some (.deferred ds) := by
  rw [h.step.frame r (Array.getElem?_eq_some_iff.1 hr).1 (k.notOwned hr)]; exact hr

theorem Marks.to {b : Nat} {ds : List Deferred} (m : Marks b ds w) (h : To P st g w st' g' w') (k : Inv0 P hi st g w) : Marks b ds w' := by
  obtain ⟨rs, h1, h2, h3⟩ := m
  exact ⟨rs, h1, h2, fun r hr => ⟨(h3 r hr).1, h.deferred k (h3 r hr).2⟩⟩

theorem Inv.to {fr : Option Nat} {n b : Nat} {e e' : Env} {a a' : Act} (h : Inv P hi fr n b e st g a w) (k : To P st g w st' g' w') (henv : EnvRel g' e' a'.tmps) (hs : a'.tmps.size = a.tmps.size) (hd : a'.defers = a.defers) : Inv P hi fr n b e' st' g' a' w' where
  base := k.inv0 h.base
  env := henv
  size := hs.trans h.size
  around := fun l hl => by
    obtain ⟨id, G, h1, h2, h3, h4⟩ := h.around l hl
    exact ⟨id, G, Nat.lt_of_lt_of_le h1 k.le.next, k.le.loops id h1 h2, k.step.ext _ _ h3, h4⟩
  low := Nat.le_trans h.low k.step.size
  marks := by rw [hd]; exact h.marks.to k h.base

/-! ### Operands, slots, guards -/

theorem cellConst_rel (g : Ghost) {v : Value} (h : cellConst v = true) : Rel g v v := by
  unfold cellConst at h
  split at h
  · rename_i a n c
    simp only [Bool.and_eq_true, beq_iff_eq, Option.isNone_iff_eq_none] at h
    obtain ⟨⟨rfl, rfl⟩, rfl⟩ := h
    exact .nilSlice 0
  · exact .flat h

theorem constOk_rel (g : Ghost) {v : Value} (h : constOk v = true) : Rel g v v := by
  unfold constOk at h
  split at h
  · rename_i cs
    have : cs = #[] := by simpa using h
    subst this
    exact .nothing _
  · rename_i cs
    have h' : ∀ x ∈ cs.toList, cellConst x = true := List.all_eq_true.1 h
    exact .agg rfl fun i h1 h2 => cellConst_rel g (h' _ (by simp))
  · exact cellConst_rel g h

theorem ev_rel' {e : Env} {a : Act} {x : Operand} (hg : ∀ i, i < P.globals.size → ∃ G, g i = some G ∧ G.blk = i ∧ G.off = 0) (he : ∀ t, x = .tmp t → Rel g (e.at t) (a.tmps.getD t undef)) (hx : opdOk P x = true) : Rel g (e.ev x) (a.eval x) := by
  cases x with
  | tmp t => exact he t rfl
  | const v =>
    simp only [Env.ev, Act.eval]
    split
    · rename_i hc; exact constOk_rel g hc
    · exact .nothing _
  | global i =>
    simp only [opdOk, decide_eq_true_eq] at hx
    obtain ⟨G, h1, h2, h3⟩ := hg i hx
    have := Rel.ptr (g := g) (o := 0) h1
    rw [h2, h3] at this
    exact this
  | func f => exact .func rfl rfl (fun i h1 => by simp at h1) (fun i h1 => by simp at h1)

theorem ev_rel {e : Env} {a : Act} (h : Inv0 P hi st g w) (he : EnvRel g e a.tmps) {x : Operand} (hx : opdOk P x = true) : Rel g (e.ev x) (a.eval x) :=
  ev_rel' h.rl.glob (fun t _ => he t) hx

theorem put_size (a : Act) (d : Option Tmp) (v : Value) : (a.put d v).tmps.size = a.tmps.size := by
  cases d <;> simp [Act.put]
theorem put_defers (a : Act) (d : Option Tmp) (v : Value) : (a.put d v).defers = a.defers := by
  cases d <;> simp [Act.put]

theorem put_rel {e : Env} {a : Act} {n : Nat} {d : Option Tmp} {v v' : Value} (he : EnvRel g e a.tmps) (hs : a.tmps.size = n) (hd : dstOk n d = true) (hv : Rel g v v') : EnvRel g (e.put d v) (a.put d v').tmps := by
  cases d with
  | none => exact he
  | some t =>
    simp only [dstOk, decide_eq_true_eq] at hd
    intro j
    simp only [Env.put, Act.put]
    by_cases hj : j = t
    · subst hj
      simp [hs, hd]
      exact hv
    · rw [Env.at_set_ne _ _ hj]
      have := he j
      simpa [Array.getElem?_setIfInBounds_ne (Ne.symm hj)] using this

theorem wants_ok' {e : Env} {a : Act} {ops : Array Oper} {o : Oper} {gd : Option (Tmp × Bool)} {b : Bool} (he : ∀ t c, gd = some (t, c) → Rel g (e.at t) (a.tmps.getD t undef)) (hg : compGuard ops o.guard = some gd) (h : wants e gd = .ok b) :
    Region.wanted o (yielded ops a.tmps) = b := by
  unfold compGuard at hg
  unfold Region.wanted
  split at hg
  · rename_i hn
    cases hg
    simp only [wants] at h
    cases h
    rw [hn]
  · rename_i j want hn
    rw [hn]
    split at hg
    · rename_i t ht
      cases hg
      simp only [wants] at h
      split at h
      · rename_i c hc
        cases h
        have hr := he t _ rfl
        rw [hc] at hr
        have hb := hr.bool
        have hy : yielded ops a.tmps j = some c := by
          unfold yielded
          rw [ht]
          simp only [Option.bind_some]
          cases hx : a.tmps[t]? with
          | none => simp [hx, undef] at hb
          | some u => simp [hx] at hb; subst hb; rfl
        simp only [hy]
        cases c <;> cases want <;> rfl
      · rename_i r hc
        cases h
        have hr := he t _ rfl
        rw [hc] at hr
        have hb : a.tmps.getD t undef = undef := Rel.skip' hr
        have hy : yielded ops a.tmps j = none := by
          unfold yielded
          rw [ht]
          simp only [Option.bind_some]
          cases hx : a.tmps[t]? with
          | none => rfl
          | some u => simp [hx] at hb; subst hb; rfl
        simp only [hy]
        rfl
      · cases h
    · cases hg

theorem wants_ok {e : Env} {a : Act} {ops : Array Oper} {o : Oper} {gd : Option (Tmp × Bool)} {b : Bool} (he : EnvRel g e a.tmps) (hg : compGuard ops o.guard = some gd) (h : wants e gd = .ok b) :
    Region.wanted o (yielded ops a.tmps) = b := wants_ok' (fun t _ _ => he t) hg h

/-! ### One operation -/

def Ends (P : Program) (st : St) (g : Ghost) (w : World) (v : Value) (st' : St) : Ending → World → Prop
  | .returned v', w' => ∃ g', Rel g' v v' ∧ To P st g w st' g' w'
  | _, _ => False

def Known (P : Program) (f : FuncId) : Prop := ∃ fn, P.funcs[f]? = some fn ∧ fn.body.isNone = false ∧ fn.name ≠ "runtime.NumGoroutine"

structure Goes (P : Program) (K : Ctx) : Prop where
  le : KLe K
  call : ∀ {f args st v st'}, K.go (.call f args) st = .ok (v, st') → ∀ {g w args'}, Inv0 P st'.next st g w → RelL g args args' → Known P f ∧ ∀ m, CallsIn Fence.wide m P f args'.toArray w (Ends P st g w v st')
  round : ∀ {l args st v st'}, K.go (.round l args) st = .ok (v, st') → ∀ {g w args' G}, Inv0 P st'.next st g w → RelL g args args' → g l = some G →
    ∃ f tmps assign body, (Instr.yield G.blk args'.toArray).run P w = .ok (.round G.blk f tmps assign body) w ∧ ∀ m, RoundIn Fence.wide m P G.blk f tmps assign body w (Ends P st g w v st')

theorem bad_oper {K : Ctx} {e : Env} {v : Value} (h : AOper.run K st (Env.ev e) .bad = .ok (v, st')) : False := by
  simp [AOp.bad, AOper.run, Env.ev, constOk, cellConst, flat, taskOf] at h

theorem bad_ops {K : Ctx} {e e' : Env} (h : opsC K [⟨none, none, .bad⟩] e st = .ok (e', st')) : False := by
  simp [opsC, wants, AOp.bad, AOper.run, Env.ev, constOk, cellConst, flat, taskOf] at h

theorem compEq_call {f : Operand} {args : List Operand} {neg : Bool} {op : BinOp} {t : TypeId} {x y : Operand} (h : compEq P neg op t x y = .call f args) : AOp.bad = .call f args := by
  unfold compEq at h
  split at h <;> first | (cases h; done) | exact h | ((repeat' split at h) <;> first | (cases h; done) | exact h)

theorem compOp_call {o : Oper} {f : Operand} {args : List Operand} (h : compOp P o = .call f args) :
    AOp.bad = .call f args ∨ ∃ c, o.op = .call c ∧ c.callee = .value f ∧ args = c.args.toList := by
  unfold compOp at h
  split at h
  all_goals first
    | (rename_i c ho
       split at h
       · left
         unfold compBuiltin at h
         (repeat' split at h) <;> first | (cases h; done) | exact h
       · rename_i f' hc
         cases h
         exact .inr ⟨c, ho, hc, rfl⟩
       · exact .inl h)
    | (cases h; done)
    | exact .inl h
    | (left; unfold compBin at h; (repeat' split at h) <;> first | (cases h; done) | exact h | exact compEq_call h)
    | (left; unfold compConv at h; (repeat' split at h) <;> first | (cases h; done) | exact h)
    | (left; (repeat' split at h) <;> first | (cases h; done) | exact h)

theorem Rel.toYield {l : Nat} {p c : Array Value} {v : Value} (h : Rel g (.func (.yield l) p c) v) : ∃ G, g l = some G ∧ v = .func (.yield G.blk) #[] #[] := by
  cases h with
  | flat h => simp [AM.flat] at h
  | yield h => exact ⟨_, h, rfl⟩

theorem RelL.map {ρ ρ' : Operand → Value} {l : List Operand} (h : ∀ x ∈ l, Rel g (ρ x) (ρ' x)) : RelL g (l.map ρ) (l.map ρ') := by
  refine ⟨by simp, fun i v v' hv hv' => ?_⟩
  rw [List.getElem?_map] at hv hv'
  cases hx : l[i]? with
  | none => simp [hx] at hv
  | some x =>
    simp [hx] at hv hv'
    subst hv; subst hv'
    exact h x (List.mem_of_getElem? hx)

theorem run_callFunc {f : FuncId} (h : Known P f) (args : Array Value) : (callFunc f args).run P w = .ok (.enter f args) w := by
  obtain ⟨fn, h1, h2, h3⟩ := h
  simp only [callFunc, Sem.run_bind, run_program, Result.andThen_ok, h1]
  rw [if_neg (by simpa using h3), if_neg (by simp [h2])]
  rfl

theorem notCall_run {K : Ctx} {ρ : Operand → Value} {o : AOp} (hc : ∀ f args, o ≠ .call f args) : AOper.run K st ρ o = o.run st ρ := by
  cases o <;> first | rfl | exact absurd rfl (hc _ _)

theorem oper_wp {K : Ctx} (hK : Goes P K) {o : Oper} {e : Env} {a : Act} {v : Value} (hI : Inv0 P hi st g w) (hhi : st'.next ≤ hi) (hρ : ∀ x ∈ o.op.operands.toList, Rel g (e.ev x) (a.eval x))
    (h : AOper.run K st e.ev (compOp P o) = .ok (v, st')) {fr : Option Nat} {m : Nat} {next : Act → World → Prop} {Q : Exit → Act → World → Prop}
    (hn : ∀ v' w' g', Rel g' v v' → To P st g w st' g' w' → next (a.put o.dst v') w') : o.wpIn (Fr fr) m P a w next Q := by
  refine ⟨fun _ _ => trivial, ?_⟩
  have hdef : ∀ c, o.op ≠ .defer c := by
    intro c hc
    have : compOp P o = .bad := by simp [compOp, hc]
    rw [this] at h
    exact bad_oper h
  rw [Oper.semAt_eq _ _ _ hdef]
  by_cases hc : ∃ f args, compOp P o = .call f args
  · obtain ⟨f, args, hc⟩ := hc
    rcases compOp_call hc with hb | ⟨c, ho, hcal, rfl⟩
    · rw [hc, ← hb] at h; exact (bad_oper h).elim
    · rw [hc] at h
      simp only [AOper.run, Res.bind_eq_ok] at h
      obtain ⟨t, ht, h⟩ := h
      have hf : Rel g (e.ev f) (a.eval f) := hρ f (by simp [Op.operands, ho, Call.operands, hcal])
      have hargs : RelL g (c.args.toList.map e.ev) (c.args.toList.map a.eval) := .map fun x hx => hρ x (by simp [Op.operands, ho, Call.operands, hcal]; exact .inr (by simpa using hx))
      unfold taskOf at ht
      split at ht
      · rename_i fid p cp hev
        cases ht
        rw [hev] at hf
        obtain ⟨p', c', e', hp, hcp⟩ := hf.toFunc
        have hall := (hp.append hargs).append hcp
        obtain ⟨hknown, hcalls⟩ := hK.call h (hI.mono hhi) hall
        have hrun : (execOp a.eval o).run P w = .ok (.enter fid (p' ++ c.args.map a.eval ++ c')) w := by
          simp [execOp, ho, resolve, hcal, Deferred.ofValue, e', invoke, run_callFunc hknown]
        rw [hrun, Oper.uponIn_enter]
        refine ⟨fun hd => by simp [Fr, Fence.wide] at hd, ?_⟩
        have hcalls := hcalls (m - 1)
        have heq : (p'.toList ++ c.args.toList.map a.eval ++ c'.toList).toArray = p' ++ c.args.map a.eval ++ c' := by
          apply Array.ext'; simp
        rw [heq] at hcalls
        refine CallsIn.mono (F := Fr fr) hcalls fun en w'' hen => ?_
        cases en with
        | returned u => obtain ⟨g', hr, hto⟩ := hen; exact hn u w'' g' hr hto
        | panicked ch => exact hen.elim
        | outgrown => exact hen.elim
      · rename_i l p cp hev
        cases ht
        rw [hev] at hf
        obtain ⟨G, hG, e'⟩ := hf.toYield
        obtain ⟨fid, tmps, as, bd, hy, hround⟩ := hK.round h (hI.mono hhi) hargs hG
        have hrun : (execOp a.eval o).run P w = .ok (.round G.blk fid tmps as bd) w := by
          rw [← hy]
          have heq : (c.args.toList.map a.eval).toArray = c.args.map a.eval := by apply Array.ext'; simp
          rw [heq]
          simp [execOp, ho, resolve, hcal, Deferred.ofValue, e', invoke]
        rw [hrun, Oper.uponIn_round]
        refine ⟨fun hd => by simp [Fr, Fence.wide] at hd, ?_⟩
        refine RoundIn.mono (F := Fr fr) (hround (m - 1)) fun en w'' hen => ?_
        cases en with
        | returned u => obtain ⟨g', hr, hto⟩ := hen; exact hn u w'' g' hr hto
        | panicked ch => exact hen.elim
        | outgrown => exact hen.elim
      · cases ht
  · rw [notCall_run (fun f args e => hc ⟨f, args, e⟩)] at h
    obtain ⟨v', w', g', hr, hv, hs⟩ := op_sound hρ hI.rl hI.ro (fun id h1 h2 => hI.fresh id h1 (Nat.lt_of_lt_of_le h2 hhi)) h
    rcases hr with hr | ⟨hr, rfl⟩
    · rw [hr]; exact hn v' w' g' hv ⟨run_le h, hs⟩
    · rw [hr]; exact hn _ w' g' hv ⟨run_le h, hs⟩

/-- An operation that is no call. -/
theorem plain_wp {o : Oper} {ρ : Operand → Value} {a : Act} {v : Value} (hR : Rl P st.ro g st.get w.heap) (hro : st.ro ≤ st.next) (hf : ∀ id, st.next ≤ id → id < st'.next → g id = none) (hρ : ∀ x ∈ o.op.operands.toList, Rel g (ρ x) (a.eval x))
    (h : (compOp P o).run st ρ = .ok (v, st')) {fr : Option Nat} {m : Nat} {next : Act → World → Prop} {Q : Exit → Act → World → Prop}
    (hn : ∀ v' w' g', Rel g' v v' → Step P st.ro g st.get w g' st'.get w' st.next st'.next → next (a.put o.dst v') w') : o.wpIn (Fr fr) m P a w next Q := by
  refine ⟨fun _ _ => trivial, ?_⟩
  have hdef : ∀ c, o.op ≠ .defer c := by
    intro c hc
    have : compOp P o = .bad := by simp [compOp, hc]
    rw [this] at h
    exact bad_run h
  rw [Oper.semAt_eq _ _ _ hdef]
  obtain ⟨v', w', g', hr, hv, hs⟩ := op_sound hρ hR hro hf h
  rcases hr with hr | ⟨hr, rfl⟩
  · rw [hr]; exact hn v' w' g' hv hs
  · rw [hr]; exact hn _ w' g' hv hs
end
end Go.AM
