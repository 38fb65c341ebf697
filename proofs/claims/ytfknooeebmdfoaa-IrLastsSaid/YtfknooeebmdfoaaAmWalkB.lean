/-
  THE ABSTRACT MACHINE, 17: code, but for regions whose order is open (taken as a premise here).
-/
import Derived.Test.YtfknooeebmdfoaaAmWalk
set_option linter.unusedVariables false
set_option linter.unusedSimpArgs false
set_option linter.unnecessarySimpa false
namespace Go.AM

def exitOf : AExit → Exit
  | .normal => .normal
  | .exit id => .exit id
  | .ret => .ret

def DrawOk (P : Program) (K : Ctx) : Prop := ∀ {id : Nat} {ops : Array Oper} {fr : Option Nat} {hi m n b : Nat} {e e' : Env} {st st' : St} {g : Ghost} {a : Act} {w : World} {Q : Exit → Act → World → Prop},
  okDraw P ops n = true → st'.next ≤ hi → drawC K (compDraw P ops n) [] st.next e st = .ok (e', st') → Inv P hi fr n b e st g a w →
  (∀ a' w' g', Inv P hi fr n b e' st' g' a' w' → To P st g w st' g' w' → Q .normal a' w') → (Code.region id ops true).wpIn (Fr fr) m P Q a w

section
variable {P : Program} {K : Ctx} {fr : Option Nat} {hi m n b : Nat}

theorem run_getDef {w : World} {r : Nat} {ds : Option (List Deferred)} (h : w.heap[r]? = some (.deferred ds)) : (getObj r).run P w = .ok (.deferred ds) w := by simp [getObj, Sem.run, h]
theorem run_setDef {w : World} {r : Nat} {ds : Option (List Deferred)} (o' : Obj) (h : w.heap[r]? = some (.deferred ds)) : (setObj r o').run P w = .ok () { w with heap := w.heap.setIfInBounds r o' } := by simp [setObj, Sem.run, h]
theorem run_getLoopObj {w : World} {r : Nat} {l : Loop} (h : w.heap[r]? = some (.loop l)) : (getObj r).run P w = .ok (.loop l) w := by simp [getObj, Sem.run, h]
theorem run_setLoop {w : World} {r : Nat} {l : Loop} (o' : Obj) (h : w.heap[r]? = some (.loop l)) : (setObj r o').run P w = .ok () { w with heap := w.heap.setIfInBounds r o' } := by simp [setObj, Sem.run, h]
theorem run_getLoop {w : World} {r : Nat} {l : Loop} (h : w.heap[r]? = some (.loop l)) : (Instr.getLoop r).run P w = .ok l w := by simp [Instr.getLoop, run_getLoopObj h]

theorem compOper_ok {ops : Array Oper} {o : Oper} {e e' : Env} {st st' : St} {l : List AOper} (h : opsC K (compOper P ops n o :: l) e st = .ok (e', st')) :
    ∃ gd b, compGuard ops o.guard = some gd ∧ dstOk n o.dst = true ∧ o.op.operands.toList.all (opdOk P) = true ∧ wants e gd = .ok b ∧
      (b = true → ∃ v st1, AOper.run K st e.ev (compOp P o) = .ok (v, st1) ∧ opsC K l (e.put o.dst v) st1 = .ok (e', st')) ∧
      (b = false → opsC K l (e.put o.dst skipped) st = .ok (e', st')) := by
  have hbad : ∀ {l : List AOper}, opsC K ({ dst := none, guard := none, op := .bad } :: l) e st = .ok (e', st') → False := by
    intro l h
    simp only [opsC, wants, Res.bind_ok, if_true, Res.bind_eq_ok] at h
    obtain ⟨⟨v, st1⟩, h1, _⟩ := h
    exact bad_oper h1
  unfold compOper at h
  split at h
  · rename_i gd hg
    split at h
    · rename_i hc
      simp only [Bool.and_eq_true] at hc
      simp only [opsC, Res.bind_eq_ok] at h
      obtain ⟨b, hb, h⟩ := h
      refine ⟨gd, b, hg, hc.1, hc.2, hb, fun e1 => ?_, fun e1 => ?_⟩
      · subst e1
        simp only [if_true, Res.bind_eq_ok] at h
        obtain ⟨⟨v, st1⟩, h1, h⟩ := h
        exact ⟨v, st1, h1, h⟩
      · subst e1
        simpa using h
    · exact (hbad h).elim
  · exact (hbad h).elim

theorem ops_wp (hK : Goes P K) {ops : Array Oper} {Q : Exit → Act → World → Prop} : ∀ (is : List Nat) {e e' : Env} {st st' : St} {g : Ghost} {a : Act} {w : World},
    st'.next ≤ hi → opsC K (is.filterMap fun i => (ops[i]?).map (compOper P ops n)) e st = .ok (e', st') → Inv P hi fr n b e st g a w →
    (∀ a' w' g', Inv P hi fr n b e' st' g' a' w' → To P st g w st' g' w' → Q .normal a' w') → wpOpsIn (Fr fr) m P ops Q is a w := by
  intro is
  induction is with
  | nil =>
    intro e e' st st' g a w hhi h hI hQ
    simp [opsC] at h
    obtain ⟨rfl, rfl⟩ := h
    exact hQ a w g hI (.refl hI.base)
  | cons i is ih =>
    intro e e' st st' g a w hhi h hI hQ
    simp only [wpOpsIn]
    cases ho : ops[i]? with
    | none =>
      simp only [List.filterMap_cons, ho, Option.map_none] at h
      exact ih hhi h hI hQ
    | some o =>
      simp only [List.filterMap_cons, ho, Option.map_some] at h
      obtain ⟨gd, c, hg, hd, hops, hw, ht, hf⟩ := compOper_ok h
      have hwanted := wants_ok hI.env hg hw
      cases c with
      | true =>
        obtain ⟨v, st1, h1, h2⟩ := ht rfl
        simp only [hwanted, if_true]
        refine oper_wp hK hI.base (Nat.le_trans (opsC_le hK.le _ _ _ _ _ h2).next hhi) (fun x hx => ev_rel hI.base hI.env (List.all_eq_true.1 hops x hx)) h1 fun v' w' g' hv hto => ?_
        have hI' := hI.to hto (put_rel (fun t => (hI.env t).mono hto.step.ext) hI.size hd hv) (put_size _ _ _) (put_defers _ _ _)
        exact ih hhi h2 hI' fun a'' w'' g'' hI'' hto' => hQ a'' w'' g'' hI'' (hto.trans hto')
      | false =>
        simp only [hwanted, Bool.false_eq_true, if_false]
        refine ⟨fun _ _ => trivial, ?_⟩
        have hI' := hI.to (.refl hI.base) (put_rel hI.env hI.size hd .skip) (put_size _ _ _) (put_defers _ _ _)
        exact ih hhi (hf rfl) hI' hQ

theorem range_ops {α : Type} (ops : Array Oper) (f : Oper → α) : ((List.range ops.size).filterMap fun i => (ops[i]?).map f) = ops.toList.map f := by
  have h1 : ops.toList = (List.range ops.size).filterMap fun i => ops[i]? := by
    have : ∀ l : List Oper, l = (List.range l.length).filterMap fun i => l[i]? := by
      intro l
      induction l with
      | nil => simp
      | cons x l ih =>
        rw [List.length_cons, List.range_succ_eq_map, List.filterMap_cons]
        simp only [List.getElem?_cons_zero, List.filterMap_map]
        congr 1
    have h2 := this ops.toList
    simpa using h2
  conv => rhs; rw [h1]
  rw [List.map_filterMap]

/-! ### A range over a function -/

theorem Step.push {ro : Nat} {g : Ghost} {H : AHeap} {w w' : World} (h : Rl P ro g H w.heap) {ob : Obj} (hw : w'.heap = w.heap.push ob) (os : w'.os = w.os) (tape : w'.tape = w.tape) (output : w'.output = w.output) (lo hi : Nat) :
    Step P ro g H w g H w' lo hi := by
  have hold : ∀ B, B < w.heap.size → w'.heap[B]? = w.heap[B]? := fun B hB => by rw [hw, Array.getElem?_push, if_neg (by omega)]
  exact ⟨⟨fun id o ho hl => by obtain ⟨G, hG, hok⟩ := h.obj id o ho hl; exact ⟨G, hG, hok.block (hold _ (hok.lt hl))⟩, h.inj, h.glob⟩, g.le_refl, fun _ _ => rfl, by rw [hw]; simp, os, tape, output,
    fun B hB _ => hold B hB, fun B ho => .inl ho⟩

theorem Rl.notDeferred {ro : Nat} {g : Ghost} {H : AHeap} {hp : Array Obj} (h : Rl P ro g H hp) {r : Nat} {ds : Option (List Deferred)} (hr : hp[r]? = some (.deferred ds)) {id : Nat} {o : AObj} {G : Gh} (ho : H id = some o) (hl : o.live = true) (hG : g id = some G) : G.blk ≠ r := by
  intro e
  obtain ⟨G', hG', hok⟩ := h.obj id o ho hl
  rw [hG] at hG'; cases hG'
  subst e
  cases o with
  | cells xs => obtain ⟨_, _, _, h1, _⟩ := hok; rw [hr] at h1; cases h1
  | map es => obtain ⟨_, _, h1, _⟩ := hok; rw [hr] at h1; cases h1
  | strIter s pos => have h1 := hok.1; rw [hr] at h1; cases h1
  | loop e ps as bd s pd => obtain ⟨_, h1, _⟩ := hok; rw [hr] at h1; cases h1
  | dead => simp [AObj.live] at hl

theorem Step.deferred {ro : Nat} {g g' : Ghost} {H H' : AHeap} {w w' : World} {lo hi : Nat} (h : Step P ro g H w g' H' w' lo hi) (k : Rl P ro g H w.heap) {r : Nat} {ds : Option (List Deferred)} (hr : w.heap[r]? = some (.deferred ds)) : w'.heap[r]? = some (.deferred ds) := by
  rw [h.frame r (Array.getElem?_eq_some_iff.1 hr).1 ?_]; exact hr
  rintro ⟨id, o, G, ho, hl, _, hG, e⟩
  exact k.notDeferred hr ho hl hG e

theorem Marks.step {ro : Nat} {g g' : Ghost} {H H' : AHeap} {w w' : World} {lo hi : Nat} {ds : List Deferred} (hm : Marks b ds w) (h : Step P ro g H w g' H' w' lo hi) (k : Rl P ro g H w.heap) : Marks b ds w' := by
  obtain ⟨rs, h1, h2, h3⟩ := hm
  exact ⟨rs, h1, h2, fun r hr => ⟨(h3 r hr).1, h.deferred k (h3 r hr).2⟩⟩

/-- A block for deferred calls is shut. -/
theorem Step.shut {ro : Nat} {g g' : Ghost} {H H' : AHeap} {w w' : World} {lo hi : Nat} (h : Step P ro g H w g' H' w' lo hi) {r : Nat} {ds : Option (List Deferred)} (hr : w'.heap[r]? = some (.deferred ds)) (hb : w.heap.size ≤ r) (ob : Obj) :
    Step P ro g H w g' H' { w' with heap := w'.heap.setIfInBounds r ob } lo hi := by
  have hne : ∀ B, B ≠ r → (w'.heap.setIfInBounds r ob)[B]? = w'.heap[B]? := fun B hB => by rw [Array.getElem?_setIfInBounds_ne (Ne.symm hB)]
  refine ⟨⟨fun id o ho hl => ?_, h.rl.inj, h.rl.glob⟩, h.ext, h.only, by simpa using h.size, h.os, h.tape, h.output, fun B hB hn => ?_, h.own⟩
  · obtain ⟨G, hG, hok⟩ := h.rl.obj id o ho hl
    exact ⟨G, hG, hok.block (hne _ (h.rl.notDeferred hr ho hl hG))⟩
  · rw [hne B (by omega)]; exact h.frame B hB hn

theorem enterLoop_ok {st : St} {g : Ghost} {a : Act} {w : World} {e : Env} {ps : Array Tmp} {assign body : Code} {as bd : ACode} (has : Impl P n assign as) (hbd : Impl P n body bd) (hI : Inv P hi fr n b e st g a w) (hps : ps.toList.all (· < n) = true) (hhi : st.next < hi) (fn : FuncId) :
    ∃ l mark w1 g1, (Instr.enterLoop fn a.tmps ps assign body fr).run P w = .ok (l, mark) w1 ∧ g1 st.next = some ⟨l, 0, 0, 0⟩ ∧
      Step P st.ro g st.get w g1 (st.alloc (.loop e ps.toList as bd .ready .normal)).get w1 st.next (st.next + 1) ∧ Marks b (mark ++ a.defers) w1 := by
  have key : ∀ (w1 w2 : World) (ob : Obj) (dd : Nat), Step P st.ro g st.get w g st.get w1 st.next st.next →
      w2 = { w1 with heap := w1.heap.push (.loop { state := .ready, pending := none, fn, tmps := a.tmps, params := ps, assign, body, defers := dd }) } →
      ∃ g1, g1 st.next = some ⟨w1.heap.size, 0, 0, 0⟩ ∧ Step P st.ro g st.get w g1 (st.alloc (.loop e ps.toList as bd .ready .normal)).get w2 st.next (st.next + 1) := by
    intro w1 w2 ob dd h1 hw2
    have hfr := hI.base.fresh st.next (Nat.le_refl _) hhi
    refine ⟨g.put st.next ⟨w1.heap.size, 0, 0, 0⟩, g.put_same _ _, ?_⟩
    rw [St.get_alloc]
    refine Step.trans h1 (Step.alloc (G := ⟨w1.heap.size, 0, 0, 0⟩) (ob := .loop { state := .ready, pending := none, fn, tmps := a.tmps, params := ps, assign, body, defers := dd }) h1.rl hfr rfl (by rw [hw2]) (by rw [hw2]) (by rw [hw2]) (by rw [hw2]) ?_) (Nat.le_refl _) (Nat.le_succ _)
    refine ⟨{ state := .ready, pending := none, fn, tmps := a.tmps, params := ps, assign, body, defers := dd }, by rw [hw2]; simp, rfl, rfl, hI.env.mono (Ghost.le_put hfr _), rfl, ?_, ?_, ?_⟩
    · intro t ht
      have := List.all_eq_true.1 hps t ht
      simpa [hI.size] using this
    · simpa [hI.size] using has
    · simpa [hI.size] using hbd
  cases fr with
  | none =>
    let w1 : World := { w with heap := w.heap.push (.deferred (some [])) }
    have s1 : Step P st.ro g st.get w g st.get w1 st.next st.next := Step.push hI.base.rl (w' := w1) rfl rfl rfl rfl _ _
    obtain ⟨g1, hg1, hs⟩ := key w1 { w1 with heap := w1.heap.push (.loop { state := .ready, pending := none, fn, tmps := a.tmps, params := ps, assign, body, defers := w.heap.size }) } default w.heap.size s1 rfl
    refine ⟨w1.heap.size, [{ target := .collected w.heap.size, args := #[] }], _, g1, ?_, hg1, hs, ?_⟩
    · simp [Instr.enterLoop, w1]
      rfl
    · obtain ⟨rs, h1, h2, h3⟩ := hI.marks
      refine ⟨w.heap.size :: rs, by simp [h1], List.nodup_cons.2 ⟨fun hm => ?_, h2⟩, fun r hr => ?_⟩
      · have := (Array.getElem?_eq_some_iff.1 (h3 _ hm).2).1; omega
      · rcases List.mem_cons.1 hr with rfl | hr
        · refine ⟨hI.low, ?_⟩
          show ((w.heap.push _).push _)[w.heap.size]? = _
          rw [Array.getElem?_push, if_neg (by simp), Array.getElem?_push_size]
        · exact ⟨(h3 r hr).1, hs.deferred hI.base.rl (h3 r hr).2⟩
  | some lb =>
    obtain ⟨id, G, h1, h2, h3, h4⟩ := hI.around lb rfl
    obtain ⟨o, ho⟩ : ∃ o, st.get id = some o := by cases hx : st.get id with | none => simp [hx, isLoop] at h2 | some o => exact ⟨o, rfl⟩
    rw [ho] at h2
    cases o with
    | loop e0 ps0 as0 bd0 s0 pd0 =>
      obtain ⟨G', hG', l', hl', _⟩ := hI.base.rl.obj id _ ho rfl
      rw [h3] at hG'; cases hG'
      subst h4
      obtain ⟨g1, hg1, hs⟩ := key w { w with heap := w.heap.push (.loop { state := .ready, pending := none, fn, tmps := a.tmps, params := ps, assign, body, defers := l'.defers }) } default l'.defers (.refl hI.base.rl _ _) rfl
      refine ⟨w.heap.size, [], _, g1, ?_, hg1, hs, ?_⟩
      · simp [Instr.enterLoop, run_getLoop hl']
      · exact hI.marks.step hs hI.base.rl
    | _ => simp [isLoop] at h2

theorem codeC_bad {c : ACode} (hc : c = .ops [⟨none, none, .bad⟩]) {e e' : Env} {x : AExit} {st st' : St} (h : codeC K c e st = .ok (x, e', st')) : False := by
  subst hc
  simp only [codeC, Res.bind_eq_ok] at h
  obtain ⟨⟨e1, st1⟩, h1, _⟩ := h
  exact bad_ops h1

theorem range_wp (hK : Goes P K) {f : Operand} {ps : Array Tmp} {assign body : Code} {as bd : ACode} (hasI : Impl P n assign as) (hbdI : Impl P n body bd) (hc : (opdOk P f && ps.toList.all (· < n)) = true) {e e' : Env} {x : AExit} {st st' : St} {g : Ghost} {a : Act} {w : World} {Q : Exit → Act → World → Prop}
    (hhi : st'.next ≤ hi) (h : codeC K (.range f ps.toList as bd) e st = .ok (x, e', st')) (hI : Inv P hi fr n b e st g a w)
    (hQ : ∀ a' w' g', Inv P hi fr n b e' st' g' a' w' → To P st g w st' g' w' → Q (exitOf x) a' w') : (Code.rangeFunc f ps assign body).wpIn (Fr fr) m P Q a w := by
  have hle := codeC_le hK.le _ _ _ _ _ _ h
  · rw [Bool.and_eq_true] at hc
    simp only [codeC, Res.bind_eq_ok] at h
    obtain ⟨t, ht, _, hcall, ⟨v, st1⟩, h1, h⟩ := h
    simp only at h
    split at h
    · rename_i el psl asl bdl state pend hget
      simp only [Res.bind_eq_ok, Res.pure_eq, Res.need_eq_ok] at h
      obtain ⟨_, hbusy, h⟩ := h
      cases h
      have hle1 : st.next + 1 ≤ st1.next := (hK.le.go _ _ _ _ h1).next
      refine wpIn_rangeFunc fun fn _ => ?_
      obtain ⟨l, mark, w1, g1, henter, hg1, hs, hmarks⟩ := enterLoop_ok hasI hbdI hI hc.2 (Nat.lt_of_lt_of_le (Nat.lt_of_lt_of_le (Nat.lt_succ_self _) hle1) hhi) fn
      have hf : Rel g (e.ev f) (a.eval f) := ev_rel hI.base hI.env hc.1
      unfold taskOf at ht
      split at ht
      · rename_i fid p cp hev
        cases ht
        rw [hev] at hf
        obtain ⟨p', c', e', hp, hcp⟩ := hf.toFunc
        have hB : Inv0 P st1.next (st.alloc (.loop e ps.toList as bd .ready .normal)) g1 w1 :=
          ⟨hs.rl, Nat.le_succ_of_le hI.base.ro, fun id h1 h2 => by
            have h1 : st.next + 1 ≤ id := h1
            rw [hs.only id (by omega)]; exact hI.base.fresh id (by omega) (Nat.lt_of_lt_of_le h2 hhi), fun id o ho hl => by
            show id < st.next + 1
            rcases (StLe.alloc st _).alive id o ho hl with ⟨o0, h1, h2⟩ | h1
            · exact Nat.lt_succ_of_lt (hI.base.top id o0 h1 h2)
            · exact h1.2⟩
        have hargs : RelL g1 (p.toList ++ [Value.func (.yield st.next) #[] #[]] ++ cp.toList) (p'.toList ++ [Value.func (.yield l) #[] #[]] ++ c'.toList) :=
          ((hp.mono hs.ext).append (.cons (.yield hg1) (.nil g1))).append (hcp.mono hs.ext)
        obtain ⟨hknown, hcalls⟩ := hK.call h1 hB hargs
        have heq : (p'.toList ++ [Value.func (.yield l) #[] #[]] ++ c'.toList).toArray = p' ++ #[Value.func (.yield l) #[] #[]] ++ c' := by
          apply Array.ext'; simp
        rw [heq] at hcalls
        refine ⟨l, mark, w1, { target := .fn (.func fid) c', args := p' ++ #[Value.func (.yield l) #[] #[]] }, w1, fid, p' ++ #[Value.func (.yield l) #[] #[]] ++ c', w1, henter, ?_, fun _ _ => trivial, ?_, fun hd => by simp [Fr, Fence.wide] at hd, ?_⟩
        · simp [resolve, Deferred.ofValue, e', show ∀ v, a.eval (.const v) = v from fun _ => rfl]
        · simp [invoke, run_callFunc hknown]
        · refine CallsIn.mono (F := Fr fr) (hcalls (m - 1)) fun en w3 hen => ?_
          cases en with
          | panicked ch => exact hen.elim
          | outgrown => exact hen.elim
          | returned u =>
            obtain ⟨g3, _, hto⟩ := hen
            have hro : st1.ro = st.ro := hto.le.ro
            have hro' : (st.alloc (.loop e ps.toList as bd .ready .normal)).ro = st.ro := rfl
            have hg3 : g3 st.next = some ⟨l, 0, 0, 0⟩ := hto.step.ext _ _ hg1
            have hs3 := hto.step
            rw [hro'] at hs3
            obtain ⟨G, hG, lr, hlr, hst, hpend, henv, hps', hpt, has, hbd⟩ := hs3.rl.obj st.next _ hget rfl
            rw [hg3] at hG; cases hG
            have hnext : st.next + 1 ≤ st1.next := hto.le.next
            have s4 : Step P st.ro g3 st1.get w3 g3 (st1.put st.next .dead).get { w3 with heap := w3.heap.setIfInBounds l (.loop { lr with state := .exhausted }) } st1.next st1.next := by
              rw [St.get_put]
              refine Step.change (o := .loop el psl asl bdl state x) (o' := .dead) (w' := { w3 with heap := w3.heap.setIfInBounds l (.loop { lr with state := .exhausted }) }) hs3.rl hget rfl hI.base.ro hg3 (by simp) (fun B hB => ?_) rfl rfl rfl (fun hl => by simp [AObj.live] at hl) _ _
              exact Array.getElem?_setIfInBounds_ne (Ne.symm hB)
            have hall := (hs.trans hs3 (Nat.le_succ _) hnext).trans s4 (Nat.le_trans (Nat.le_succ _) hnext) (Nat.le_refl _)
            have hTo : To P st g w (st1.put st.next .dead) g3 { w3 with heap := w3.heap.setIfInBounds l (.loop { lr with state := .exhausted }) } := ⟨hle, hall⟩
            have hInv : Inv P hi fr n b e (st1.put st.next .dead) g3 { a with defers := mark ++ a.defers } { w3 with heap := w3.heap.setIfInBounds l (.loop { lr with state := .exhausted }) } :=
              { base := hTo.inv0 hI.base
                env := hI.env.mono hall.ext
                size := hI.size
                around := fun lb hlb => by
                  obtain ⟨id, G, k1, k2, k3, k4⟩ := hI.around lb hlb
                  exact ⟨id, G, Nat.lt_of_lt_of_le k1 hle.next, hle.loops id k1 k2, hall.ext _ _ k3, k4⟩
                low := Nat.le_trans hI.low hall.size
                marks := (hmarks.step hs3 hs.rl).step s4 hs3.rl }
            have hfin := hQ _ _ _ hInv hTo
            refine ⟨lr.pending, { w3 with heap := w3.heap.setIfInBounds l (.loop { lr with state := .exhausted }) }, ?_, ?_⟩
            · have hb2 : lr.state ≠ LoopState.busy := by
                rw [hst]; intro hx; rw [hx] at hbusy; exact absurd hbusy (by decide)
              simp [Instr.endLoop, run_getLoop hlr, run_setLoop _ hlr]
              exact fun hx => absurd hx hb2
            · generalize ({ w3 with heap := w3.heap.setIfInBounds l (.loop { lr with state := .exhausted }) } : World) = w4 at hfin ⊢
              cases x with
              | normal => rw [show lr.pending = none from hpend]; exact hfin
              | exit id => rw [show lr.pending = some (.exit id) from hpend]; exact wpIn_exit hfin
              | ret => rw [show lr.pending = some .ret from hpend]; exact wpIn_ret hfin
      · cases ht
        simp [Task.isCall, Res.need] at hcall
      · cases ht
    · cases h

theorem Env.keep_at (e : Env) : ∀ (l : List Tmp) (t : Tmp), (e.keep l).at t = nothing ∨ (e.keep l).at t = e.at t := by
  intro l
  induction l with
  | nil => intro t; left; simp [Env.keep]
  | cons u l ih =>
    intro t
    by_cases h : t = u
    · subst h; right; simp [Env.keep]
    · rcases ih t with h1 | h1
      · left; rw [← h1]; simp [Env.keep, Env.at_set_ne _ _ h]
      · right; rw [← h1]; simp [Env.keep, Env.at_set_ne _ _ h]

theorem Inv.keep {st : St} {g : Ghost} {a : Act} {w : World} {e : Env} (h : Inv P hi fr n b e st g a w) (l : List Tmp) : Inv P hi fr n b (e.keep l) st g a w :=
  { h with
    env := fun t => by
      rcases e.keep_at l t with h1 | h1
      · rw [h1]; exact .nothing _
      · rw [h1]; exact h.env t }

theorem code_wp (hK : Goes P K) (hD : DrawOk P K) {c : Code} {ac : ACode} (hc : Impl P n c ac) : ∀ {e e' : Env} {x : AExit} {st st' : St} {g : Ghost} {a : Act} {w : World} {Q : Exit → Act → World → Prop},
    st'.next ≤ hi → codeC K ac e st = .ok (x, e', st') → Inv P hi fr n b e st g a w → (∀ a' w' g', Inv P hi fr n b e' st' g' a' w' → To P st g w st' g' w' → Q (exitOf x) a' w') → c.wpIn (Fr fr) m P Q a w := by
  induction hc with
  | skip =>
    intro e e' x st st' g a w Q hhi h hI hQ
    simp [codeC] at h
    obtain ⟨rfl, rfl, rfl⟩ := h
    exact wpIn_skip (hQ _ _ _ hI (.refl hI.base))
  | ops id ops =>
    intro e e' x st st' g a w Q hhi h hI hQ
    simp only [codeC, Res.bind_eq_ok, Res.pure_eq] at h
    obtain ⟨⟨e1, st1⟩, h1, h⟩ := h
    cases h
    rw [← range_ops] at h1
    exact wpIn_region (ops_wp hK _ hhi h1 hI hQ)
  | draw id hok =>
    intro e e' x st st' g a w Q hhi h hI hQ
    simp only [codeC, Res.bind_eq_ok, Res.pure_eq] at h
    obtain ⟨⟨e1, st1⟩, h1, h⟩ := h
    cases h
    exact hD hok hhi h1 hI hQ
  | seq _ _ ihc ihd =>
    intro e e' x st st' g a w Q hhi h hI hQ
    simp only [codeC, Res.bind_eq_ok] at h
    obtain ⟨⟨y, e1, st1⟩, h1, h⟩ := h
    have hhi1 : st1.next ≤ hi := by
      cases y with
      | normal => exact Nat.le_trans (codeC_le hK.le _ _ _ _ _ _ h).next hhi
      | exit id => cases h; exact hhi
      | ret => cases h; exact hhi
    refine wpIn_seq (ihc hhi1 h1 hI fun a1 w1 g1 hI1 hto => ?_)
    cases y with
    | normal => exact ihd hhi h hI1 fun a2 w2 g2 hI2 hto2 => hQ _ _ _ hI2 (hto.trans hto2)
    | exit id => cases h; exact hQ _ _ _ hI1 hto
    | ret => cases h; exact hQ _ _ _ hI1 hto
  | cond hop _ _ ihc ihd =>
    intro e e' x st st' g a w Q hhi h hI hQ
    have hr := ev_rel hI.base hI.env hop
    simp only [codeC] at h
    split at h
    · rename_i hb; rw [hb] at hr; exact wpIn_cond_true hr.bool (ihc hhi h hI hQ)
    · rename_i hb; rw [hb] at hr; exact wpIn_cond_false hr.bool (ihd hhi h hI hQ)
    · cases h
  | block id _ ih =>
    intro e e' x st st' g a w Q hhi h hI hQ
    simp only [codeC, Res.bind_eq_ok] at h
    obtain ⟨⟨y, e1, st1⟩, h1, h⟩ := h
    have hhi1 : st1.next ≤ hi := by cases y <;> (cases h; exact hhi)
    refine wpIn_block (ih hhi1 h1 hI fun a1 w1 g1 hI1 hto => ?_)
    cases y with
    | normal => cases h; exact hQ _ _ _ hI1 hto
    | ret => cases h; exact hQ _ _ _ hI1 hto
    | exit j =>
      cases h
      have := hQ _ _ _ hI1 hto
      simp only [exitOf, Exit.inBlock]
      by_cases hj : j = id
      · simpa [hj, exitOf] using this
      · simpa [hj, exitOf] using this
  | loop _ ih =>
    intro e e' x st st' g a w Q hhi h hI hQ
    simp only [codeC] at h
    obtain ⟨k, h1⟩ := hK.le.rounds _ _ _ _ h
    clear h
    have h := h1
    clear h1
    refine wpIn_loop_rounds k ?_
    induction k generalizing e st g a w with
    | zero => simp [iterC] at h
    | succ k ihk =>
      simp only [iterC, Res.bind_eq_ok] at h
      obtain ⟨⟨y, e1, st1⟩, h1, h⟩ := h
      rw [roundsIn_succ]
      have hhi1 : st1.next ≤ hi := by
        cases y with
        | normal => exact Nat.le_trans (iterC_le (fun e st x e' st' h => codeC_le hK.le _ _ _ _ _ _ h) _ _ _ _ _ _ h).next hhi
        | exit id => cases h; exact hhi
        | ret => cases h; exact hhi
      refine ih hhi1 h1 hI fun a1 w1 g1 hI1 hto => ?_
      cases y with
      | normal => exact ihk hI1 (fun a2 w2 g2 hI2 hto2 => hQ _ _ _ hI2 (hto.trans hto2)) h
      | exit id => cases h; exact hQ _ _ _ hI1 hto
      | ret => cases h; exact hQ _ _ _ hI1 hto
  | range hcc ha hb _ _ =>
    intro e e' x st st' g a w Q hhi h hI hQ
    exact range_wp hK ha hb hcc hhi h hI hQ
  | exit id =>
    intro e e' x st st' g a w Q hhi h hI hQ
    simp [codeC] at h
    obtain ⟨rfl, rfl, rfl⟩ := h
    exact wpIn_exit (hQ _ _ _ hI (.refl hI.base))
  | ret =>
    intro e e' x st st' g a w Q hhi h hI hQ
    simp [codeC] at h
    obtain ⟨rfl, rfl, rfl⟩ := h
    exact wpIn_ret (hQ _ _ _ hI (.refl hI.base))
  | bad c => intro e e' x st st' g a w Q hhi h hI hQ; exact (codeC_bad rfl h).elim
  | keepL l _ ih =>
    intro e e' x st st' g a w Q hhi h hI hQ
    simp only [codeC, Res.bind_ok] at h
    exact ih hhi h (hI.keep l) hQ
  | keepR l _ ih =>
    intro e e' x st st' g a w Q hhi h hI hQ
    simp only [codeC, Res.bind_eq_ok] at h
    obtain ⟨⟨y, e1, st1⟩, h1, h⟩ := h
    cases y with
    | normal => cases h; exact ih hhi h1 hI fun a1 w1 g1 hI1 hto => hQ _ _ _ (hI1.keep l) hto
    | exit id => cases h; exact ih hhi h1 hI hQ
    | ret => cases h; exact ih hhi h1 hI hQ
end
end Go.AM
