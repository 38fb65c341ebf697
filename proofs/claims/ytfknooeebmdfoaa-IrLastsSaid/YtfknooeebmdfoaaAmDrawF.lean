/-
  THE ABSTRACT MACHINE, 24: regions whose order is open, 6: one more operation, whichever is ready.
-/
import Derived.Test.YtfknooeebmdfoaaAmDrawE
set_option linter.unusedVariables false
set_option linter.unusedSimpArgs false
set_option linter.unnecessarySimpa false
namespace Go.AM

section
variable {P : Program} {K : Ctx} {ops : Array Oper} {n hi : Nat} {L : List DOper} {S : Nat → St} {E : Nat → Env} {V : Nat → Value} {W : Nat → Bool} {SN : Nat → List St} {BA : Nat → Nat}
  {g0 : Ghost} {w0 : World} {df : List Deferred} {p : Nat} {D : Nat → Prop} {HD : AHeap} {g : Ghost} {a : Act} {w : World}

theorem run_looks_none {o : AOp} {st st' : St} {ρ : Operand → Value} {v : Value} (hl : o.isLook = true) (h : o.run st ρ = .ok (v, st')) (hn : o.looks ρ = none) (st2 : St) : o.run st2 ρ = .ok (v, st2) :=
  (look_run hl h).2.2 st2 fun id e => by rw [hn] at e; cases e

/-- What an operation that looks finds in the heap as it is. -/
theorem J.found (T : Seq P K ops n L S E V W SN BA) (hhi : (S L.length).next ≤ hi) (h : J P ops n hi L S E V W g0 w0 df p D HD g a w) {k : Nat} {d : DOper} (hd : L[k]? = some d) (hu : ¬ D d.ix) {o : Oper} (ho : ops.toList[d.ix]? = some o) (hr : ∀ j ∈ preds o, D j)
    (hW : W k = true) (hl : d.o.op.isLook = true) (hwr : d.writes = false) {id : Nat} (hid : d.o.op.looks (E k).ev = some id) (hg : ∃ G, g id = some G) :
    ∃ s ob, d.o.op.run s (E k).ev = .ok (V k, s) ∧ s.get id = some ob ∧ ob.live = true ∧ HD id = some ob := by
  have hpk := h.after T hd hu
  have hk := lt_of_at hd
  have hgn : g id ≠ none := by obtain ⟨G, hG⟩ := hg; rw [hG]; simp
  have fromSeg : ∀ q b, p ≤ b → b ≤ q → q ≤ k → (∀ j, b ≤ j → j < q → ¬ eff L W j) → ∀ ob, ob.live = true → (S q).get id = some ob → (b = p ∨ (S b).next ≤ id) → HD id = some ob := by
    intro q b hpb hbq hqk hn ob hlo hget hb
    rcases (T.seg hbq (by omega) hn id ob hlo).1 hget with h1 | ⟨j, j1, j2, j3, j4, j5⟩
    · rcases hb with rfl | hb
      · exact (h.heap id ob hlo).2 (.inl h1)
      · have := T.isTop (k := b) (by omega) h1 hlo; omega
    · have hlt : id < (S L.length).next := by
        have := T.newer (k := L.length) j3 (by omega) (Nat.le_refl _); omega
      have hge : (S p).next ≤ id := by
        have := (T.le (j := p) (k := j) (by omega) (by omega)).next; omega
      obtain ⟨k', d', r1, r2, r3, r4, r5⟩ := h.fresh id hge (Nat.lt_of_lt_of_le hlt hhi) hgn
      have : k' = j := T.alcInj r4 j3 (by rw [← r5, ← j4])
      subst this
      exact (h.heap id ob hlo).2 (.inr ⟨k', d', r1, r2, r3, r4, r5, j5⟩)
  have hrunK := T.run hd hW hwr
  obtain ⟨hSk, hobK, hsameK⟩ := look_run hl hrunK
  rw [hSk] at hrunK
  by_cases hq : ∃ q, p ≤ q ∧ q < k ∧ eff L W q
  · obtain ⟨q, ⟨hq1, hq2, hq3⟩, hmin⟩ : ∃ q, (p ≤ q ∧ q < k ∧ eff L W q) ∧ ∀ j, j < q → ¬ (p ≤ j ∧ j < k ∧ eff L W j) := by
      obtain ⟨q, hq⟩ := hq
      induction q using Nat.strongRecOn with
      | _ q ih =>
        by_cases hx : ∃ j, j < q ∧ (p ≤ j ∧ j < k ∧ eff L W j)
        · obtain ⟨j, hj, hj2⟩ := hx; exact ih j hj hj2
        · exact ⟨q, hq, fun j hj hj2 => hx ⟨j, hj, hj2⟩⟩
    have hcount : 1 ≤ (L.take k).countP (fun s => s.writes && !(ancOf ops.toList d.ix).contains s.ix) ∧ S q ∈ (SN k).take ((L.take k).countP (fun s => s.writes && !(ancOf ops.toList d.ix).contains s.ix)) := by
      have hp : ∀ j d', q ≤ j → j < k → L[j]? = some d' → eff L W j → (d'.writes && !(ancOf ops.toList d.ix).contains d'.ix) = true := by
        intro j d' h1 h2 h3 h4
        obtain ⟨d'', h5, _, h6⟩ := h4
        rw [h3] at h5; cases h5
        rw [h6]
        simp only [Bool.true_and, Bool.not_eq_true']
        cases hx : (ancOf ops.toList d.ix).contains d'.ix with
        | false => rfl
        | true =>
          have hanc := ancs_sound (List.contains_iff_mem.1 hx)
          exact absurd ⟨d', h3, by assumption, h6⟩ (h.late (by omega) h3 (hanc.ready h.closed ho hr))
      have hm := T.snap hq2 (Nat.le_of_lt hk) hq3 _ hp
      refine ⟨?_, hm⟩
      rcases Nat.eq_zero_or_pos ((L.take k).countP (fun s => s.writes && !(ancOf ops.toList d.ix).contains s.ix)) with h0 | h0
      · rw [h0] at hm; simp at hm
      · exact h0
    have hback := T.facts.back hd hl
    rcases (T.tr.rd hd hW hwr).2.2 with h0 | hst
    · omega
    · unfold stays at hst
      rw [Bool.or_eq_true, hid] at hst
      rcases hst with hst | hst
      · simp only [decide_eq_true_eq] at hst
        obtain ⟨ob, hob, hlo⟩ := hobK id hid
        rcases T.base (Nat.le_of_lt hk) with ⟨b, b1, b2, b3, b4⟩ | hno
        · have hqb : q ≤ b := by
            rcases Nat.lt_or_ge b q with hlt | hge
            · exact absurd hq3 (b3 q hlt hq2)
            · exact hge
          exact ⟨S k, ob, hrunK, hob, hlo, fromSeg k (b + 1) (by omega) (by omega) (Nat.le_refl _) (fun j j1 j2 => b3 j (by omega) j2) ob hlo hob (.inr (by omega))⟩
        · exact absurd hq3 (hno q hq2)
      · have hmem : S q ∈ (SN k).take d.back := (List.take_sublist_take_left hback).mem hcount.2
        have := List.all_eq_true.1 hst _ hmem
        split at this
        · rename_i u su hrunq
          have hv := sameVal_eq this
          subst hv
          obtain ⟨hsq, hobq, _⟩ := look_run hl hrunq
          rw [hsq] at hrunq
          obtain ⟨ob, hob, hlo⟩ := hobq id hid
          exact ⟨S q, ob, hrunq, hob, hlo, fromSeg q p (Nat.le_refl _) hq1 (Nat.le_of_lt hq2) (fun j j1 j2 he => hmin j j2 ⟨j1, by omega, he⟩) ob hlo hob (.inl rfl)⟩
        · cases this
  · obtain ⟨ob, hob, hlo⟩ := hobK id hid
    exact ⟨S k, ob, hrunK, hob, hlo, fromSeg k p (Nat.le_refl _) hpk (Nat.le_refl _) (fun j j1 j2 he => hq ⟨j, j1, j2, he⟩) ob hlo hob (.inl rfl)⟩

/-- One that writes nothing, wanted. -/
theorem J.plain (T : Seq P K ops n L S E V W SN BA) (hhi : (S L.length).next ≤ hi) (h : J P ops n hi L S E V W g0 w0 df p D HD g a w) {k : Nat} {d : DOper} (hd : L[k]? = some d) (hu : ¬ D d.ix) {o : Oper} (ho : ops.toList[d.ix]? = some o) (hr : ∀ j ∈ preds o, D j)
    (hdo : d.o.dst = o.dst) (hop : d.o.op = compOp P o) (hdst : dstOk n o.dst = true) (hρ : ∀ x ∈ o.op.operands.toList, Rel g ((E k).ev x) (a.eval x)) (hW : W k = true) (hwr : d.writes = false)
    {fr : Option Nat} {m : Nat} {next : Act → World → Prop} {Q : Exit → Act → World → Prop}
    (hn : ∀ HD' g' v' w', J P ops n hi L S E V W g0 w0 df p (fun i => D i ∨ i = d.ix) HD' g' (a.put o.dst v') w' → next (a.put o.dst v') w') : o.wpIn (Fr fr) m P a w next Q := by
  have hpk := h.after T hd hu
  have hk := lt_of_at hd
  have hne : ¬ eff L W k := fun ⟨d', q1, _, q3⟩ => by rw [hd] at q1; cases q1; rw [hwr] at q3; cases q3
  have hro : (S 0).ro ≤ (S k).next := Nat.le_trans T.ro (T.le (Nat.zero_le k) (Nat.le_of_lt hk)).next
  -- without anything made
  have still : ¬ alc L W k → ∀ (st1 : St), st1.ro = (S 0).ro → st1.next = (S k).next → (∀ id ob, st1.get id = some ob → ob.live = true → HD id = some ob) → (compOp P o).run st1 (E k).ev = .ok (V k, st1) → o.wpIn (Fr fr) m P a w next Q := by
    intro hna st1 e1 e2 hsub hrun
    have hnx : (S (k + 1)).next = (S k).next := by rw [T.same hk hne hna]
    refine plain_wp (st := st1) (by rw [e1]; exact h.step.rl.sub hsub) (by rw [e1, e2]; exact hro) (fun id q1 q2 => by omega) hρ hrun fun v' w' g' hv hs => hn HD g' v' w' ?_
    rw [e1, e2] at hs
    refine h.quiet T hhi hd hu ho hr hdo hdst hne hv ?_ (fun id ob _ => ⟨.inl, fun q => q.elim (fun x => x) (fun q => absurd q.1 hna)⟩)
    rw [hnx]
    refine Step.beside h.step.rl hro hsub hs (fun id ob q1 q2 => .inl ⟨ob, q1, q2⟩) (fun id ob hl ht => ?_) (fun id ob hl _ => Iff.rfl)
    rcases ht with ⟨o0, q1, q2⟩ | ⟨q1, q2⟩
    · rw [hsub id o0 q1 q2, q1]
    · omega
  have empty : ∀ (st1 : St), st1.h = .nil → ∀ id ob, st1.get id = some ob → ob.live = true → HD id = some ob := fun st1 e id ob q => by simp [St.get, e] at q
  rcases T.kind hd hwr with hp | hl | hal
  · have hna : ¬ alc L W k := fun ⟨d', q1, _, q3⟩ => by
      rw [hd] at q1; cases q1
      revert hp q3
      cases d.o.op <;> simp [AOp.isPure, AOp.isAlloc]
    have hrun := T.run hd hW hwr
    rw [hop] at hrun hp
    exact still hna ⟨.nil, (S k).next, (S 0).ro⟩ rfl rfl (empty _ rfl) ((pure_run hp hrun).2 _)
  · have hna : ¬ alc L W k := fun ⟨d', q1, _, q3⟩ => by
      rw [hd] at q1; cases q1
      revert hl q3
      cases d.o.op <;> simp [AOp.isLook, AOp.isAlloc]
    have hrun := T.run hd hW hwr
    cases hid : d.o.op.looks (E k).ev with
    | none =>
      refine still hna ⟨.nil, (S k).next, (S 0).ro⟩ rfl rfl (empty _ rfl) ?_
      rw [← hop]; exact run_looks_none hl hrun hid _
    | some id =>
      obtain ⟨x, hx, hmem⟩ := compOp_look hop.symm hl
      have hidx : idOf ((E k).ev x) = some id := by
        unfold AOp.looks at hid; rw [hx] at hid; simpa using hid
      obtain ⟨s, ob, r1, r2, r3, r4⟩ := h.found T hhi hd hu ho hr hW hl hwr hid (idOf_rel (hρ x hmem) hidx)
      refine still hna ⟨Tr.set .nil id ob, (S k).next, (S 0).ro⟩ rfl rfl (fun i ob' q _ => ?_) ?_
      · simp only [St.get, Tr.get_set] at q
        split at q
        · rename_i e; subst e; cases q; exact r4
        · simp at q
      · rw [← hop]
        refine (look_run hl r1).2.2 _ fun i e => ?_
        rw [hid] at e; cases e
        show (Tr.set .nil id ob).get id = s.get id
        rw [Tr.get_set_same, r2]
  · obtain ⟨ob, h1, hlo, h2⟩ := T.new hd hW hal
    have ha : alc L W k := ⟨d, hd, hW, hal⟩
    have hnx : (S (k + 1)).next = (S k).next + 1 := by rw [h1]; rfl
    let st1 : St := ⟨.nil, (S k).next, (S 0).ro⟩
    have hrun : (compOp P o).run st1 (E k).ev = .ok (V k, st1.alloc ob) := by rw [← hop]; exact h2 st1 rfl
    have hle := (T.le (j := k + 1) hk (Nat.le_refl _)).next
    have hfr : ∀ id, (S k).next ≤ id → id < (S k).next + 1 → g id = none := by
      intro id q1 q2
      cases hx : g id with
      | none => rfl
      | some G =>
        have hge := (T.le (j := p) (k := k) hpk (Nat.le_of_lt hk)).next
        obtain ⟨k', d', r1, r2, r3, r4, r5⟩ := h.fresh id (by omega) (by omega) (by rw [hx]; simp)
        have : k' = k := T.alcInj r4 ha (by omega)
        subst this
        rw [hd] at r2; cases r2
        exact absurd r3 hu
    refine plain_wp (st := st1) (h.step.rl.sub (empty st1 rfl)) hro hfr hρ hrun fun v' w' g' hv hs => hn (upd HD (S k).next ob) g' v' w' ?_
    have hs : Step P (S 0).ro g st1.get w g' (st1.alloc ob).get w' (S k).next (S (k + 1)).next := hnx ▸ hs
    refine h.quiet T hhi hd hu ho hr hdo hdst hne hv (Step.beside h.step.rl hro (empty st1 rfl) hs (fun id o' q1 q2 => ?_) (fun id o' hl ht => ?_) (fun id o' hl ht => ?_)) (fun id o' hl => ?_)
    · by_cases e : id = (S k).next
      · exact .inr ⟨by omega, by omega⟩
      · rw [St.get_alloc, upd_ne _ _ e] at q1; simp [St.get, st1] at q1
    · rcases ht with ⟨o0, q1, q2⟩ | ⟨q1, q2⟩
      · simp [St.get, st1] at q1
      · have e : id = (S k).next := by omega
        subst e
        rw [upd_same, St.get_alloc]
        show _ ↔ upd st1.get (S k).next ob (S k).next = some o'
        rw [upd_same]
    · have e : id ≠ (S k).next := fun e => ht (.inr ⟨by omega, by omega⟩)
      rw [upd_ne _ _ e]
    · have hnew : (S (k + 1)).get (S k).next = some ob := by rw [h1, St.get_alloc, upd_same]
      by_cases e : id = (S k).next
      · subst e
        rw [upd_same]
        constructor
        · intro q; exact .inr ⟨ha, rfl, by rw [hnew]; exact q⟩
        · rintro (q | ⟨_, _, q⟩)
          · obtain ⟨G, hG, _⟩ := h.step.rl.obj _ _ q hl
            rw [hfr _ (Nat.le_refl _) (Nat.lt_succ_self _)] at hG; cases hG
          · rw [hnew] at q; exact q
      · rw [upd_ne _ _ e]
        exact ⟨.inl, fun q => q.elim (fun x => x) (fun q => absurd q.2.1 e)⟩

/-- One whose guard does not want it. -/
theorem J.skipped (T : Seq P K ops n L S E V W SN BA) (hhi : (S L.length).next ≤ hi) (h : J P ops n hi L S E V W g0 w0 df p D HD g a w) {k : Nat} {d : DOper} (hd : L[k]? = some d) (hu : ¬ D d.ix) {o : Oper} (ho : ops.toList[d.ix]? = some o) (hr : ∀ j ∈ preds o, D j)
    (hdo : d.o.dst = o.dst) (hdst : dstOk n o.dst = true) (hW : W k = false) : J P ops n hi L S E V W g0 w0 df p (fun i => D i ∨ i = d.ix) HD g (a.put o.dst undef) w := by
  have hk := lt_of_at hd
  obtain ⟨hV, hS, _⟩ := T.tr.skip hd hW
  have hna : ¬ alc L W k := fun ⟨d', _, q2, _⟩ => by rw [hW] at q2; cases q2
  refine h.quiet T hhi hd hu ho hr hdo hdst (fun ⟨d', _, q2, _⟩ => by rw [hW] at q2; cases q2) (by rw [hV]; exact .skip) (.refl h.step.rl _ _) (fun id ob _ => ⟨.inl, fun q => q.elim (fun x => x) (fun q => absurd q.1 hna)⟩)
end
end Go.AM
