/-
  THE ABSTRACT MACHINE, 23: regions whose order is open, 5: what holds after any of the orders, so far.
-/
import Derived.Test.YtfknooeebmdfoaaAmDrawD
set_option linter.unusedVariables false
set_option linter.unusedSimpArgs false
set_option linter.unnecessarySimpa false
namespace Go.AM

structure J (P : Program) (ops : Array Oper) (n hi : Nat) (L : List DOper) (S : Nat → St) (E : Nat → Env) (V : Nat → Value) (W : Nat → Bool) (g0 : Ghost) (w0 : World) (df : List Deferred)
    (p : Nat) (D : Nat → Prop) (HD : AHeap) (g : Ghost) (a : Act) (w : World) : Prop where
  pN : p ≤ L.length
  done : ∀ {k : Nat} {d : DOper}, k < p → L[k]? = some d → D d.ix
  late : ∀ {k : Nat} {d : DOper}, p ≤ k → L[k]? = some d → D d.ix → ¬ eff L W k
  closed : ∀ i o j, D i → ops.toList[i]? = some o → j ∈ preds o → D j
  heap : ∀ id o, o.live = true → (HD id = some o ↔ (S p).get id = some o ∨ ∃ (k : Nat) (d : DOper), p ≤ k ∧ L[k]? = some d ∧ D d.ix ∧ alc L W k ∧ id = (S k).next ∧ (S (k + 1)).get id = some o)
  fresh : ∀ id, (S p).next ≤ id → id < hi → g id ≠ none → ∃ (k : Nat) (d : DOper), p ≤ k ∧ L[k]? = some d ∧ D d.ix ∧ alc L W k ∧ id = (S k).next
  val : ∀ {k : Nat} {d : DOper} {t : Tmp}, L[k]? = some d → D d.ix → d.o.dst = some t → Rel g (V k) (a.tmps.getD t undef)
  old : ∀ t, (∀ (k : Nat) (d : DOper), L[k]? = some d → d.o.dst = some t → ¬ D d.ix) → Rel g ((E 0).at t) (a.tmps.getD t undef)
  size : a.tmps.size = n
  defers : a.defers = df
  step : Step P (S 0).ro g0 (S 0).get w0 g HD w (S 0).next (S L.length).next

section
variable {P : Program} {K : Ctx} {ops : Array Oper} {n hi : Nat} {L : List DOper} {S : Nat → St} {E : Nat → Env} {V : Nat → Value} {W : Nat → Bool} {SN : Nat → List St} {BA : Nat → Nat}
  {g0 : Ghost} {w0 : World} {df : List Deferred} {p : Nat} {D : Nat → Prop} {HD : AHeap} {g : Ghost} {a : Act} {w : World}

theorem J.after (T : Seq P K ops n L S E V W SN BA) (h : J P ops n hi L S E V W g0 w0 df p D HD g a w) {k : Nat} {d : DOper} (hd : L[k]? = some d) (hu : ¬ D d.ix) : p ≤ k := by
  rcases Nat.lt_or_ge k p with h1 | h1
  · exact absurd (h.done h1 hd) hu
  · exact h1

theorem J.reads (T : Seq P K ops n L S E V W SN BA) (h : J P ops n hi L S E V W g0 w0 df p D HD g a w) {k : Nat} {d : DOper} (hd : L[k]? = some d) (hu : ¬ D d.ix)
    {o : Oper} (ho : ops.toList[d.ix]? = some o) (hr : ∀ j ∈ preds o, D j) {t : Tmp} (ht : t ∈ readsOf ops.toList d) : Rel g ((E k).at t) (a.tmps.getD t undef) := by
  have hcl : ∀ {x : Option Tmp}, x = some t → clash ops.toList x d = true := fun {x} e => by subst e; simp [clash, ht]
  rcases T.envAt (Nat.le_of_lt (lt_of_at hd)) t with ⟨j, s, h1, h2, h3, h4⟩ | ⟨h1, h2⟩
  · rw [h4]
    rcases T.facts.clash h1 h2 hd with h5 | ⟨h5, _⟩
    · exact h.val h2 (h5.ready h.closed ho hr) h3
    · rw [hcl h3] at h5; cases h5
  · rw [h2]
    refine h.old t fun k' d' hd' hdst => ?_
    rcases Nat.lt_trichotomy k' k with hlt | heq | hgt
    · exact absurd hdst (h1 k' d' hlt hd')
    · subst heq; rw [hd] at hd'; cases hd'; exact hu
    · rcases T.facts.clash hgt hd hd' with h5 | ⟨_, h5⟩
      · exact fun hD => hu (h5.closed h.closed hD)
      · rw [hcl hdst] at h5; cases h5

theorem J.envs (T : Seq P K ops n L S E V W SN BA) (h : J P ops n hi L S E V W g0 w0 df p D HD g a w) {k : Nat} {d : DOper} (hd : L[k]? = some d) (hu : ¬ D d.ix) {o : Oper} {g' : Ghost} {v' : Value}
    (hdo : d.o.dst = o.dst) (hdst : dstOk n o.dst = true) (hle : g.le g') (hv : Rel g' (V k) v') :
    (∀ {k' : Nat} {d' : DOper} {t : Tmp}, L[k']? = some d' → (D d'.ix ∨ d'.ix = d.ix) → d'.o.dst = some t → Rel g' (V k') ((a.put o.dst v').tmps.getD t undef)) ∧
    (∀ t, (∀ (k' : Nat) (d' : DOper), L[k']? = some d' → d'.o.dst = some t → ¬ (D d'.ix ∨ d'.ix = d.ix)) → Rel g' ((E 0).at t) ((a.put o.dst v').tmps.getD t undef)) := by
  have hne : ∀ t, o.dst ≠ some t → (a.put o.dst v').tmps.getD t undef = a.tmps.getD t undef := by
    intro t ht
    cases hx : o.dst with
    | none => rfl
    | some u =>
      have : u ≠ t := fun e => ht (by rw [hx, e])
      simp [Act.put, Array.getElem?_setIfInBounds_ne this]
  have hself : ∀ {k' : Nat} {d' : DOper}, L[k']? = some d' → d'.ix = d.ix → k' = k := by
    intro k' d' h1 h2
    rcases Nat.lt_trichotomy k' k with h3 | h3 | h3
    · exact absurd h2 (T.facts.inj h3 h1 hd)
    · exact h3
    · exact absurd h2.symm (T.facts.inj h3 hd h1)
  constructor
  · intro k' d' t h1 h2 h3
    by_cases e : d'.ix = d.ix
    · have := hself h1 e
      subst this
      rw [hd] at h1; cases h1
      rw [hdo] at h3
      have hlt : t < a.tmps.size := by rw [h.size]; rw [h3] at hdst; simpa [dstOk] using hdst
      rw [h3]
      simp [Act.put, hlt]
      exact hv
    · have hD := h2.resolve_right e
      rw [hne t ?_]
      · exact (h.val h1 hD h3).mono hle
      · intro h4
        rw [← hdo] at h4
        rcases Nat.lt_trichotomy k' k with h5 | h5 | h5
        · exact T.facts.dst h5 h1 hd h4 h3
        · subst h5; rw [hd] at h1; cases h1; exact e rfl
        · exact T.facts.dst h5 hd h1 h3 h4
  · intro t ht
    rw [hne t ?_]
    · exact (h.old t fun k' d' h1 h2 hD => ht k' d' h1 h2 (.inl hD)).mono hle
    · intro h4
      exact ht k d hd (by rw [hdo]; exact h4) (.inr rfl)

theorem J.closed' (T : Seq P K ops n L S E V W SN BA) (h : J P ops n hi L S E V W g0 w0 df p D HD g a w) {d : DOper} {o : Oper} (ho : ops.toList[d.ix]? = some o) (hr : ∀ j ∈ preds o, D j) :
    ∀ i o j, (D i ∨ i = d.ix) → ops.toList[i]? = some o → j ∈ preds o → (D j ∨ j = d.ix) := by
  intro i o' j hi ho' hj
  rcases hi with hi | rfl
  · exact .inl (h.closed i o' j hi ho' hj)
  · rw [ho] at ho'; cases ho'; exact .inl (hr j hj)

theorem alc_lt {k : Nat} (h : alc L W k) : k < L.length := lt_of_at h.choose_spec.1

/-- One that writes nothing here: no new heap but for what it makes. -/
theorem J.quiet (T : Seq P K ops n L S E V W SN BA) (hhi : (S L.length).next ≤ hi) (h : J P ops n hi L S E V W g0 w0 df p D HD g a w) {k : Nat} {d : DOper} (hd : L[k]? = some d) (hu : ¬ D d.ix) {o : Oper} (ho : ops.toList[d.ix]? = some o) (hr : ∀ j ∈ preds o, D j)
    (hdo : d.o.dst = o.dst) (hdst : dstOk n o.dst = true) (hne : ¬ eff L W k) {g' : Ghost} {v' : Value} {w' : World} {HD' : AHeap} (hv : Rel g' (V k) v')
    (hs : Step P (S 0).ro g HD w g' HD' w' (S k).next (S (k + 1)).next)
    (hheap : ∀ id o, o.live = true → (HD' id = some o ↔ HD id = some o ∨ (alc L W k ∧ id = (S k).next ∧ (S (k + 1)).get id = some o))) :
    J P ops n hi L S E V W g0 w0 df p (fun i => D i ∨ i = d.ix) HD' g' (a.put o.dst v') w' := by
  have hpk := h.after T hd hu
  have hk := lt_of_at hd
  obtain ⟨e1, e2⟩ := h.envs T hd hu hdo hdst hs.ext hv
  refine ⟨h.pN, fun q1 q2 => .inl (h.done q1 q2), fun {k' d'} q1 q2 q3 => ?_, h.closed' T ho hr, fun id ob hl => ?_, fun id q1 q2 q3 => ?_, e1, e2, by rw [put_size]; exact h.size, by rw [put_defers]; exact h.defers, ?_⟩
  · rcases q3 with q3 | q3
    · exact h.late q1 q2 q3
    · rcases Nat.lt_trichotomy k' k with h3 | h3 | h3
      · exact absurd q3 (T.facts.inj h3 q2 hd)
      · subst h3; exact hne
      · exact absurd q3.symm (T.facts.inj h3 hd q2)
  · rw [hheap id ob hl, h.heap id ob hl]
    constructor
    · rintro ((q | ⟨k', d', q1, q2, q3, q4⟩) | ⟨q1, q2, q3⟩)
      · exact .inl q
      · exact .inr ⟨k', d', q1, q2, .inl q3, q4⟩
      · exact .inr ⟨k, d, hpk, hd, .inr rfl, q1, q2, q3⟩
    · rintro (q | ⟨k', d', q1, q2, q3, q4⟩)
      · exact .inl (.inl q)
      · rcases q3 with q3 | q3
        · exact .inl (.inr ⟨k', d', q1, q2, q3, q4⟩)
        · have : k' = k := by
            rcases Nat.lt_trichotomy k' k with h3 | h3 | h3
            · exact absurd q3 (T.facts.inj h3 q2 hd)
            · exact h3
            · exact absurd q3.symm (T.facts.inj h3 hd q2)
          subst this
          exact .inr q4
  · by_cases hin : (S k).next ≤ id ∧ id < (S (k + 1)).next
    · by_cases ha : alc L W k
      · refine ⟨k, d, hpk, hd, .inr rfl, ha, ?_⟩
        obtain ⟨d', hd', hW, hal⟩ := ha
        obtain ⟨ob, h1, _, _⟩ := T.new hd' hW hal
        have : (S (k + 1)).next = (S k).next + 1 := by rw [h1]; rfl
        omega
      · rw [T.same hk hne ha] at hin; omega
    · rw [hs.only id hin] at q3
      obtain ⟨k', d', r1, r2, r3, r4⟩ := h.fresh id q1 q2 q3
      exact ⟨k', d', r1, r2, .inl r3, r4⟩
  · exact h.step.trans2 (hs.wider (T.le (Nat.zero_le k) (Nat.le_of_lt hk)).next (T.le (j := k + 1) hk (Nat.le_refl _)).next)
end
end Go.AM
