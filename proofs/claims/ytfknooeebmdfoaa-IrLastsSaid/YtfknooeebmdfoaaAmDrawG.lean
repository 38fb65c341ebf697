/-
  THE ABSTRACT MACHINE, 25: regions whose order is open, 7: one that writes; the whole region; what the machine says the model does.
-/
import Derived.Test.YtfknooeebmdfoaaAmDrawF
set_option linter.unusedVariables false
set_option linter.unusedSimpArgs false
set_option linter.unnecessarySimpa false
namespace Go.AM

section
variable {P : Program} {K : Ctx} {ops : Array Oper} {n hi : Nat} {L : List DOper} {S : Nat → St} {E : Nat → Env} {V : Nat → Value} {W : Nat → Bool} {SN : Nat → List St} {BA : Nat → Nat}
  {g0 : Ghost} {w0 : World} {df : List Deferred} {p : Nat} {D : Nat → Prop} {HD : AHeap} {g : Ghost} {a : Act} {w : World}

open Classical in
theorem J.writer (T : Seq P K ops n L S E V W SN BA) (hhi : (S L.length).next ≤ hi) (h : J P ops n hi L S E V W g0 w0 df p D HD g a w) {k : Nat} {d : DOper} (hd : L[k]? = some d) (hu : ¬ D d.ix) {o : Oper} (ho : ops.toList[d.ix]? = some o) (hr : ∀ j ∈ preds o, D j)
    (hdo : d.o.dst = o.dst) (hop : d.o.op = compOp P o) (hdst : dstOk n o.dst = true) (hρ : ∀ x ∈ o.op.operands.toList, Rel g ((E k).ev x) (a.eval x)) (hW : W k = true) (hwr : d.writes = true)
    {fr : Option Nat} {m : Nat} {next : Act → World → Prop} {Q : Exit → Act → World → Prop}
    (hn : ∀ HD' g' v' w', J P ops n hi L S E V W g0 w0 df (k + 1) (fun i => D i ∨ i = d.ix) HD' g' (a.put o.dst v') w' → next (a.put o.dst v') w') : o.wpIn (Fr fr) m P a w next Q := by
  have hpk := h.after T hd hu
  have hk := lt_of_at hd
  have hkl := Nat.le_of_lt hk
  have heff : eff L W k := ⟨d, hd, hW, hwr⟩
  have hall : ∀ {i s}, i < k → L[i]? = some s → D s.ix := fun {i s} hi hs => (T.facts.chain hi hs hd hwr).ready h.closed ho hr
  have hnoeff : ∀ j, p ≤ j → j < k → ¬ eff L W j := fun j j1 j2 => by
    obtain ⟨s, hs⟩ := at_of_lt (L := L) (k := j) (by omega)
    exact h.late j1 hs (hall j2 hs)
  have hseg := T.seg hpk hkl hnoeff
  have hsub : ∀ id ob, (S k).get id = some ob → ob.live = true → HD id = some ob := by
    intro id ob q hl
    rcases (hseg id ob hl).1 q with q | ⟨j, j1, j2, j3, j4, j5⟩
    · exact (h.heap id ob hl).2 (.inl q)
    · obtain ⟨s, hs⟩ := at_of_lt (L := L) (k := j) (by omega)
      exact (h.heap id ob hl).2 (.inr ⟨j, s, j1, hs, hall j2 hs, j3, j4, j5⟩)
  have hle0 := T.le (Nat.zero_le k) hkl
  have hro : (S k).ro = (S 0).ro := hle0.ro
  have hrole : (S 0).ro ≤ (S k).next := Nat.le_trans T.ro hle0.next
  have hle1 := T.le1 hk
  have hleN := T.le (j := k + 1) hk (Nat.le_refl _)
  -- early names
  have early : ∀ id, (S k).next ≤ id → id < hi → g id ≠ none → ∃ k' d', k < k' ∧ L[k']? = some d' ∧ D d'.ix ∧ alc L W k' ∧ id = (S k').next ∧ (S (k + 1)).next ≤ id := by
    intro id q1 q2 q3
    obtain ⟨k', d', r1, r2, r3, r4, r5⟩ := h.fresh id (Nat.le_trans (T.le hpk hkl).next q1) q2 q3
    have hk' : k < k' := by
      rcases Nat.lt_trichotomy k' k with h3 | h3 | h3
      · have := T.newer r4 h3 hkl; omega
      · subst h3; rw [hd] at r2; cases r2; exact absurd r3 hu
      · exact h3
    refine ⟨k', d', hk', r2, r3, r4, r5, ?_⟩
    rw [r5]; exact (T.le (j := k + 1) (k := k') hk' (Nat.le_of_lt (lt_of_at r2))).next
  have hI : Inv0 P (S (k + 1)).next (S k) g w :=
    ⟨by rw [hro]; exact h.step.rl.sub hsub, by rw [hro]; exact hrole, fun id q1 q2 => by
      cases hx : g id with
      | none => rfl
      | some G =>
        obtain ⟨k', d', _, _, _, _, _, r⟩ := early id q1 (by have := hleN.next; omega) (by rw [hx]; simp)
        omega, fun id ob q hl => T.isTop hkl q hl⟩
  have hrun := T.tr.run hd hW
  rw [hop] at hrun
  refine oper_wp T.goes hI (Nat.le_refl _) hρ hrun fun v' w' g' hv hto => ?_
  have hs := hto.step
  rw [hro] at hs
  let HD' : AHeap := fun id => if Touched (S k).get (S k).next (S (k + 1)).next id then (S (k + 1)).get id else HD id
  refine hn HD' g' v' w' ?_
  have hstep : Step P (S 0).ro g HD w g' HD' w' (S k).next (S (k + 1)).next :=
    Step.beside h.step.rl hrole hsub hs hto.le.alive (fun id ob hl ht => by simp only [HD', if_pos ht]) (fun id ob hl ht => by simp only [HD', if_neg ht])
  obtain ⟨e1, e2⟩ := h.envs T hd hu hdo hdst hs.ext hv
  have hself : ∀ {k' : Nat} {d' : DOper}, L[k']? = some d' → d'.ix = d.ix → k' = k := by
    intro k' d' h1 h2
    rcases Nat.lt_trichotomy k' k with h3 | h3 | h3
    · exact absurd h2 (T.facts.inj h3 h1 hd)
    · exact h3
    · exact absurd h2.symm (T.facts.inj h3 hd h1)
  refine ⟨hk, fun {k' d'} q1 q2 => ?_, fun {k' d'} q1 q2 q3 => ?_, h.closed' T ho hr, fun id ob hl => ?_, fun id q1 q2 q3 => ?_, e1, e2, by rw [put_size]; exact h.size, by rw [put_defers]; exact h.defers, h.step.trans2 (hstep.wider hle0.next hleN.next)⟩
  · by_cases e : k' = k
    · subst e; rw [hd] at q2; cases q2; exact .inr rfl
    · exact .inl (hall (by omega) q2)
  · rcases q3 with q3 | q3
    · exact h.late (by omega) q2 q3
    · have := hself q2 q3; omega
  · constructor
    · intro q
      by_cases ht : Touched (S k).get (S k).next (S (k + 1)).next id
      · simp only [HD', if_pos ht] at q; exact .inl q
      · simp only [HD', if_neg ht] at q
        rcases (h.heap id ob hl).1 q with q | ⟨k', d', r1, r2, r3, r4, r5, r6⟩
        · exact absurd (.inl ⟨ob, (hseg id ob hl).2 (.inl q), hl⟩) ht
        · rcases Nat.lt_trichotomy k' k with h3 | h3 | h3
          · exact absurd (.inl ⟨ob, (hseg id ob hl).2 (.inr ⟨k', r1, h3, r4, r5, r6⟩), hl⟩) ht
          · subst h3; exact (T.notBoth r4 heff).elim
          · exact .inr ⟨k', d', h3, r2, .inl r3, r4, r5, r6⟩
    · rintro (q | ⟨k', d', r1, r2, r3, r4, r5, r6⟩)
      · have ht : Touched (S k).get (S k).next (S (k + 1)).next id := hto.le.alive id ob q hl
        simp only [HD', if_pos ht]; exact q
      · have hge : (S (k + 1)).next ≤ id := by rw [r5]; exact (T.le (j := k + 1) (k := k') r1 (Nat.le_of_lt (lt_of_at r2))).next
        have ht : ¬ Touched (S k).get (S k).next (S (k + 1)).next id := by
          rintro (⟨o0, q1, q2⟩ | ⟨_, q2⟩)
          · have := T.isTop hkl q1 q2; have := hle1.next; omega
          · omega
        simp only [HD', if_neg ht]
        have hD : D d'.ix := r3.resolve_right fun e => by have := hself r2 e; omega
        exact (h.heap id ob hl).2 (.inr ⟨k', d', by omega, r2, hD, r4, r5, r6⟩)
  · rw [hs.only id (by omega)] at q3
    obtain ⟨k', d', r1, r2, r3, r4, r5, _⟩ := early id (Nat.le_trans hle1.next q1) q2 q3
    exact ⟨k', d', r1, r2, .inl r3, r4, r5⟩

/-- All done. -/
theorem J.final (T : Seq P K ops n L S E V W SN BA) (h : J P ops n hi L S E V W g0 w0 df p D HD g a w) (hall : ∀ {k : Nat} {d : DOper}, L[k]? = some d → D d.ix) :
    Step P (S 0).ro g0 (S 0).get w0 g (S L.length).get w (S 0).next (S L.length).next ∧ EnvRel g (E L.length) a.tmps := by
  refine ⟨h.step.congr fun id ob hl => ?_, fun t => ?_⟩
  · rw [T.seg h.pN (Nat.le_refl _) (fun j j1 j2 => by obtain ⟨s, hs⟩ := at_of_lt (L := L) j2; exact h.late j1 hs (hall hs)) id ob hl, h.heap id ob hl]
    constructor
    · rintro (q | ⟨j, j1, j2, j3, j4, j5⟩)
      · exact .inl q
      · obtain ⟨s, hs⟩ := at_of_lt (L := L) j2
        exact .inr ⟨j, s, j1, hs, hall hs, j3, j4, j5⟩
    · rintro (q | ⟨j, s, j1, j2, _, j3, j4, j5⟩)
      · exact .inl q
      · exact .inr ⟨j, j1, lt_of_at j2, j3, j4, j5⟩
  · rcases T.envAt (Nat.le_refl _) t with ⟨j, d, h1, h2, h3, h4⟩ | ⟨h1, h2⟩
    · rw [h4]; exact h.val h2 (hall h2) h3
    · rw [h2]; exact h.old t fun k d q1 q2 => absurd q2 (h1 k d (lt_of_at q1) q1)

/-! ### The whole region -/

theorem count_set {l : List Nat} {q q' : Nat → Bool} {i : Nat} (hn : l.Nodup) (hi : i ∈ l) (h1 : q i = true) (h2 : q' i = false) (h3 : ∀ j, j ≠ i → q' j = q j) : l.countP q = l.countP q' + 1 := by
  induction l with
  | nil => cases hi
  | cons x l ih =>
    rw [List.nodup_cons] at hn
    rw [List.countP_cons, List.countP_cons]
    by_cases e : x = i
    · subst e
      have : l.countP q = l.countP q' := List.countP_congr fun j hj => by rw [h3 j (fun e => hn.1 (e ▸ hj))]
      simp [h1, h2, this]
    · have hi' : i ∈ l := (List.mem_cons.1 hi).resolve_left (fun e' => e e'.symm)
      rw [h3 x e, ih hn.2 hi']
      omega

theorem any_wp (T : Seq P K ops n L S E V W SN BA) (hhi : (S L.length).next ≤ hi) (hcov : ∀ i, i < ops.size → ∃ (k : Nat) (d : DOper), L[k]? = some d ∧ d.ix = i) {fr : Option Nat} {m : Nat} {Q : Exit → Act → World → Prop}
    (hQ : ∀ g a w, Step P (S 0).ro g0 (S 0).get w0 g (S L.length).get w (S 0).next (S L.length).next → EnvRel g (E L.length) a.tmps → a.tmps.size = n → a.defers = df → Q .normal a w) :
    ∀ (fuel : Nat) (listed : Array Bool) (p : Nat) (HD : AHeap) (g : Ghost) (a : Act) (w : World), listed.size = ops.size → (List.range ops.size).countP (fun i => !listed.getD i false) = fuel →
      J P ops n hi L S E V W g0 w0 df p (fun i => listed.getD i false = true) HD g a w → wpAnyIn (Fr fr) m P .any ops Q fuel listed a w := by
  have hixlt : ∀ {k : Nat} {d : DOper}, L[k]? = some d → d.ix < ops.size := fun {k d} hd => by
    obtain ⟨o, ho⟩ := T.facts.has hd
    have := (List.getElem?_eq_some_iff.1 ho).1
    simpa using this
  intro fuel
  induction fuel with
  | zero =>
    intro listed p HD g a w hsz hc h
    have hall : ∀ i, i < ops.size → listed.getD i false = true := by
      intro i hi'
      have := List.countP_eq_zero.1 hc i (List.mem_range.2 hi')
      simpa using this
    obtain ⟨f1, f2⟩ := h.final T fun {k d} hd => hall _ (hixlt hd)
    refine ⟨?_, hQ g a w f1 f2 h.size h.defers⟩
    cases hrd : Region.ready .any ops listed with
    | nil => rfl
    | cons i rest =>
      have hmem : i ∈ Region.ready .any ops listed := by rw [hrd]; simp
      obtain ⟨hun, o, ho, _⟩ := mem_ready.1 hmem
      have hlt := (Array.getElem?_eq_some_iff.1 ho).1
      have := hall i hlt
      have hlt' : i < listed.size := by omega
      simp [hlt'] at hun this
      rw [hun] at this; cases this
  | succ fuel ih =>
    intro listed p HD g a w hsz hc h
    have hlist : ∀ i, i < ops.size → (listed.getD i true = listed.getD i false) := fun i hi' => by
      have : i < listed.size := by omega
      simp [this]
    have hready : ∀ i, i ∈ Region.ready .any ops listed ↔ listed.getD i true = false ∧ ∃ o, ops[i]? = some o ∧ ∀ j ∈ preds o, listed.getD j false = true := by
      intro i
      rw [mem_ready]
      refine and_congr Iff.rfl (exists_congr fun o => and_congr Iff.rfl ?_)
      constructor
      · intro hh j hj
        unfold preds at hj
        rw [List.mem_map] at hj
        obtain ⟨e, he, rfl⟩ := hj
        rw [List.mem_filter] at he
        exact hh e (by simpa using he.1) he.2
      · intro hh e he hb
        exact hh e.on (List.mem_map.2 ⟨e, List.mem_filter.2 ⟨by simpa using he, hb⟩, rfl⟩)
    refine ⟨fun hnil => ?_, fun i hi' => ?_⟩
    · -- nothing ready: then nothing is left; but something is
      exfalso
      have hex : ∃ (k : Nat) (d : DOper), L[k]? = some d ∧ listed.getD d.ix false = false := by
        refine Classical.byContradiction fun hno => ?_
        have h0 : (List.range ops.size).countP (fun i => !listed.getD i false) = 0 := List.countP_eq_zero.2 fun i hi' => by
          obtain ⟨k, d, hd, e⟩ := hcov i (List.mem_range.1 hi')
          show ¬ ((!listed.getD i false) = true)
          cases hx : listed.getD i false with
          | true => decide
          | false => exact absurd ⟨k, d, hd, by rw [e]; exact hx⟩ hno
        omega
      obtain ⟨k, ⟨d, hd, hun⟩, hmin⟩ : ∃ k : Nat, (∃ d : DOper, L[k]? = some d ∧ listed.getD d.ix false = false) ∧ ∀ j, j < k → ¬ ∃ d : DOper, L[j]? = some d ∧ listed.getD d.ix false = false := by
        obtain ⟨k, hk⟩ := hex
        induction k using Nat.strongRecOn with
        | _ k ihk =>
          by_cases hx : ∃ j, j < k ∧ ∃ d : DOper, L[j]? = some d ∧ listed.getD d.ix false = false
          · obtain ⟨j, hj, hj2⟩ := hx; exact ihk j hj hj2
          · exact ⟨k, hk, fun j hj hj2 => hx ⟨j, hj, hj2⟩⟩
      obtain ⟨o, ho⟩ := T.facts.has hd
      have hmem : d.ix ∈ Region.ready .any ops listed := by
        refine (hready _).2 ⟨by rw [hlist _ (hixlt hd)]; exact hun, o, by simpa using ho, fun j hj => ?_⟩
        obtain ⟨i, s, h1, h2, h3⟩ := T.facts.topo hd ho hj
        cases hx : listed.getD j false with
        | true => rfl
        | false => exact absurd ⟨s, h2, by rw [h3]; exact hx⟩ (hmin i h1)
      rw [hnil] at hmem; cases hmem
    · obtain ⟨hun, o, ho, hprd⟩ := (hready i).1 hi'
      have hilt := (Array.getElem?_eq_some_iff.1 ho).1
      obtain ⟨k, d, hd, rfl⟩ := hcov i hilt
      have ho' : ops.toList[d.ix]? = some o := by simpa using ho
      rw [hlist _ hilt] at hun
      have hu : ¬ listed.getD d.ix false = true := by rw [hun]; simp
      -- after it
      have hset : (fun j => (listed.setIfInBounds d.ix true).getD j false = true) = fun j => listed.getD j false = true ∨ j = d.ix := by
        funext j
        have hlt : d.ix < listed.size := by omega
        by_cases e : j = d.ix
        · subst e; simp [hlt]
        · simp [Array.getElem?_setIfInBounds_ne (Ne.symm e), e]
      have hcnt : (List.range ops.size).countP (fun j => !(listed.setIfInBounds d.ix true).getD j false) = fuel := by
        have hlt : d.ix < listed.size := by omega
        have := count_set (l := List.range ops.size) (q := fun j => !listed.getD j false) (q' := fun j => !(listed.setIfInBounds d.ix true).getD j false) (i := d.ix) List.nodup_range (List.mem_range.2 hilt)
          (by simp only [hun, Bool.not_false]) (by simp [hlt]) (fun j hj => by simp [Array.getElem?_setIfInBounds_ne (Ne.symm hj)])
        omega
      have hnext : ∀ {p' HD' g' a' w'}, J P ops n hi L S E V W g0 w0 df p' (fun j => listed.getD j false = true ∨ j = d.ix) HD' g' a' w' → wpAnyIn (Fr fr) m P .any ops Q fuel (listed.setIfInBounds d.ix true) a' w' :=
        fun {p' HD' g' a' w'} hj => ih _ p' HD' g' a' w' (by simpa using hsz) hcnt (by rw [hset]; exact hj)
      obtain ⟨hdo1, _⟩ := T.comp (List.mem_of_getElem? hd) ho'
      obtain ⟨gd, c1, c2, c3, c4⟩ := compOper_at (P := P) (ops := ops) (n := n) (o := o) (K := K) (by rw [← hdo1]; exact T.tr.want hd) (fun hW => by rw [← hdo1]; exact T.tr.run hd hW)
      have hdo : d.o = ⟨o.dst, gd, compOp P o⟩ := hdo1.trans c4
      have hrd : ∀ {t : Tmp}, t ∈ readsOf ops.toList d → Rel g ((E k).at t) (a.tmps.getD t undef) := fun ht => h.reads T hd hu ho' hprd ht
      have hρ : ∀ x ∈ o.op.operands.toList, Rel g ((E k).ev x) (a.eval x) := fun x hx => by
        refine ev_rel' h.step.rl.glob (fun t e => hrd ?_) (List.all_eq_true.1 c3 x hx)
        subst e
        unfold readsOf
        rw [ho']
        exact List.mem_append_left _ (List.mem_filterMap.2 ⟨.tmp t, hx, rfl⟩)
      have hwant := T.tr.want hd
      rw [hdo] at hwant
      have hwanted := wants_ok' (g := g) (a := a) (ops := ops) (o := o) (fun t c e => hrd (by
        subst e
        unfold readsOf
        rw [hdo]
        exact List.mem_append_right _ (by simp))) c1 hwant
      unfold wpOpIn
      simp only [ho]
      cases hW : W k with
      | true =>
        rw [hwanted, hW]
        simp only [if_true]
        cases hwr : d.writes with
        | true => exact h.writer T hhi hd hu ho' hprd (by rw [hdo]) (by rw [hdo]) c2 hρ hW hwr fun HD' g' v' w' hj => hnext hj
        | false => exact h.plain T hhi hd hu ho' hprd (by rw [hdo]) (by rw [hdo]) c2 hρ hW hwr fun HD' g' v' w' hj => hnext hj
      | false =>
        rw [hwanted, hW]
        simp only [Bool.false_eq_true, if_false]
        exact ⟨fun _ _ => trivial, hnext (h.skipped T hhi hd hu ho' hprd (by rw [hdo]) c2 hW)⟩
end

theorem draw_ok {P : Program} {K : Ctx} (hm : P.follows .mixedOrders = true) (hK : Goes P K) : DrawOk P K := by
  intro id ops fr hi m n b e e' st st' g a w Q hok hhi h hI hQ
  unfold okDraw at hok
  simp only [Bool.and_eq_true] at hok
  obtain ⟨hcov, hL⟩ := hok
  obtain ⟨S, E, V, W, SN, BA, tr, a1, a2, a3, a4, a5, a6⟩ := drawC_trace _ _ _ _ _ _ _ h
  have T : Seq P K ops n (compDraw P ops n) S E V W SN BA :=
    { goes := hK, tr := tr, facts := facts_of hL, comp := fun hd ho => compDraw_at hd ho, top := by rw [a1]; exact hI.base.top, ro := by rw [a1]; exact hI.base.ro }
  have hlen : (S (compDraw P ops n).length).next ≤ hi := by rw [a5]; exact hhi
  have hrep : ∀ i, (Array.replicate ops.size false).getD i false = false := by
    intro i
    simp only [Array.getD_eq_getD_getElem?, Array.getElem?_replicate]
    split <;> rfl
  have hnot : ∀ i, ¬ (Array.replicate ops.size false).getD i false = true := fun i q => by rw [hrep] at q; cases q
  refine wpIn_region_any hm ?_
  refine any_wp (g0 := g) (w0 := { w with drawn := w.drawn + 1 }) (df := a.defers) T hlen (fun i hi' => ?_) (fun g' a' w' hs henv hsz hdf => ?_) ops.size _ 0 st.get g a _ (by simp) ?_ ?_
  · have := List.all_eq_true.1 hcov i (List.mem_range.2 hi')
    obtain ⟨d, hd, e⟩ := List.any_eq_true.1 this
    obtain ⟨k, hk⟩ := List.mem_iff_getElem?.1 hd
    exact ⟨k, d, hk, by simpa using e⟩
  · rw [a1, a5] at hs
    rw [a6] at henv
    have hle : StLe st st' := drawC_le hK.le _ _ _ _ _ _ _ h
    have hs0 : Step P st.ro g st.get w g st.get { w with drawn := w.drawn + 1 } st.next st.next := Step.drawn (w' := { w with drawn := w.drawn + 1 }) hI.base.rl rfl rfl rfl rfl _ _
    have hto : To P st g w st' g' w' := ⟨hle, hs0.trans hs (Nat.le_refl _) hle.next⟩
    exact hQ a' w' g' (hI.to hto henv (by rw [hsz, hI.size]) hdf) hto
  · have : (List.range ops.size).countP (fun i => !(Array.replicate ops.size false).getD i false) = (List.range ops.size).length := List.countP_eq_length.2 fun i _ => by rw [hrep]; rfl
    rw [this, List.length_range]
  · refine ⟨Nat.zero_le _, fun h => by omega, fun {k d} _ _ q => absurd q (hnot _), fun i o j q => absurd q (hnot _), fun i o hl => ?_, fun i q1 q2 q3 => ?_, fun {k d t} _ q => absurd q (hnot _), fun t _ => by rw [a2]; exact hI.env t, hI.size, rfl, ?_⟩
    · rw [a1]
      exact ⟨.inl, fun q => q.elim (fun x => x) fun ⟨k, d, _, _, q, _⟩ => absurd q (hnot _)⟩
    · rw [a1] at q1
      exact absurd (hI.base.fresh i q1 q2) q3
    · rw [a1]; exact Step.refl (w := { w with drawn := w.drawn + 1 }) hI.base.rl _ _

/-- WHAT THE MACHINE SAYS, THE MODEL DOES. -/
theorem goes_all {P : Program} (hm : P.follows .mixedOrders = true) (n : Nat) : Goes P (ctxOf (runT (funs P) n) n) := goes (fun _ h => draw_ok hm h) n
end Go.AM
