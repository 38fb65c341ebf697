/-
  THE ABSTRACT MACHINE, 22: regions whose order is open, 4: what the sequence of states is like.
-/
import Derived.Test.YtfknooeebmdfoaaAmDrawC
set_option linter.unusedVariables false
set_option linter.unusedSimpArgs false
set_option linter.unnecessarySimpa false
namespace Go.AM

/-- A run of a region's operations in the machine's order, as far as it is looked at here. -/
structure Seq (P : Program) (K : Ctx) (ops : Array Oper) (n : Nat) (L : List DOper) (S : Nat → St) (E : Nat → Env) (V : Nat → Value) (W : Nat → Bool) (SN : Nat → List St) (BA : Nat → Nat) : Prop where
  goes : Goes P K
  tr : Trace K L S E V W SN BA
  facts : Facts ops.toList L
  comp : ∀ {d : DOper} {o : Oper}, d ∈ L → ops.toList[d.ix]? = some o → d.o = compOper P ops n o ∧ d.writes = !(d.o.op.isPure || d.o.op.isLook || d.o.op.isAlloc)
  top : ∀ id o, (S 0).get id = some o → o.live = true → id < (S 0).next
  ro : (S 0).ro ≤ (S 0).next

section
variable {P : Program} {K : Ctx} {ops : Array Oper} {n : Nat} {L : List DOper} {S : Nat → St} {E : Nat → Env} {V : Nat → Value} {W : Nat → Bool} {SN : Nat → List St} {BA : Nat → Nat}

def eff (L : List DOper) (W : Nat → Bool) (k : Nat) : Prop := ∃ d, L[k]? = some d ∧ W k = true ∧ d.writes = true
def alc (L : List DOper) (W : Nat → Bool) (k : Nat) : Prop := ∃ d, L[k]? = some d ∧ W k = true ∧ d.o.op.isAlloc = true

theorem at_of_lt {k : Nat} (h : k < L.length) : ∃ d, L[k]? = some d := ⟨L[k], by simp [h]⟩
theorem lt_of_at {k : Nat} {d : DOper} (h : L[k]? = some d) : k < L.length := (List.getElem?_eq_some_iff.1 h).1

variable (T : Seq P K ops n L S E V W SN BA)
include T

theorem Seq.le1 {k : Nat} (hk : k < L.length) : StLe (S k) (S (k + 1)) := by
  obtain ⟨d, hd⟩ := at_of_lt hk
  cases hw : W k with
  | false => rw [(T.tr.skip hd hw).2.1]; exact .refl _
  | true => exact oper_le T.goes.le (T.tr.run hd hw)

theorem Seq.le {j k : Nat} (hjk : j ≤ k) (hk : k ≤ L.length) : StLe (S j) (S k) := by
  induction k with
  | zero => have : j = 0 := by omega
            subst this; exact .refl _
  | succ k ih =>
    by_cases e : j = k + 1
    · subst e; exact .refl _
    · exact (ih (by omega) (by omega)).trans (T.le1 (by omega))

theorem Seq.isTop {k : Nat} (hk : k ≤ L.length) {id : Nat} {o : AObj} (h : (S k).get id = some o) (hl : o.live = true) : id < (S k).next := by
  have hle := T.le (Nat.zero_le k) hk
  rcases hle.alive id o h hl with ⟨o0, h0, hl0⟩ | h
  · exact Nat.lt_of_lt_of_le (T.top id o0 h0 hl0) hle.next
  · exact h.2

/-- An operation that writes nothing is none of those that may be calls. -/
theorem Seq.kind {k : Nat} {d : DOper} (hd : L[k]? = some d) (hw : d.writes = false) : d.o.op.isPure = true ∨ d.o.op.isLook = true ∨ d.o.op.isAlloc = true := by
  obtain ⟨o, ho⟩ := T.facts.has hd
  have := (T.comp (List.mem_of_getElem? hd) ho).2
  rw [hw] at this
  have this : (d.o.op.isPure || d.o.op.isLook || d.o.op.isAlloc) = true := by
    cases hx : (d.o.op.isPure || d.o.op.isLook || d.o.op.isAlloc) with
    | true => rfl
    | false => rw [hx] at this; cases this
  simpa [or_assoc] using this

omit T in
theorem notCall {a : AOp} (h : a.isPure = true ∨ a.isLook = true ∨ a.isAlloc = true) : ∀ f args, a ≠ .call f args := by
  intro f args e; subst e; simp [AOp.isPure, AOp.isLook, AOp.isAlloc] at h

theorem Seq.run {k : Nat} {d : DOper} (hd : L[k]? = some d) (hW : W k = true) (hw : d.writes = false) : d.o.op.run (S k) (E k).ev = .ok (V k, S (k + 1)) := by
  have := T.tr.run hd hW
  rwa [notCall_run (notCall (T.kind hd hw))] at this

theorem Seq.same {k : Nat} (hk : k < L.length) (he : ¬ eff L W k) (ha : ¬ alc L W k) : S (k + 1) = S k := by
  obtain ⟨d, hd⟩ := at_of_lt hk
  cases hW : W k with
  | false => exact (T.tr.skip hd hW).2.1
  | true =>
    have hw : d.writes = false := by cases hx : d.writes with | false => rfl | true => exact absurd ⟨d, hd, hW, hx⟩ he
    rcases T.kind hd hw with h | h | h
    · exact (pure_run h (T.run hd hW hw)).1
    · exact (look_run h (T.run hd hW hw)).1
    · exact absurd ⟨d, hd, hW, h⟩ ha

theorem Seq.alcWrites {k : Nat} {d : DOper} (hd : L[k]? = some d) (ha : d.o.op.isAlloc = true) : d.writes = false := by
  obtain ⟨o, ho⟩ := T.facts.has hd
  rw [(T.comp (List.mem_of_getElem? hd) ho).2, ha]
  simp

theorem Seq.new {k : Nat} {d : DOper} (hd : L[k]? = some d) (hW : W k = true) (ha : d.o.op.isAlloc = true) :
    ∃ ob, S (k + 1) = (S k).alloc ob ∧ ob.live = true ∧ ∀ st2 : St, st2.next = (S k).next → d.o.op.run st2 (E k).ev = .ok (V k, st2.alloc ob) :=
  alloc_run ha (T.run hd hW (T.alcWrites hd ha))

theorem Seq.newer {j k : Nat} (hj : alc L W j) (hjk : j < k) (hk : k ≤ L.length) : (S j).next < (S k).next := by
  obtain ⟨d, hd, hW, ha⟩ := hj
  obtain ⟨ob, h1, _⟩ := T.new hd hW ha
  have := (T.le (j := j + 1) (k := k) (by omega) hk).next
  rw [h1] at this
  exact this

theorem Seq.alcInj {j k : Nat} (hj : alc L W j) (hk : alc L W k) (e : (S j).next = (S k).next) : j = k := by
  have h1 := lt_of_at hj.choose_spec.1
  have h2 := lt_of_at hk.choose_spec.1
  rcases Nat.lt_trichotomy j k with h | h | h
  · have := T.newer hj h (Nat.le_of_lt h2); omega
  · exact h
  · have := T.newer hk h (Nat.le_of_lt h1); omega

theorem Seq.notBoth {k : Nat} (ha : alc L W k) (he : eff L W k) : False := by
  obtain ⟨d, hd, _, h⟩ := ha
  obtain ⟨d', hd', _, h'⟩ := he
  rw [hd] at hd'; cases hd'
  rw [T.alcWrites hd h] at h'; cases h'

theorem Seq.seg {p k : Nat} (hpk : p ≤ k) (hk : k ≤ L.length) (hn : ∀ j, p ≤ j → j < k → ¬ eff L W j) : ∀ id o, o.live = true →
    ((S k).get id = some o ↔ (S p).get id = some o ∨ ∃ j, p ≤ j ∧ j < k ∧ alc L W j ∧ id = (S j).next ∧ (S (j + 1)).get id = some o) := by
  induction k with
  | zero =>
    intro id o hl
    have : p = 0 := by omega
    subst this
    exact ⟨fun h => .inl h, fun h => h.elim (fun x => x) (fun ⟨j, _, h, _⟩ => by omega)⟩
  | succ k ih =>
    intro id o hl
    by_cases e : p = k + 1
    · subst e
      exact ⟨fun h => .inl h, fun h => h.elim (fun x => x) (fun ⟨j, h1, h2, _⟩ => by omega)⟩
    · have ih := ih (by omega) (by omega) (fun j h1 h2 => hn j h1 (by omega)) id o hl
      by_cases ha : alc L W k
      · have ha' := ha
        obtain ⟨d, hd, hW, hal⟩ := ha'
        obtain ⟨ob, h1, _, _⟩ := T.new hd hW hal
        have hget : ∀ i, (S (k + 1)).get i = if i = (S k).next then some ob else (S k).get i := by
          intro i; rw [h1, St.get_alloc]; rfl
        constructor
        · intro h
          by_cases ei : id = (S k).next
          · exact .inr ⟨k, by omega, by omega, ha, ei, h⟩
          · rw [hget, if_neg ei] at h
            rcases ih.1 h with h | ⟨j, q1, q2, q3⟩
            · exact .inl h
            · exact .inr ⟨j, q1, by omega, q3⟩
        · intro h
          have old : (S k).get id = some o → (S (k + 1)).get id = some o := by
            intro h
            have := T.isTop (k := k) (by omega) h hl
            rw [hget, if_neg (by omega)]; exact h
          rcases h with h | ⟨j, q1, q2, q3, q4, q5⟩
          · exact old (ih.2 (.inl h))
          · by_cases ej : j = k
            · subst ej; exact q5
            · exact old (ih.2 (.inr ⟨j, q1, by omega, q3, q4, q5⟩))
      · rw [T.same (by omega) (hn k (by omega) (by omega)) ha, ih]
        constructor
        · rintro (h | ⟨j, q1, q2, q3⟩)
          · exact .inl h
          · exact .inr ⟨j, q1, by omega, q3⟩
        · rintro (h | ⟨j, q1, q2, q3, q4⟩)
          · exact .inl h
          · by_cases ej : j = k
            · subst ej; exact absurd q3 ha
            · exact .inr ⟨j, q1, by omega, q3, q4⟩

theorem Seq.envAt {k : Nat} (hk : k ≤ L.length) (t : Tmp) : (∃ j d, j < k ∧ L[j]? = some d ∧ d.o.dst = some t ∧ (E k).at t = V j) ∨ ((∀ j d, j < k → L[j]? = some d → d.o.dst ≠ some t) ∧ (E k).at t = (E 0).at t) := by
  induction k with
  | zero => exact .inr ⟨fun j d h => by omega, rfl⟩
  | succ k ih =>
    obtain ⟨d, hd⟩ := at_of_lt (L := L) (k := k) (by omega)
    rw [T.tr.env hd]
    by_cases e : d.o.dst = some t
    · exact .inl ⟨k, d, by omega, hd, e, by simp [Env.put, e]⟩
    · have h2 : ((E k).put d.o.dst (V k)).at t = (E k).at t := by
        cases hx : d.o.dst with
        | none => rfl
        | some u =>
          simp only [Env.put]
          rw [Env.at_set_ne _ _ (fun e2 => e (by rw [hx, e2]))]
      rw [h2]
      rcases ih (by omega) with ⟨j, d', h1, h3⟩ | ⟨h1, h3⟩
      · exact .inl ⟨j, d', by omega, h3⟩
      · refine .inr ⟨fun j d' hj hd' => ?_, h3⟩
        by_cases ej : j = k
        · subst ej; rw [hd] at hd'; cases hd'; exact e
        · exact h1 j d' (by omega) hd'

/-- The snapshots: one ahead of each that wrote. -/
theorem Seq.snap {q k : Nat} (hqk : q < k) (hk : k ≤ L.length) (hq : eff L W q) (pred : DOper → Bool) (hp : ∀ j d, q ≤ j → j < k → L[j]? = some d → eff L W j → pred d = true) :
    S q ∈ (SN k).take ((L.take k).countP pred) := by
  induction k with
  | zero => omega
  | succ k ih =>
    obtain ⟨d, hd⟩ := at_of_lt (L := L) (k := k) (by omega)
    have htake : (L.take (k + 1)).countP pred = (L.take k).countP pred + if pred d then 1 else 0 := by
      rw [List.take_add_one, hd]; simp [List.countP_append]
    by_cases he : eff L W k
    · have hpd := hp k d (by omega) (by omega) hd he
      obtain ⟨d', hd', hW, hw⟩ := he
      rw [hd] at hd'; cases hd'
      rw [(T.tr.wr hd hW hw).1, htake, hpd]
      simp only [if_true, List.take_succ_cons]
      by_cases e : q = k
      · subst e; simp
      · exact List.mem_cons_of_mem _ (ih (by omega) (by omega) (fun j d' h1 h2 => hp j d' h1 (by omega)))
    · have hne : q ≠ k := fun e => he (e ▸ hq)
      have hSN : SN (k + 1) = SN k := by
        cases hW : W k with
        | false => exact (T.tr.skip hd hW).2.2.1
        | true =>
          have hw : d.writes = false := by cases hx : d.writes with | false => rfl | true => exact absurd ⟨d, hd, hW, hx⟩ he
          exact (T.tr.rd hd hW hw).1
      have := ih (by omega) (by omega) (fun j d' h1 h2 => hp j d' h1 (by omega))
      rw [hSN, htake]
      exact (List.take_sublist_take_left (by omega)).mem this

theorem Seq.base {k : Nat} (hk : k ≤ L.length) : (∃ b, b < k ∧ eff L W b ∧ (∀ j, b < j → j < k → ¬ eff L W j) ∧ BA k = (S (b + 1)).next) ∨ (∀ j, j < k → ¬ eff L W j) := by
  induction k with
  | zero => exact .inr fun j h => by omega
  | succ k ih =>
    obtain ⟨d, hd⟩ := at_of_lt (L := L) (k := k) (by omega)
    by_cases he : eff L W k
    · have he' := he
      obtain ⟨d', hd', hW, hw⟩ := he'
      rw [hd] at hd'; cases hd'
      exact .inl ⟨k, by omega, he, fun j h1 h2 => by omega, (T.tr.wr hd hW hw).2⟩
    · have hBA : BA (k + 1) = BA k := by
        cases hW : W k with
        | false => exact (T.tr.skip hd hW).2.2.2
        | true =>
          have hw : d.writes = false := by cases hx : d.writes with | false => rfl | true => exact absurd ⟨d, hd, hW, hx⟩ he
          exact (T.tr.rd hd hW hw).2.1
      rcases ih (by omega) with ⟨b, h1, h2, h3, h4⟩ | h
      · refine .inl ⟨b, by omega, h2, fun j q1 q2 => ?_, hBA.trans h4⟩
        by_cases e : j = k
        · subst e; exact he
        · exact h3 j q1 (by omega)
      · refine .inr fun j q => ?_
        by_cases e : j = k
        · subst e; exact he
        · exact h j (by omega)
end
end Go.AM
