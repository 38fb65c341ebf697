/-
  Plain law: a row of instructions, each register set once, ahead of being read.
-/
import Derived.Test.YtenfblnmmmppbaaSt4
import Derived.Test.YtenfblnmmmppbaaIrLine
set_option linter.unusedVariables false
set_option linter.unusedSimpArgs false
set_option linter.unusedSectionVars false
set_option maxRecDepth 100000
namespace Go.Proofs.Ytenfblnmmmppbaa.Sh
open Go Go.AM Go.Proofs

/-- What the law keeps: which are set; is one set twice; is one read unset. -/
structure Lw where
  set : List Int
  tw : Bool
  un : Bool
def lwStep (q : Lw) (y : Instr) : Lw :=
  if y.sets.2 = true then ⟨setS q.set y.sets.1, q.tw || decide (y.sets.1 ∈ q.set), q.un || y.reads.any fun r => !decide (r ∈ q.set)⟩ else ⟨q.set, q.tw, q.un || y.reads.any fun r => !decide (r ∈ q.set)⟩
def lwTo (ys : List Instr) : Nat → Lw
  | 0 => ⟨[], false, false⟩
  | k + 1 => match ys[k]? with | some y => lwStep (lwTo ys k) y | none => lwTo ys k
theorem lwTo_succ {ys : List Instr} {k : Nat} (h : k < ys.length) : lwTo ys (k + 1) = lwStep (lwTo ys k) ys[k] := by
  have : lwTo ys (k + 1) = (match ys[k]? with | some y => lwStep (lwTo ys k) y | none => lwTo ys k) := rfl
  rw [this, List.getElem?_eq_getElem h]
theorem plTo_succ {ys : List Instr} {k : Nat} (h : k < ys.length) : plTo ys (k + 1) = plStep (plTo ys k) ys[k] k := by
  have : plTo ys (k + 1) = (match ys[k]? with | some x => plStep (plTo ys k) x k | none => plTo ys k) := rfl
  rw [this, List.getElem?_eq_getElem h]

/-- Both keep the same. -/
theorem same_set {ys : List Instr} : ∀ k ≤ ys.length, (∀ r, r ∈ (lwTo ys k).set ↔ (pget (plTo ys k).1 r).isSome = true) ∧ (lwTo ys k).tw = !(plTo ys k).2 := by
  intro k
  induction k with
  | zero => intro _; exact ⟨fun r => by simp [lwTo, plTo, pget], rfl⟩
  | succ k ih =>
    intro hk
    obtain ⟨h1, h2⟩ := ih (by omega)
    rw [lwTo_succ (by omega), plTo_succ (by omega)]
    unfold lwStep plStep
    by_cases hs : ys[k].sets.2 = true
    · rw [if_pos hs, if_pos hs]
      refine ⟨fun r => ?_, ?_⟩
      · simp only [mem_setS, pget_put, h1]
        split
        · rename_i e; simp [e]
        · rename_i e; simp [e]
      · simp only [h2]
        have := h1 ys[k].sets.1
        cases hg : pget (plTo ys k).1 ys[k].sets.1 with
        | none =>
          rw [hg] at this
          have hn : ¬ ys[k].sets.1 ∈ (lwTo ys k).set := fun hm => by have := this.1 hm; cases this
          simp [hn]
        | some x =>
          rw [hg] at this
          have hn : ys[k].sets.1 ∈ (lwTo ys k).set := this.2 rfl
          simp [hn]
    · rw [if_neg hs, if_neg hs]
      exact ⟨h1, h2⟩
theorem set_mono {ys : List Instr} {k : Nat} {r : Int} (h : r ∈ (lwTo ys k).set) : ∀ n, k ≤ n → n ≤ ys.length → r ∈ (lwTo ys n).set := by
  intro n
  induction n with
  | zero => intro hk _; have : k = 0 := by omega
            subst this; exact h
  | succ n ih =>
    intro hk hn
    by_cases e : k = n + 1
    · subst e; exact h
    · have := ih (by omega) (by omega)
      rw [lwTo_succ (by omega)]
      unfold lwStep
      split
      · exact mem_setS.2 (.inl this)
      · exact this
/-- Where a register was set: ahead. -/
theorem place_in {ys : List Instr} : ∀ k ≤ ys.length, ∀ r x, pget (plTo ys k).1 r = some x → ∃ i : Nat, x.2 = i ∧ i < k ∧ r ∈ (lwTo ys (i + 1)).set := by
  intro k
  induction k with
  | zero => intro _ r x h; cases h
  | succ k ih =>
    intro hk r x h
    rw [plTo_succ (by omega)] at h
    unfold plStep at h
    split at h
    · rename_i hs
      simp only [pget_put] at h
      split at h
      · rename_i e
        cases h
        refine ⟨k, rfl, Nat.lt_succ_self _, ?_⟩
        rw [lwTo_succ (by omega)]
        unfold lwStep
        rw [if_pos hs]
        exact mem_setS.2 (.inr e)
      · obtain ⟨i, h1, h2, h3⟩ := ih (by omega) r x h
        exact ⟨i, h1, by omega, h3⟩
    · obtain ⟨i, h1, h2, h3⟩ := ih (by omega) r x h
      exact ⟨i, h1, by omega, h3⟩
/-- It stays, if none is set twice. -/
theorem once_down {ys : List Instr} {k : Nat} (hk : k < ys.length) (h : (plTo ys (k + 1)).2 = true) : (plTo ys k).2 = true ∧ (ys[k].sets.2 = true → pget (plTo ys k).1 ys[k].sets.1 = none) := by
  rw [plTo_succ hk] at h
  unfold plStep at h
  split at h
  · rename_i hs
    simp only [Bool.and_eq_true] at h
    exact ⟨h.1, fun _ => by simpa using h.2⟩
  · rename_i hs
    exact ⟨h, fun e => absurd e hs⟩
theorem place_stays {ys : List Instr} {k : Nat} {r : Int} {x : Int × Int} (hx : pget (plTo ys k).1 r = some x) : ∀ n, k ≤ n → n ≤ ys.length → (plTo ys n).2 = true → pget (plTo ys n).1 r = some x := by
  intro n
  induction n with
  | zero => intro hk _ _; have : k = 0 := by omega
            subst this; exact hx
  | succ n ih =>
    intro hk hn ho
    by_cases e : k = n + 1
    · subst e; exact hx
    · obtain ⟨o1, o2⟩ := once_down (by omega) ho
      have := ih (by omega) (by omega) o1
      rw [plTo_succ (by omega)]
      unfold plStep
      split
      · rename_i hs
        simp only [pget_put]
        rw [if_neg fun e => by
          have h := o2 hs
          rw [← e, this] at h
          cases h]
        exact this
      · exact this

theorem ahead_set {ys : List Instr} (ho : (places ys).2 = true) {k : Nat} (hk : k ≤ ys.length) (r : Int) : aheadP (places ys).1 r k = decide (r ∈ (lwTo ys k).set) := by
  unfold aheadP places at *
  by_cases hm : r ∈ (lwTo ys k).set
  · have h1 := ((same_set k hk).1 r).1 hm
    obtain ⟨x, hx⟩ := Option.isSome_iff_exists.1 h1
    obtain ⟨i, h2, h3, _⟩ := place_in k hk r x hx
    have := place_stays hx ys.length hk (Nat.le_refl _) ho
    rw [this, decide_eq_true hm]
    simp only [h2]
    exact decide_eq_true (by omega)
  · rw [decide_eq_false hm]
    cases hg : pget (plTo ys ys.length).1 r with
    | none => rfl
    | some x =>
      obtain ⟨i, h2, h3, h4⟩ := place_in _ (Nat.le_refl _) r x hg
      simp only [h2]
      refine decide_eq_false fun hlt => hm (set_mono h4 k (by omega) hk)

theorem rest_iff {ys : List Instr} (ho : (places ys).2 = true) (d : Nat) : ∀ k, k + d = ys.length → (restOk (places ys).1 k (ys.drop k) = true ↔ ∀ j, (hj : j < ys.length) → k ≤ j → ∀ r ∈ ys[j].reads, r ∈ (lwTo ys j).set) := by
  induction d with
  | zero =>
    intro k hk
    rw [List.drop_eq_nil_of_le (by omega)]
    exact ⟨fun _ j hj hkj => by omega, fun _ => rfl⟩
  | succ d ih =>
    intro k hk
    have hlt : k < ys.length := by omega
    rw [List.drop_eq_getElem_cons hlt]
    unfold restOk okAt
    rw [Bool.and_eq_true, ih (k + 1) (by omega), List.all_eq_true]
    constructor
    · rintro ⟨h1, h2⟩ j hj hkj r hr
      by_cases e : j = k
      · subst e
        have := h1 r hr
        rw [ahead_set ho (by omega)] at this
        exact of_decide_eq_true this
      · exact h2 j hj (by omega) r hr
    · intro h
      refine ⟨fun r hr => ?_, fun j hj hkj r hr => h j hj (by omega) r hr⟩
      rw [ahead_set ho (by omega)]
      exact decide_eq_true (h k hlt (Nat.le_refl _) r hr)
theorem un_iff {ys : List Instr} : ∀ k ≤ ys.length, ((lwTo ys k).un = false ↔ ∀ j, (hj : j < ys.length) → j < k → ∀ r ∈ ys[j].reads, r ∈ (lwTo ys j).set) := by
  intro k
  induction k with
  | zero => intro _; exact ⟨fun _ j hj hk => by omega, fun _ => rfl⟩
  | succ k ih =>
    intro hk
    have e : (lwTo ys (k + 1)).un = ((lwTo ys k).un || (ys[k]'(by omega)).reads.any fun r => !decide (r ∈ (lwTo ys k).set)) := by
      rw [lwTo_succ (by omega)]
      unfold lwStep
      split <;> rfl
    rw [e, Bool.or_eq_false_iff, ih (by omega), List.any_eq_false]
    constructor
    · rintro ⟨h1, h2⟩ j hj hjk r hr
      by_cases e : j = k
      · subst e
        have := h2 r hr
        simpa using this
      · exact h1 j hj (by omega) r hr
    · intro h
      refine ⟨fun j hj hjk r hr => h j hj (by omega) r hr, fun r hr => ?_⟩
      have := h k (by omega) (Nat.lt_succ_self _) r hr
      simp [this]

theorem line_strict {ys : List Instr} {a : Int} (hc : check [⟨0, [], ys, ⟨2, a, 0, 0⟩⟩] = 0) : strictErr ⟨0, [], ys, ⟨2, a, 0, 0⟩⟩ = if (lwTo ys ys.length).tw = true then 8 else if ((lwTo ys ys.length).un || !decide (a ∈ (lwTo ys ys.length).set)) = true then 10 else 0 := by
  unfold strictErr
  rw [if_pos hc]
  have h2 := (same_set (ys := ys) ys.length (Nat.le_refl _)).2
  have hp : (plTo ys ys.length) = places ys := rfl
  rw [hp] at h2
  rw [h2]
  cases ho : (places ys).2 with
  | false => simp
  | true =>
    simp only [Bool.not_true, if_neg (show ¬ false = true by decide), if_neg (show ¬ true = false by decide)]
    have hr : readsOk (places ys).1 ys ⟨2, a, 0, 0⟩ = !((lwTo ys ys.length).un || !decide (a ∈ (lwTo ys ys.length).set)) := by
      unfold readsOk
      have e1 : (Last.mk 2 a 0 0).reads = (a, true) := rfl
      rw [e1]
      simp only [Bool.not_true, Bool.false_or]
      rw [ahead_set ho (Nat.le_refl _), Bool.not_or, Bool.not_not]
      congr 1
      have h3 := rest_iff ho ys.length 0 (by omega)
      have h4 := un_iff (ys := ys) ys.length (Nat.le_refl _)
      rw [List.drop_zero] at h3
      cases hu : (lwTo ys ys.length).un with
      | false =>
        rw [Bool.not_false]
        exact h3.2 fun j hj _ => h4.1 hu j hj hj
      | true =>
        rw [Bool.not_true]
        cases hx : restOk (places ys).1 0 ys with
        | false => rfl
        | true =>
          have := h4.2 fun j hj _ => h3.1 hx j hj (Nat.zero_le _)
          rw [hu] at this; cases this
    rw [hr]
    cases ((lwTo ys ys.length).un || !decide (a ∈ (lwTo ys ys.length).set)) <;> rfl

theorem line_check {ys : List Instr} {a : Int} (hl : ys.length ≤ 20) (hy : ∀ y ∈ ys, y.check = 0) (ha : 0 ≤ a ∧ a ≤ 5) : check [⟨0, [], ys, ⟨2, a, 0, 0⟩⟩] = 0 := by
  have hc : count [⟨0, [], ys, ⟨2, a, 0, 0⟩⟩] = ys.length + 1 := by simp [count]
  unfold check
  rw [if_neg (by simp), if_neg (by rw [hc]; omega), if_pos (by simp [dupGo])]
  refine ferr_zero fun e he => ?_
  rw [List.map_singleton, List.mem_singleton] at he
  rw [he]
  refine ferr_zero fun e he => ?_
  simp only [List.map_nil, List.nil_append, List.mem_append, List.mem_map, List.mem_singleton] at he
  rcases he with ⟨y, hy', rfl⟩ | rfl
  · exact hy y hy'
  · have hr : isReg a = true := reg_small3 (by omega)
    simp [Last.check, Last.only, hr, Last.labels, lchk]
end Go.Proofs.Ytenfblnmmmppbaa.Sh

