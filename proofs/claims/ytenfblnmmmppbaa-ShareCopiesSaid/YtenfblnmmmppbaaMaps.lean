/-
  Maps from numbers, as lists of pairs.
-/
import Derived.Test.YtenfblnmmmppbaaIrRep
set_option linter.unusedVariables false
set_option linter.unusedSimpArgs false
set_option linter.unusedSectionVars false
namespace Go.Proofs.Ytenfblnmmmppbaa.Sh
open Go Go.AM Go.Proofs

/-- A map from numbers to things, by pairs. -/
def mPairs {α : Type} (f : α → Value) (l : List (Int × α)) : AObj := .map (l.map fun p => (I p.1, f p.2))
def pget {α : Type} (l : List (Int × α)) (k : Int) : Option α := match l with | [] => none | p :: l => if k = p.1 then some p.2 else pget l k
def pput {α : Type} (l : List (Int × α)) (k : Int) (v : α) : List (Int × α) := match l with | [] => [(k, v)] | p :: l => if k = p.1 then (k, v) :: l else p :: pput l k v

theorem pget_put {α : Type} (l : List (Int × α)) (k : Int) (v : α) (x : Int) : pget (pput l k v) x = if x = k then some v else pget l x := by
  induction l with
  | nil =>
    unfold pput pget
    by_cases h : x = k <;> simp [h, pget]
  | cons p l ih =>
    unfold pput
    by_cases hk : k = p.1
    · rw [if_pos hk]
      unfold pget
      by_cases hx : x = k
      · simp [hx]
      · have : ¬ x = p.1 := fun e => hx (e.trans hk.symm)
        simp [hx, this]
    · rw [if_neg hk]
      unfold pget
      by_cases hx : x = p.1
      · have : ¬ x = k := fun e => hk (e.symm.trans hx)
        simp [hx]
        intro e
        exact absurd (e.symm ▸ rfl) (fun h : p.1 = k => hk h.symm)
      · simp [hx, ih]

section
variable {α : Type} {f : α → Value}
theorem findK_pairs (k : Int) : ∀ (l : List (Int × α)) (i : Nat), ∃ r, findK (.cell .int) (I k) (l.map fun p => (I p.1, f p.2)) i = .ok r ∧ r.map (·.2) = (pget l k).map f ∧ (∀ j v, r = some (j, v) → i ≤ j ∧ ∀ w : α, (l.map fun p => (I p.1, f p.2)).set (j - i) (I k, f w) = (pput l k w).map fun p => (I p.1, f p.2)) ∧ (r = none → ∀ w : α, (l.map fun p => (I p.1, f p.2)) ++ [(I k, f w)] = (pput l k w).map fun p => (I p.1, f p.2)) := by
  intro l
  induction l with
  | nil => intro i; exact ⟨none, rfl, rfl, fun _ _ h => (by cases h), fun _ w => rfl⟩
  | cons p l ih =>
    intro i
    by_cases h : k = p.1
    · refine ⟨some (i, f p.2), by simp [findK, keyEq, cellEq, h], by simp [pget, h], fun j v e => ?_, fun e => (by cases e)⟩
      cases e
      refine ⟨Nat.le_refl _, fun w => ?_⟩
      simp [pput, h]
    · obtain ⟨r, h1, h2, h3, h4⟩ := ih (i + 1)
      have hb : (k == p.1) = false := by simp [h]
      refine ⟨r, ?_, ?_, fun j v e => ?_, fun e w => ?_⟩
      · simp only [List.map_cons, findK, keyEq, cellEq, hb, if_true]; exact h1
      · rw [h2]; simp [pget, h]
      · obtain ⟨k1, k2⟩ := h3 j v e
        refine ⟨by omega, fun w => ?_⟩
        have := k2 w
        rw [show j - i = (j - (i + 1)) + 1 by omega, List.map_cons, List.set_cons_succ, this]
        simp [pput, h]
      · have := h4 e w
        rw [List.map_cons, List.cons_append, this]
        simp [pput, h]
theorem sLook_pairs {r : Nat} {l : List (Int × α)} {st : St} (h : st.get r = some (mPairs f l)) (k : Int) (z : Value) (ok : Bool) : sLook (.cell .int) z ok (.map (some r)) (I k) st = .ok (match pget l k with | some v => if ok then .tuple #[f v, .bool true] else f v | none => if ok then .tuple #[z, .bool false] else z, st) := by
  unfold mPairs at h
  obtain ⟨r, h1, h2, _⟩ := findK_pairs (f := f) k l 0
  simp [sLook, alook, keyOk, cellIs, Res.need, mapOf, St.map, h, h1]
  cases hg : pget l k with
  | none =>
    rw [hg] at h2
    cases r with
    | none => rfl
    | some q => simp at h2
  | some y =>
    rw [hg] at h2
    cases r with
    | none => simp at h2
    | some q =>
      obtain ⟨a, b⟩ := q
      simp at h2
      subst h2
      rfl
theorem sMapSet_pairs {r : Nat} {l : List (Int × α)} {st : St} (h : st.get r = some (mPairs f l)) (k : Int) (v : α) (hro : st.ro ≤ r) : sMapSet (.cell .int) (.map (some r)) (I k) (f v) st = .ok (nothing, st.put r (mPairs f (pput l k v))) := by
  unfold mPairs at h ⊢
  obtain ⟨w, h1, _, h3, h4⟩ := findK_pairs (f := f) k l 0
  cases w with
  | none =>
    rw [← h4 rfl v]
    simp [sMapSet, amapSet, St.map, h, keyOk, cellIs, Res.need, hro, h1]
  | some q =>
    obtain ⟨j, b⟩ := q
    rw [← (h3 j b rfl).2 v]
    simp [sMapSet, amapSet, St.map, h, keyOk, cellIs, Res.need, hro, h1]
end

/-- One more number in a set. -/
def setS (s : List Int) (x : Int) : List Int := if x ∈ s then s else s ++ [x]
theorem mem_setS {s : List Int} {x y : Int} : y ∈ setS s x ↔ y ∈ s ∨ y = x := by
  unfold setS
  split
  · rename_i h
    exact ⟨.inl, fun k => k.elim (fun k => k) fun e => e ▸ h⟩
  · rw [List.mem_append, List.mem_singleton]
theorem sMapSet_set {r : Nat} {ls : List Int} {st : St} (h : st.get r = some (mSet ls)) (k : Int) (hro : st.ro ≤ r) : sMapSet (.cell .int) (.map (some r)) (I k) (.bool true) st = .ok (nothing, st.put r (mSet (setS ls k))) := by
  by_cases hk : k ∈ ls
  · have h' := h
    unfold mSet at h'
    have hs : (ls.map fun l => (I l, B true)).set (ls.idxOf k) (I k, B true) = ls.map fun l => (I l, B true) := by
      refine List.ext_getElem? fun i => ?_
      by_cases hi : ls.idxOf k = i
      · subst hi
        have hl := List.idxOf_lt_length_of_mem hk
        rw [List.getElem?_set_self (by simpa using hl), List.getElem?_map, List.getElem?_eq_getElem hl, List.getElem_idxOf hl]
        rfl
      · rw [List.getElem?_set_ne hi]
    simp [sMapSet, amapSet, St.map, h', keyOk, cellIs, Res.need, hro, findK_set, hk, mSet, setS, hs]
  · rw [sMapSet_new h hk hro, setS, if_neg hk]
end Go.Proofs.Ytenfblnmmmppbaa.Sh

