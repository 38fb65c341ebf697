/-
  Plain law: rounds among moves, counted.
-/
import Derived.Test.YtfknooeebmdfoaaLv7
set_option linter.unusedVariables false
set_option linter.unusedSimpArgs false
set_option linter.unusedSectionVars false
set_option maxRecDepth 100000
namespace Go.Proofs.Ytfknooeebmdfoaa.Sh
open Go Go.AM Go.Proofs

/-- From a register by moves on to i: the registers on the way, at most so many. -/
def walk (g : Int → Option Int) (i : Int) : Nat → Int → Option (List Int)
  | 0, _ => none
  | n + 1, x => match g x with
    | none => none
    | some t => if t = i then some [x] else (walk g i n t).map (x :: ·)
def cut (g : Int → Option Int) (s : List Int) (x : Int) : Option Int := if x ∈ s then none else g x

theorem walk_step {g : Int → Option Int} {i x t : Int} {n : Nat} (h : g x = some t) : walk g i (n + 1) x = if t = i then some [x] else (walk g i n t).map (x :: ·) := by rw [walk, h]
theorem walk_stop {g : Int → Option Int} {i x : Int} {n : Nat} (h : g x = none) : walk g i (n + 1) x = none := by rw [walk, h]

/-- Each register on the way is left; and each was come to. -/
theorem walk_mem {g : Int → Option Int} {i : Int} : ∀ {n : Nat} {x : Int} {d : List Int}, walk g i n x = some d → x ∈ d ∧ ∀ y ∈ d, ∃ t, g y = some t ∧ (t = i ∨ t ∈ d) := by
  intro n
  induction n with
  | zero => intro x d h; cases h
  | succ n ih =>
    intro x d h
    cases hx : g x with
    | none => rw [walk_stop hx] at h; cases h
    | some t =>
      rw [walk_step hx] at h
      split at h
      · rename_i ht
        cases h
        exact ⟨List.mem_singleton.2 rfl, fun y hy => by rw [List.mem_singleton.1 hy]; exact ⟨t, hx, .inl ht⟩⟩
      · obtain ⟨e, he, rfl⟩ := Option.map_eq_some_iff.1 h
        obtain ⟨h1, h2⟩ := ih he
        refine ⟨List.mem_cons_self .., fun y hy => ?_⟩
        rcases List.mem_cons.1 hy with rfl | hy
        · exact ⟨t, hx, .inr (List.mem_cons_of_mem _ h1)⟩
        · obtain ⟨t', k1, k2⟩ := h2 y hy
          exact ⟨t', k1, k2.imp id (List.mem_cons_of_mem _)⟩
theorem walk_from {g : Int → Option Int} {i : Int} : ∀ {n : Nat} {x : Int} {d : List Int}, walk g i n x = some d → (∃ y ∈ d, g y = some i) ∧ ∀ y ∈ d, y = x ∨ ∃ z ∈ d, g z = some y := by
  intro n
  induction n with
  | zero => intro x d h; cases h
  | succ n ih =>
    intro x d h
    cases hx : g x with
    | none => rw [walk_stop hx] at h; cases h
    | some t =>
      rw [walk_step hx] at h
      split at h
      · rename_i ht
        cases h
        exact ⟨⟨x, List.mem_singleton.2 rfl, ht ▸ hx⟩, fun y hy => .inl (List.mem_singleton.1 hy)⟩
      · obtain ⟨e, he, rfl⟩ := Option.map_eq_some_iff.1 h
        obtain ⟨⟨y0, k0, k1⟩, h2⟩ := ih he
        refine ⟨⟨y0, List.mem_cons_of_mem _ k0, k1⟩, fun y hy => ?_⟩
        rcases List.mem_cons.1 hy with rfl | hy
        · exact .inl rfl
        · rcases h2 y hy with rfl | ⟨z, z1, z2⟩
          · exact .inr ⟨x, List.mem_cons_self .., hx⟩
          · exact .inr ⟨z, List.mem_cons_of_mem _ z1, z2⟩
/-- It hangs on the registers on the way alone. -/
theorem walk_same {g g' : Int → Option Int} {i : Int} : ∀ {n : Nat} {x : Int} {d : List Int}, walk g i n x = some d → (∀ y ∈ d, g' y = g y) → walk g' i n x = some d := by
  intro n
  induction n with
  | zero => intro x d h; cases h
  | succ n ih =>
    intro x d h hs
    cases hx : g x with
    | none => rw [walk_stop hx] at h; cases h
    | some t =>
      have hm := (walk_mem h).1
      have hx' : g' x = some t := by rw [hs x hm, hx]
      rw [walk_step hx] at h
      rw [walk_step hx']
      split at h
      · rename_i ht
        rw [if_pos ht]; exact h
      · rename_i ht
        rw [if_neg ht]
        obtain ⟨e, he, rfl⟩ := Option.map_eq_some_iff.1 h
        rw [ih he fun y hy => hs y (List.mem_cons_of_mem _ hy)]
        rfl
theorem walk_cut {g : Int → Option Int} {s : List Int} {i x : Int} {n : Nat} {d : List Int} : walk (cut g s) i n x = some d ↔ walk g i n x = some d ∧ ∀ y ∈ d, y ∉ s := by
  constructor
  · intro h
    have hm := (walk_mem h).2
    have hns : ∀ y ∈ d, y ∉ s := fun y hy hys => by
      obtain ⟨t, k, _⟩ := hm y hy
      rw [cut, if_pos hys] at k; cases k
    exact ⟨walk_same h fun y hy => by rw [cut, if_neg (hns y hy)], hns⟩
  · rintro ⟨h, hns⟩
    exact walk_same h fun y hy => by rw [cut, if_neg (hns y hy)]
/-- A register that is moved to itself is on no longer way. -/
theorem walk_self {g : Int → Option Int} {i x : Int} (h : g x = some x) (hx : x ≠ i) : ∀ n, walk g i n x = none := by
  intro n
  induction n with
  | zero => rfl
  | succ n ih => rw [walk_step h, if_neg hx, ih]; rfl
theorem walk_noself {g : Int → Option Int} {i : Int} : ∀ {n : Nat} {x : Int} {d : List Int}, walk g i n x = some d → ∀ y ∈ d, g y = some y → y = i := by
  intro n
  induction n with
  | zero => intro x d h; cases h
  | succ n ih =>
    intro x d h y hy hg
    cases hx : g x with
    | none => rw [walk_stop hx] at h; cases h
    | some t =>
      rw [walk_step hx] at h
      split at h
      · rename_i ht
        cases h
        rw [List.mem_singleton.1 hy] at hg ⊢
        rw [hx] at hg
        cases hg
        exact ht
      · rename_i ht
        obtain ⟨e, he, rfl⟩ := Option.map_eq_some_iff.1 h
        rcases List.mem_cons.1 hy with rfl | hy
        · refine Decidable.byContradiction fun hc => ?_
          have hty : t = y := by rw [hx] at hg; cases hg; rfl
          subst hty
          rw [walk_self hg hc] at he; cases he
        · exact ih he y hy hg
theorem walk_one {g : Int → Option Int} {i : Int} {n : Nat} {d : List Int} (h : walk g i n i = some d) (hl : ¬ 1 < d.length) : d = [i] ∧ g i = some i := by
  obtain ⟨h1, h2⟩ := walk_mem h
  obtain ⟨a, rfl⟩ : ∃ a, d = [a] := by
    match d, h1, hl with
    | [a], _, _ => exact ⟨a, rfl⟩
    | _ :: _ :: _, _, hl => simp at hl
  have := List.mem_singleton.1 h1
  subst this
  obtain ⟨t, k1, k2⟩ := h2 i h1
  refine ⟨rfl, ?_⟩
  rcases k2 with rfl | k2
  · exact k1
  · rw [List.mem_singleton.1 k2] at k1; exact k1
theorem walk_big {g : Int → Option Int} {i : Int} {n : Nat} {d : List Int} (h : walk g i n i = some d) (hl : 1 < d.length) : ∀ y ∈ d, g y ≠ some y := by
  intro y hy hg
  have := walk_noself h y hy hg
  subst this
  cases n with
  | zero => cases h
  | succ n =>
    rw [walk_step hg, if_pos rfl] at h
    cases h
    simp at hl

/-- Two ways round that have a register in common have all. -/
theorem round_closed {g : Int → Option Int} {i : Int} {n : Nat} {d : List Int} (h : walk g i n i = some d) : ∀ y ∈ d, ∀ t, g y = some t → t ∈ d := by
  obtain ⟨h1, h2⟩ := walk_mem h
  intro y hy t ht
  obtain ⟨t', k1, k2⟩ := h2 y hy
  rw [ht] at k1; cases k1
  rcases k2 with rfl | k2
  · exact h1
  · exact k2

/-- On from a register. -/
inductive Reach (g : Int → Option Int) : Int → Int → Prop
  | refl (x : Int) : Reach g x x
  | step {x t y : Int} : g x = some t → Reach g t y → Reach g x y
theorem Reach.trans {g : Int → Option Int} {x y z : Int} (h : Reach g x y) (k : Reach g y z) : Reach g x z := by
  induction h with
  | refl => exact k
  | step h _ ih => exact .step h (ih k)
theorem Reach.closed {g : Int → Option Int} {d : List Int} (hd : ∀ y ∈ d, ∀ t, g y = some t → t ∈ d) {x y : Int} (h : Reach g x y) (hx : x ∈ d) : y ∈ d := by
  induction h with
  | refl => exact hx
  | step h _ ih => exact ih (hd _ hx _ h)
theorem walk_reach {g : Int → Option Int} {i : Int} : ∀ {n : Nat} {x : Int} {d : List Int}, walk g i n x = some d → ∀ y ∈ d, Reach g x y ∧ Reach g y i := by
  intro n
  induction n with
  | zero => intro x d h; cases h
  | succ n ih =>
    intro x d h y hy
    cases hx : g x with
    | none => rw [walk_stop hx] at h; cases h
    | some t =>
      rw [walk_step hx] at h
      split at h
      · rename_i ht
        cases h
        rw [List.mem_singleton.1 hy]
        exact ⟨.refl _, .step hx (ht ▸ .refl _)⟩
      · obtain ⟨e, he, rfl⟩ := Option.map_eq_some_iff.1 h
        rcases List.mem_cons.1 hy with rfl | hy
        · exact ⟨.refl _, .step hx ((ih he t (walk_mem he).1).2)⟩
        · exact ⟨.step hx (ih he y hy).1, (ih he y hy).2⟩
theorem round_meet {g : Int → Option Int} {i j : Int} {n : Nat} {d e : List Int} (h : walk g i n i = some d) (k : walk g j n j = some e) {x : Int} (hx : x ∈ d) (hx' : x ∈ e) : ∀ y ∈ d, y ∈ e := fun y hy =>
  (((walk_reach h x hx).2).trans (walk_reach h y hy).1).closed (round_closed k) hx'

/-! ### Counted -/
def cnt (F : Nat) : List Int → (Int → Option Int) → Nat
  | [], _ => 0
  | i :: is, g => match walk g i F i with
    | some d => if 1 < d.length then 1 + cnt F is (cut g d) else cnt F is g
    | none => cnt F is g

/-- They have the same longer ways round. -/
def Alike (F : Nat) (g g' : Int → Option Int) : Prop := ∀ i d, 1 < d.length → (walk g i F i = some d ↔ walk g' i F i = some d)
theorem Alike.cut {F : Nat} {g g' : Int → Option Int} (h : Alike F g g') (s : List Int) : Alike F (cut g s) (cut g' s) := fun i d hd => by
  rw [walk_cut, walk_cut, h i d hd]
theorem cnt_alike {F : Nat} : ∀ {is : List Int} {g g' : Int → Option Int}, Alike F g g' → cnt F is g = cnt F is g' := by
  intro is
  induction is with
  | nil => intro g g' _; rfl
  | cons i is ih =>
    intro g g' h
    have key : ∀ {a b : Int → Option Int}, Alike F a b → (∀ d, walk a i F i = some d → 1 < d.length → cnt F (i :: is) a = cnt F (i :: is) b) := fun {a b} h d hd hl => by
      have hd' := (h i d hl).1 hd
      simp only [cnt, hd, hd', if_pos hl, ih (h.cut d)]
    have none' : ∀ {a : Int → Option Int}, (∀ d, walk a i F i = some d → ¬ 1 < d.length) → cnt F (i :: is) a = cnt F is a := fun {a} h => by
      cases hw : walk a i F i with
      | none => simp only [cnt, hw]
      | some d => simp only [cnt, hw, if_neg (h d hw)]
    by_cases h1 : ∃ d, walk g i F i = some d ∧ 1 < d.length
    · obtain ⟨d, hd, hl⟩ := h1
      exact key h d hd hl
    · have h2 : ∀ d, walk g i F i = some d → ¬ 1 < d.length := fun d hd hl => h1 ⟨d, hd, hl⟩
      have h3 : ∀ d, walk g' i F i = some d → ¬ 1 < d.length := fun d hd hl => h1 ⟨d, (h i d hl).2 hd, hl⟩
      rw [none' h2, none' h3, ih h]

/-- One way round less. -/
theorem cnt_break {F : Nat} {t0 : Int} : ∀ {is : List Int} {g g' : Int → Option Int}, (∀ i d, 1 < d.length → (walk g' i F i = some d ↔ walk g i F i = some d ∧ t0 ∉ d)) → (∃ e, walk g t0 F t0 = some e ∧ 1 < e.length) → t0 ∈ is → cnt F is g = 1 + cnt F is g' := by
  intro is
  induction is with
  | nil => intro g g' _ _ h; cases h
  | cons i is ih =>
    intro g g' h ⟨e, he, hel⟩ hm
    have hte := (walk_mem he).1
    by_cases h1 : ∃ d, walk g i F i = some d ∧ 1 < d.length
    · obtain ⟨d, hd, hl⟩ := h1
      have hid := (walk_mem hd).1
      by_cases ht : t0 ∈ d
      · have h' : ∀ d', walk g' i F i = some d' → ¬ 1 < d'.length := fun d' hd' hl' => by
          obtain ⟨k1, k2⟩ := (h i d' hl').1 hd'
          rw [hd] at k1; cases k1
          exact k2 ht
        have e1 : cnt F (i :: is) g = 1 + cnt F is (cut g d) := by simp only [cnt, hd, if_pos hl]
        have e2 : cnt F (i :: is) g' = cnt F is g' := by
          cases hw : walk g' i F i with
          | none => simp only [cnt, hw]
          | some d' => simp only [cnt, hw, if_neg (h' d' hw)]
        rw [e1, e2, cnt_alike (g := cut g d) (g' := g')]
        intro j c hc
        rw [walk_cut, h j c hc]
        refine and_congr_right fun hj => ⟨fun k hk => k t0 hk ht, fun k y hy hyd => k ?_⟩
        exact round_meet hd hj hyd hy t0 ht
      · have hd' := (h i d hl).2 ⟨hd, ht⟩
        have e1 : cnt F (i :: is) g = 1 + cnt F is (cut g d) := by simp only [cnt, hd, if_pos hl]
        have e2 : cnt F (i :: is) g' = 1 + cnt F is (cut g' d) := by simp only [cnt, hd', if_pos hl]
        have hti : t0 ≠ i := fun e => ht (e ▸ hid)
        rw [e1, e2, ih (g := cut g d) (g' := cut g' d) (fun j c hc => by
          rw [walk_cut, walk_cut, h j c hc]
          exact ⟨fun k => ⟨⟨k.1.1, k.2⟩, k.1.2⟩, fun k => ⟨⟨k.1.1, k.2⟩, k.1.2⟩⟩) ⟨e, walk_cut.2 ⟨he, fun y hy hyd => ht (round_meet he hd hy hyd t0 hte)⟩, hel⟩ ((List.mem_cons.1 hm).resolve_left hti)]
    · have h2 : ∀ d, walk g i F i = some d → ¬ 1 < d.length := fun d hd hl => h1 ⟨d, hd, hl⟩
      have h3 : ∀ d, walk g' i F i = some d → ¬ 1 < d.length := fun d hd hl => h1 ⟨d, ((h i d hl).1 hd).1, hl⟩
      have e1 : cnt F (i :: is) g = cnt F is g := by
        cases hw : walk g i F i with
        | none => simp only [cnt, hw]
        | some d => simp only [cnt, hw, if_neg (h2 d hw)]
      have e2 : cnt F (i :: is) g' = cnt F is g' := by
        cases hw : walk g' i F i with
        | none => simp only [cnt, hw]
        | some d => simp only [cnt, hw, if_neg (h3 d hw)]
      have hti : t0 ≠ i := fun e' => by subst e'; exact h2 e he hel
      rw [e1, e2, ih h ⟨e, he, hel⟩ ((List.mem_cons.1 hm).resolve_left hti)]
end Go.Proofs.Ytfknooeebmdfoaa.Sh

