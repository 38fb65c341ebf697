/-
  THE ABSTRACT MACHINE, 20: regions whose order is open, 2: a step beside a part of the heap; what the check says; the run as a sequence.
-/
import Derived.Test.YtfknooeebmdfoaaAmDrawA
set_option linter.unusedVariables false
set_option linter.unusedSimpArgs false
set_option linter.unnecessarySimpa false
namespace Go.AM

section
variable {P : Program} {ro : Nat} {g g' : Ghost} {H H1 H1' H' : AHeap} {w w' : World} {lo hi : Nat}

def Touched (H1 : AHeap) (lo hi id : Nat) : Prop := (∃ o, H1 id = some o ∧ o.live = true) ∨ (lo ≤ id ∧ id < hi)

theorem Step.beside (hR : Rl P ro g H w.heap) (hlo : ro ≤ lo) (hsub : ∀ id o, H1 id = some o → o.live = true → H id = some o) (hs : Step P ro g H1 w g' H1' w' lo hi)
    (halive : ∀ id o, H1' id = some o → o.live = true → (∃ o0, H1 id = some o0 ∧ o0.live = true) ∨ (lo ≤ id ∧ id < hi))
    (hT : ∀ id o, o.live = true → Touched H1 lo hi id → (H' id = some o ↔ H1' id = some o)) (hN : ∀ id o, o.live = true → ¬ Touched H1 lo hi id → (H' id = some o ↔ H id = some o)) :
    Step P ro g H w g' H' w' lo hi := by
  have hblk : ∀ id o G, ¬ Touched H1 lo hi id → H id = some o → o.live = true → g id = some G → w'.heap[G.blk]? = w.heap[G.blk]? ∧ G.blk < w.heap.size ∧ ¬ Owned ro g H1 G.blk := by
    intro id o G hn ho hl hG
    obtain ⟨K, hK, hok⟩ := hR.obj id o ho hl
    rw [hG] at hK; cases hK
    have hno : ¬ Owned ro g H1 G.blk := by
      rintro ⟨id1, o1, G1, h1, hl1, hro1, hG1, e⟩
      have := hR.inj id1 id o1 o G1 G (hsub _ _ h1 hl1) hl1 ho hl hro1 hG1 hG e
      subst this
      exact hn (.inl ⟨o1, h1, hl1⟩)
    exact ⟨hs.frame _ (hok.lt hl) hno, hok.lt hl, hno⟩
  have hgh : ∀ id o G, H id = some o → o.live = true → g' id = some G → g id = some G := by
    intro id o G ho hl hG
    obtain ⟨K, hK, _⟩ := hR.obj id o ho hl
    have := hs.ext _ _ hK
    rw [hG] at this; cases this
    exact hK
  have hsubO : ∀ B, Owned ro g H1 B → Owned ro g H B := fun B ⟨id1, o1, G1, h1, hl1, hro1, hG1, e⟩ => ⟨id1, o1, G1, hsub _ _ h1 hl1, hl1, hro1, hG1, e⟩
  have clash : ∀ id o G id' o' G', Touched H1 lo hi id → H1' id = some o → o.live = true → ro ≤ id → g' id = some G → ¬ Touched H1 lo hi id' → H id' = some o' → o'.live = true → g' id' = some G' → G.blk = G'.blk → False := by
    intro id o G id' o' G' ht ho hl hro hG hn ho' hl' hG' e
    have hG2 := hgh id' o' G' ho' hl' hG'
    obtain ⟨_, hlt, hno⟩ := hblk id' o' G' hn ho' hl' hG2
    rcases hs.own G.blk ⟨id, o, G, ho, hl, hro, hG, rfl⟩ with h | h
    · rw [e] at h; exact hno h
    · omega
  refine ⟨⟨?_, ?_, hs.rl.glob⟩, hs.ext, hs.only, hs.size, hs.os, hs.tape, hs.output, fun B hB hn => hs.frame B hB (fun h => hn (hsubO B h)), ?_⟩
  · intro id o ho hl
    by_cases ht : Touched H1 lo hi id
    · exact hs.rl.obj id o ((hT id o hl ht).1 ho) hl
    · have ho' := (hN id o hl ht).1 ho
      obtain ⟨K, hK, hok⟩ := hR.obj id o ho' hl
      exact ⟨K, hs.ext _ _ hK, (hok.mono hs.ext).block (hblk id o K ht ho' hl hK).1⟩
  · intro id id' o o' G G' ho hl ho' hl' hro hG hG' e
    by_cases ht : Touched H1 lo hi id
    · have ho1 := (hT id o hl ht).1 ho
      by_cases ht' : Touched H1 lo hi id'
      · exact hs.rl.inj id id' o o' G G' ho1 hl ((hT id' o' hl' ht').1 ho') hl' hro hG hG' e
      · exact (clash id o G id' o' G' ht ho1 hl hro hG ht' ((hN id' o' hl' ht').1 ho') hl' hG' e).elim
    · have ho1 := (hN id o hl ht).1 ho
      have hG1 := hgh id o G ho1 hl hG
      by_cases ht' : Touched H1 lo hi id'
      · have ho1' := (hT id' o' hl' ht').1 ho'
        rcases halive id' o' ho1' hl' with ⟨o0, h0, hl0⟩ | hw
        · have h0' := hsub id' o0 h0 hl0
          exact hR.inj id id' o o0 G G' ho1 hl h0' hl0 hro hG1 (hgh id' o0 G' h0' hl0 hG') e
        · exact (clash id' o' G' id o G ht' ho1' hl' (by omega) hG' ht ho1 hl hG e.symm).elim
      · have ho1' := (hN id' o' hl' ht').1 ho'
        exact hR.inj id id' o o' G G' ho1 hl ho1' hl' hro hG1 (hgh id' o' G' ho1' hl' hG') e
  · rintro B ⟨id, o, G, ho, hl, hro, hG, e⟩
    by_cases ht : Touched H1 lo hi id
    · rcases hs.own B ⟨id, o, G, (hT id o hl ht).1 ho, hl, hro, hG, e⟩ with h | h
      · exact .inl (hsubO B h)
      · exact .inr h
    · have ho1 := (hN id o hl ht).1 ho
      exact .inl ⟨id, o, G, ho1, hl, hro, hgh id o G ho1 hl hG, e⟩

theorem Step.congr {lo hi : Nat} (hs : Step P ro g H w g' H' w' lo hi) {H2 : AHeap} (h : ∀ id o, o.live = true → (H2 id = some o ↔ H' id = some o)) : Step P ro g H w g' H2 w' lo hi :=
  { hs with
    rl := ⟨fun id o ho hl => hs.rl.obj id o ((h id o hl).1 ho) hl, fun id id' o o' G G' ho hl ho' hl' => hs.rl.inj id id' o o' G G' ((h id o hl).1 ho) hl ((h id' o' hl').1 ho') hl', hs.rl.glob⟩
    own := fun B ⟨id, o, G, ho, hl, k⟩ => hs.own B ⟨id, o, G, (h id o hl).1 ho, hl, k⟩ }

theorem Step.trans2 {g'' : Ghost} {H'' : AHeap} {w'' : World} (h : Step P ro g H w g' H' w' lo hi) (k : Step P ro g' H' w' g'' H'' w'' lo hi) : Step P ro g H w g'' H'' w'' lo hi where
  rl := k.rl
  ext := Ghost.le_trans h.ext k.ext
  only := fun id hn => (k.only id hn).trans (h.only id hn)
  size := Nat.le_trans h.size k.size
  os := k.os.trans h.os
  tape := k.tape.trans h.tape
  output := k.output.trans h.output
  frame := fun B hB hn => (k.frame B (Nat.lt_of_lt_of_le hB h.size) (fun ho => (h.own B ho).elim hn (by omega))).trans (h.frame B hB hn)
  own := fun B ho => (k.own B ho).elim (fun ho => h.own B ho) (fun hs => .inr (Nat.le_trans h.size hs))

theorem Rl.sub {hp : Array Obj} (hR : Rl P ro g H hp) (hsub : ∀ id o, H1 id = some o → o.live = true → H id = some o) : Rl P ro g H1 hp :=
  ⟨fun id o ho hl => hR.obj id o (hsub id o ho hl) hl, fun id id' o o' G G' ho hl ho' hl' => hR.inj id id' o o' G G' (hsub _ _ ho hl) hl (hsub _ _ ho' hl') hl', hR.glob⟩
end

/-! ### Ancestors -/

inductive Anc (ops : List Oper) : Nat → Nat → Prop
  | one {i j : Nat} {o : Oper} (ho : ops[i]? = some o) (hj : j ∈ preds o) : Anc ops i j
  | more {i k j : Nat} {o : Oper} (ho : ops[i]? = some o) (hk : k ∈ preds o) (h : Anc ops k j) : Anc ops i j

theorem mem_dedup : ∀ {l : List Nat} {x : Nat}, x ∈ dedup l → x ∈ l := by
  intro l
  induction l with
  | nil => intro x h; exact h
  | cons y l ih =>
    intro x h
    simp only [dedup] at h
    split at h
    · exact List.mem_cons_of_mem _ (ih h)
    · rcases List.mem_cons.1 h with rfl | h
      · simp
      · exact List.mem_cons_of_mem _ (ih h)

theorem ancsL_sound {ops : List Oper} : ∀ (l : List Oper) (acc : List (List Nat)), ops.drop acc.length = l → acc.length ≤ ops.length → (∀ i j, j ∈ (acc[i]?).getD [] → Anc ops i j) → ∀ i j, j ∈ ((ancsL l acc)[i]?).getD [] → Anc ops i j := by
  intro l
  induction l with
  | nil => intro acc _ _ h; exact h
  | cons o l ih =>
    intro acc hd hle h
    have ho : ops[acc.length]? = some o := by
      have := List.getElem?_drop (xs := ops) (i := acc.length) (j := 0)
      rw [hd] at this
      simpa using this.symm
    have hlt : acc.length < ops.length := (List.getElem?_eq_some_iff.1 ho).1
    refine ih _ ?_ ?_ ?_
    · simp only [List.length_append, List.length_cons, List.length_nil]
      rw [← List.drop_drop, hd]
      rfl
    · simp; omega
    · intro i j hj
      by_cases hi : i < acc.length
      · rw [List.getElem?_append_left hi] at hj; exact h i j hj
      · rw [List.getElem?_append_right (by omega)] at hj
        by_cases e : i = acc.length
        · subst e
          simp only [Nat.sub_self, List.getElem?_cons_zero, Option.getD_some] at hj
          have hj := mem_dedup hj
          rw [List.mem_flatMap] at hj
          obtain ⟨k, hk, hj⟩ := hj
          rcases List.mem_cons.1 hj with rfl | hj
          · exact .one ho hk
          · exact .more ho hk (h k j hj)
        · have : i - acc.length ≠ 0 := by omega
          obtain ⟨m, hm⟩ := Nat.exists_eq_succ_of_ne_zero this
          rw [hm] at hj
          simp at hj

theorem ancs_sound {ops : List Oper} {i j : Nat} (h : j ∈ ((ancs ops)[i]?).getD []) : Anc ops i j :=
  ancsL_sound ops [] (by simp) (by simp) (fun i j h => by simp at h) i j h

theorem Anc.closed {ops : List Oper} {D : Nat → Prop} (hD : ∀ i o j, D i → ops[i]? = some o → j ∈ preds o → D j) {i j : Nat} (h : Anc ops i j) : D i → D j := by
  induction h with
  | one ho hj => exact fun hi => hD _ _ _ hi ho hj
  | more ho hk _ ih => exact fun hi => ih (hD _ _ _ hi ho hk)

theorem Anc.ready {ops : List Oper} {D : Nat → Prop} (hD : ∀ i o j, D i → ops[i]? = some o → j ∈ preds o → D j) {i j : Nat} {o : Oper} (ho : ops[i]? = some o) (hr : ∀ j ∈ preds o, D j) (h : Anc ops i j) : D j := by
  cases h with
  | one ho' hj => rw [ho] at ho'; cases ho'; exact hr _ hj
  | more ho' hk h => rw [ho] at ho'; cases ho'; exact h.closed hD (hr _ hk)

/-! ### What the check says -/

def ancOf (ops : List Oper) (i : Nat) : List Nat := ((ancs ops)[i]?).getD []

structure Facts (ops : List Oper) (L : List DOper) : Prop where
  has : ∀ {k : Nat} {d : DOper}, L[k]? = some d → ∃ o, ops[d.ix]? = some o
  topo : ∀ {k : Nat} {d : DOper} {o : Oper} {j : Nat}, L[k]? = some d → ops[d.ix]? = some o → j ∈ preds o → ∃ i s, i < k ∧ L[i]? = some s ∧ s.ix = j
  inj : ∀ {i k : Nat} {s d : DOper}, i < k → L[i]? = some s → L[k]? = some d → s.ix ≠ d.ix
  chain : ∀ {i k : Nat} {s d : DOper}, i < k → L[i]? = some s → L[k]? = some d → d.writes = true → Anc ops d.ix s.ix
  dst : ∀ {i k : Nat} {s d : DOper} {t : Tmp}, i < k → L[i]? = some s → L[k]? = some d → d.o.dst = some t → s.o.dst ≠ some t
  clash : ∀ {i k : Nat} {s d : DOper}, i < k → L[i]? = some s → L[k]? = some d → Anc ops d.ix s.ix ∨ (clash ops s.o.dst d = false ∧ clash ops d.o.dst s = false)
  back : ∀ {k : Nat} {d : DOper}, L[k]? = some d → d.o.op.isLook = true → (L.take k).countP (fun s => s.writes && !(ancOf ops d.ix).contains s.ix) ≤ d.back

theorem okL_at {ops : List Oper} {anc : List (List Nat)} : ∀ (L seen : List DOper), okL ops anc seen L = true → ∀ k d, L[k]? = some d → okD ops ((anc[d.ix]?).getD []) ((L.take k).reverse ++ seen) d = true := by
  intro L
  induction L with
  | nil => intro seen _ k d h; simp at h
  | cons x L ih =>
    intro seen h k d hk
    simp only [okL, Bool.and_eq_true] at h
    cases k with
    | zero => simp at hk; subst hk; simpa using h.1
    | succ k =>
      have := ih (x :: seen) h.2 k d (by simpa using hk)
      simpa using this

theorem mem_take {α : Type} {L : List α} {k : Nat} {s : α} (h : s ∈ (L.take k).reverse) : ∃ i, i < k ∧ L[i]? = some s := by
  rw [List.mem_reverse] at h
  obtain ⟨i, hi⟩ := List.mem_iff_getElem?.1 h
  rw [List.getElem?_take] at hi
  split at hi
  · rename_i hlt; exact ⟨i, hlt, hi⟩
  · cases hi
theorem take_mem {α : Type} {L : List α} {i k : Nat} {s : α} (h : i < k) (hs : L[i]? = some s) : s ∈ (L.take k).reverse := by
  rw [List.mem_reverse]
  exact List.mem_iff_getElem?.2 ⟨i, by rw [List.getElem?_take, if_pos h]; exact hs⟩

theorem facts_of {ops : List Oper} {L : List DOper} (h : okL ops (ancs ops) [] L = true) : Facts ops L := by
  have hat : ∀ {k d}, L[k]? = some d → _ := fun {k d} hk => okL_at L [] h k d hk
  simp only [List.append_nil, okD, Bool.and_eq_true, List.all_eq_true] at hat
  refine ⟨fun {k d} hk => ?_, fun {k d o j} hk ho hj => ?_, fun {i k s d} hi hs hk => ?_, fun {i k s d} hi hs hk hw => ?_, fun {i k s d t} hi hs hk ht => ?_, fun {i k s d} hi hs hk => ?_, fun {k d} hk hl => ?_⟩
  · have := (hat hk).1.1
    split at this
    · rename_i o ho; exact ⟨o, ho⟩
    · cases this
  · have := (hat hk).1.1
    rw [ho] at this
    simp only [List.all_eq_true, List.any_eq_true, beq_iff_eq] at this
    obtain ⟨s, hs, e⟩ := this j hj
    obtain ⟨i, hi, hs⟩ := mem_take hs
    exact ⟨i, s, hi, hs, e⟩
  · have := ((hat hk).1.2 s (take_mem hi hs)).1.1.1
    simpa using this
  · have := ((hat hk).1.2 s (take_mem hi hs)).1.1.2
    rw [hw] at this
    simp only [Bool.not_true, Bool.false_or, List.contains_iff_mem] at this
    exact ancs_sound this
  · have := ((hat hk).1.2 s (take_mem hi hs)).1.2
    rw [ht] at this
    simpa using this
  · have := ((hat hk).1.2 s (take_mem hi hs)).2
    rw [Bool.or_eq_true] at this
    rcases this with h1 | h1
    · exact .inl (ancs_sound (List.contains_iff_mem.1 h1))
    · simp only [Bool.not_eq_true', Bool.or_eq_false_iff] at h1
      exact .inr h1
  · have := (hat hk).2
    rw [hl] at this
    simpa [List.countP_reverse, ancOf] using this
end Go.AM
