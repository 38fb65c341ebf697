/-
  Plain law: how many copies Row makes; that it ends.
-/
import Derived.Test.YtfknooeebmdfoaaLv8
set_option linter.unusedVariables false
set_option linter.unusedSimpArgs false
set_option linter.unusedSectionVars false
set_option maxRecDepth 100000
namespace Go.Proofs.Ytfknooeebmdfoaa.Sh
open Go Go.AM Go.Proofs

/-- What a register becomes. -/
def gr (l : List Mv) (x : Int) : Option Int := (l.find? fun m => decide (m.to = x)).map (·.src)

theorem gr_some {l : List Mv} {x y : Int} (h : gr l x = some y) : ∃ m ∈ l, m.to = x ∧ m.src = y := by
  obtain ⟨m, hm, e⟩ := Option.map_eq_some_iff.1 h
  exact ⟨m, List.mem_of_find?_eq_some hm, by simpa using List.find?_some hm, e⟩
theorem gr_none {l : List Mv} {x : Int} (h : x ∉ tos l) : gr l x = none := by
  cases hg : gr l x with
  | none => rfl
  | some y =>
    obtain ⟨m, hm, e, _⟩ := gr_some hg
    exact absurd (List.mem_map.2 ⟨m, hm, e⟩) h
theorem gr_in {l : List Mv} {x : Int} (h : x ∈ tos l) : ∃ y, gr l x = some y := by
  cases hg : gr l x with
  | some y => exact ⟨y, rfl⟩
  | none =>
    obtain ⟨m, hm, e⟩ := List.mem_map.1 h
    have := List.find?_eq_none.1 (Option.map_eq_none_iff.1 hg) m hm
    simp at this
    exact absurd e this
theorem gr_mem {l : List Mv} (hn : (tos l).Nodup) {m : Mv} (hm : m ∈ l) : gr l m.to = some m.src := by
  obtain ⟨y, hy⟩ := gr_in (List.mem_map.2 ⟨m, hm, rfl⟩ : m.to ∈ tos l)
  obtain ⟨o, ho, e1, e2⟩ := gr_some hy
  have : o = m := by
    clear hy
    induction l with
    | nil => cases hm
    | cons a l ih =>
      have hn' : (a.to :: tos l).Nodup := hn
      rw [List.nodup_cons] at hn'
      rcases List.mem_cons.1 hm with rfl | hm <;> rcases List.mem_cons.1 ho with rfl | ho
      · rfl
      · exact absurd (show m.to ∈ tos l from List.mem_map.2 ⟨o, by assumption, e1⟩) hn'.1
      · exact absurd (show o.to ∈ tos l from List.mem_map.2 ⟨m, by assumption, e1.symm⟩) hn'.1
      · exact ih hn'.2 hm ho
  rw [hy, ← e2, this]
theorem gr_erase {l : List Mv} {i : Nat} (hi : i < l.length) (hn : (tos l).Nodup) : gr (l.eraseIdx i) = cut (gr l) [l[i].to] := by
  funext x
  have hperm := perm_erase hi
  have hn' : (l[i].to :: tos (l.eraseIdx i)).Nodup := ((hperm.map Mv.to).nodup_iff).1 hn
  rw [List.nodup_cons] at hn'
  unfold cut
  by_cases hx : x = l[i].to
  · subst hx
    rw [if_pos (List.mem_singleton.2 rfl)]
    exact gr_none hn'.1
  · rw [if_neg (by simpa using hx)]
    by_cases hm : x ∈ tos (l.eraseIdx i)
    · obtain ⟨m, hm2, rfl⟩ := List.mem_map.1 hm
      rw [gr_mem hn'.2 hm2, gr_mem hn (List.mem_of_mem_eraseIdx hm2)]
    · rw [gr_none hm, gr_none]
      intro h
      obtain ⟨m, hm', rfl⟩ := List.mem_map.1 h
      rcases List.mem_cons.1 (hperm.mem_iff.1 hm') with rfl | h'
      · exact hx rfl
      · exact hm (List.mem_map.2 ⟨m, h', rfl⟩)
theorem gr_rd (l : List Mv) (s t x : Int) : gr (l.map (rd s t)) x = (gr l x).map fun y => if y = t then s else y := by
  induction l with
  | nil => rfl
  | cons m l ih =>
    have hto : (rd s t m).to = m.to := by unfold rd; split <;> rfl
    unfold gr at ih ⊢
    rw [List.map_cons, List.find?_cons, List.find?_cons, hto]
    by_cases h : m.to = x
    · simp only [h, decide_true, Option.map_some]
      unfold rd
      split <;> rfl
    · simp only [h, decide_false]
      exact ih

def it (g : Int → Option Int) : Nat → Int → Option Int
  | 0, x => some x
  | k + 1, x => (g x).bind (it g k)
theorem walk_it {g : Int → Option Int} {i : Int} : ∀ {k n : Nat} {x : Int}, it g (k + 1) x = some i → k + 1 ≤ n → ∃ d, walk g i n x = some d := by
  intro k
  induction k with
  | zero =>
    intro n x h hn
    obtain ⟨n, rfl⟩ : ∃ m, n = m + 1 := ⟨n - 1, by omega⟩
    have : g x = some i := by
      unfold it at h
      cases hx : g x with
      | none => rw [hx] at h; cases h
      | some t => rw [hx] at h; simpa [it] using h
    exact ⟨_, by rw [walk_step this, if_pos rfl]⟩
  | succ k ih =>
    intro n x h hn
    obtain ⟨n, rfl⟩ : ∃ m, n = m + 1 := ⟨n - 1, by omega⟩
    rw [it] at h
    cases hx : g x with
    | none => rw [hx] at h; cases h
    | some t =>
      rw [hx] at h
      rw [walk_step hx]
      by_cases ht : t = i
      · exact ⟨_, by rw [if_pos ht]⟩
      · obtain ⟨d, hd⟩ := ih (n := n) (x := t) h (by omega)
        exact ⟨_, by rw [if_neg ht, hd]; rfl⟩

/-- If all that is set is read, each register is on a way round. -/
theorem stuck_walk {l : List Mv} (hn : (tos l).Nodup) (h : ∀ m ∈ l, free l m = false) {F : Nat} (hF : l.length + 1 ≤ F) {t0 : Int} (ht : t0 ∈ tos l) : ∃ e, walk (gr l) t0 F t0 = some e := by
  have hp : ∀ x, ∃ y, x ∈ tos l → y ∈ tos l ∧ gr l y = some x := fun x => by
    by_cases hx : x ∈ tos l
    · obtain ⟨m, hm, rfl⟩ := List.mem_map.1 hx
      obtain ⟨o, ho, e⟩ := free_false.1 (h m hm)
      exact ⟨o.to, fun _ => ⟨List.mem_map.2 ⟨o, ho, rfl⟩, by rw [gr_mem hn ho, e]⟩⟩
    · exact ⟨0, fun k => absurd k hx⟩
  have pr : ∃ pr : Int → Int, ∀ x, x ∈ tos l → pr x ∈ tos l ∧ gr l (pr x) = some x := ⟨fun x => Classical.choose (hp x), fun x hx => Classical.choose_spec (hp x) hx⟩
  obtain ⟨pr, hpr⟩ := pr
  let s : Nat → Int := fun k => Nat.rec t0 (fun _ x => pr x) k
  have s0 : s 0 = t0 := rfl
  have ss : ∀ k, s (k + 1) = pr (s k) := fun k => rfl
  have hs : ∀ k, s k ∈ tos l := fun k => by
    induction k with
    | zero => exact ht
    | succ k ih => rw [ss]; exact (hpr _ ih).1
  have hit : ∀ k j, it (gr l) k (s (j + k)) = some (s j) := fun k => by
    induction k with
    | zero => intro j; rfl
    | succ k ih =>
      intro j
      rw [it, show j + (k + 1) = (j + k) + 1 by omega, ss, (hpr _ (hs _)).2]
      exact ih j
  obtain ⟨i, j, hij, hj, he⟩ := pigeon (m := tos l) hs
  have h1 := hit i 0
  have h2 := hit i (j - i)
  rw [Nat.zero_add] at h1
  rw [show j - i + i = j by omega, ← he, h1] at h2
  have h3 : s (j - i) = t0 := (Option.some.inj h2).symm
  have h4 := hit (j - i) 0
  rw [Nat.zero_add, h3, s0] at h4
  have hl : (tos l).length = l.length := by simp [tos]
  exact walk_it (k := j - i - 1) (by rw [show j - i - 1 + 1 = j - i by omega]; exact h4) (by omega)

theorem row_count {spare : Int} {F : Nat} {is : List Int} {l out : List Mv} (h : RowS spare l out) : (tos l).Nodup → spare ∉ tos l → (∀ m ∈ l, m.to ≠ m.src) → l.length + 1 ≤ F → (∀ x ∈ tos l, x ∈ is) → out.length = l.length + cnt F is (gr l) := by
  have hnil : ∀ is, cnt F is (gr []) = 0 := by
    intro is
    induction is with
    | nil => rfl
    | cons i is ih =>
      have : walk (gr []) i F i = none := by
        cases F with
        | zero => rfl
        | succ n => exact walk_stop rfl
      simp only [cnt, this]; exact ih
  induction h with
  | nil => exact fun _ _ _ _ _ => by simp [hnil]
  | free i hi hidx hrest ih =>
    rename_i l rest
    intro hn hs hself hF his
    have hf := free_iff.1 (idx_some hi hidx)
    have hsub : ∀ o ∈ l.eraseIdx i, o ∈ l := fun o ho => List.mem_of_mem_eraseIdx ho
    have hn' : (l[i].to :: tos (l.eraseIdx i)).Nodup := (((perm_erase hi).map Mv.to).nodup_iff).1 hn
    rw [List.nodup_cons] at hn'
    have hsubt : ∀ x ∈ tos (l.eraseIdx i), x ∈ tos l := fun x hx => by
      obtain ⟨m, hm, rfl⟩ := List.mem_map.1 hx
      exact List.mem_map.2 ⟨m, hsub m hm, rfl⟩
    have hlen : (l.eraseIdx i).length + 1 = l.length := by rw [List.length_eraseIdx, if_pos hi]; omega
    have := ih hn'.2 (fun hm => hs (hsubt _ hm)) (fun m hm => hself m (hsub m hm)) (by omega) fun x hx => his x (hsubt x hx)
    rw [List.length_cons, this, cnt_alike (g := gr (l.eraseIdx i)) (g' := gr l)]
    · omega
    · intro j d _
      rw [gr_erase hi hn, walk_cut]
      refine ⟨fun k => k.1, fun k => ⟨k, fun y hy hyt => ?_⟩⟩
      have hyt := List.mem_singleton.1 hyt
      obtain ⟨z, hz⟩ : ∃ z, gr l z = some y := by
        obtain ⟨⟨y0, _, k1⟩, k2⟩ := walk_from k
        rcases k2 y hy with rfl | ⟨z, _, kz⟩
        · exact ⟨y0, k1⟩
        · exact ⟨z, kz⟩
      obtain ⟨o, ho, _, e⟩ := gr_some hz
      exact hf o ho (e.trans hyt)
  | round hidx hrest ih =>
    rename_i m l rest
    intro hn hs hself hF his
    have hst := idx_none hidx
    have hsr := stuck_srcs hn hst
    generalize hL : m :: l = L at *
    have hmL : m ∈ L := by rw [← hL]; exact List.mem_cons_self ..
    have hmt : m.to ∈ tos L := List.mem_map.2 ⟨m, hmL, rfl⟩
    have := ih (by rw [tos_rd]; exact hn) (by rw [tos_rd]; exact hs) (fun o ho => by
      obtain ⟨p, hp, rfl⟩ := List.mem_map.1 ho
      unfold rd
      split
      · exact fun e => hs (List.mem_map.2 ⟨p, hp, e⟩)
      · exact hself p hp) (by rw [List.length_map]; exact hF) (by rw [tos_rd]; exact his)
    rw [List.length_map] at this
    obtain ⟨e, he⟩ := stuck_walk hn hst hF hmt
    have hel : 1 < e.length := Decidable.byContradiction fun hc => by
      have := (walk_one he hc).2
      rw [gr_mem hn hmL] at this
      exact hself m hmL (Option.some.inj this).symm
    have hsp : gr (L.map (rd spare m.to)) spare = none := gr_none (by rw [tos_rd]; exact hs)
    have := cnt_break (F := F) (t0 := m.to) (is := is) (g := gr L) (g' := gr (L.map (rd spare m.to))) (fun i d _ => by
      constructor
      · intro h
        have hc := round_closed h
        have hns : ∀ y ∈ d, gr L y ≠ some m.to := fun y hy hg => by
          have h1 : gr (L.map (rd spare m.to)) y = some spare := by rw [gr_rd, hg]; simp
          have h2 := hc y hy _ h1
          obtain ⟨t, k, _⟩ := (walk_mem h).2 spare h2
          rw [hsp] at k; cases k
        have hsame : ∀ y ∈ d, gr L y = gr (L.map (rd spare m.to)) y := fun y hy => by
          rw [gr_rd]
          cases hg : gr L y with
          | none => rfl
          | some t =>
            have : t ≠ m.to := fun e => hns y hy (e ▸ hg)
            simp [this]
        have hw := walk_same h hsame
        refine ⟨hw, fun ht => ?_⟩
        obtain ⟨⟨y0, ky, k1⟩, k2⟩ := walk_from hw
        rcases k2 _ ht with e | ⟨z, kz, kz'⟩
        · exact hns y0 ky (e ▸ k1)
        · exact hns z kz kz'
      · rintro ⟨h, ht⟩
        refine walk_same h fun y hy => ?_
        rw [gr_rd]
        cases hg : gr L y with
        | none => rfl
        | some t =>
          have : t ≠ m.to := fun e => ht (e ▸ round_closed h y hy t hg)
          simp [this]) ⟨e, he, hel⟩ (his _ hmt)
    rw [List.length_cons]
    omega

theorem countP_lt {p q : Mv → Bool} {l : List Mv} (h : ∀ m, p m = true → q m = true) {o : Mv} (ho : o ∈ l) (h1 : q o = true) (h2 : p o = false) : l.countP p < l.countP q := by
  induction l with
  | nil => cases ho
  | cons a l ih =>
    have hle : l.countP p ≤ l.countP q := List.countP_mono_left fun m _ => h m
    rcases List.mem_cons.1 ho with rfl | ho
    · rw [List.countP_cons_of_neg (by rw [h2]; decide), List.countP_cons_of_pos h1]; omega
    · have := ih ho
      by_cases hp : p a = true
      · rw [List.countP_cons_of_pos hp, List.countP_cons_of_pos (h a hp)]; omega
      · rw [List.countP_cons_of_neg hp]
        by_cases hq : q a = true
        · rw [List.countP_cons_of_pos hq]; omega
        · rw [List.countP_cons_of_neg hq]; exact this

/-- It ends. -/
theorem row_total {spare : Int} (n : Nat) : ∀ l : List Mv, (tos l).Nodup → spare ∉ tos l → l.length + l.countP (fun m => decide (m.src ≠ spare)) < n → ∃ out, RowS spare l out := by
  induction n with
  | zero => intro l _ _ h; omega
  | succ n ih =>
    intro l hn hs hl
    cases l with
    | nil => exact ⟨[], .nil⟩
    | cons m t =>
      generalize hL : m :: t = L at *
      cases hi : L.findIdx? (free L) with
      | some i =>
        have hlt := (List.findIdx?_eq_some_iff_getElem.1 hi).1
        have hperm := perm_erase hlt
        have hn' : (L[i].to :: tos (L.eraseIdx i)).Nodup := ((hperm.map Mv.to).nodup_iff).1 hn
        rw [List.nodup_cons] at hn'
        have hc : (L.eraseIdx i).countP (fun m => decide (m.src ≠ spare)) ≤ L.countP fun m => decide (m.src ≠ spare) := (List.eraseIdx_sublist L i).countP_le
        have hlen : (L.eraseIdx i).length + 1 = L.length := by rw [List.length_eraseIdx, if_pos hlt]; omega
        obtain ⟨out, ho⟩ := ih (L.eraseIdx i) hn'.2 (fun hm => hs (by
          obtain ⟨o, ho, e⟩ := List.mem_map.1 hm
          exact List.mem_map.2 ⟨o, List.mem_of_mem_eraseIdx ho, e⟩)) (by omega)
        exact ⟨_, .free i hlt (by unfold idx; rw [hi]) ho⟩
      | none =>
        have hidx : idx (free L) L = -1 := by unfold idx; rw [hi]
        have hst := idx_none hidx
        have hmL : m ∈ L := by rw [← hL]; exact List.mem_cons_self ..
        obtain ⟨o, ho, he⟩ := free_false.1 (hst m hmL)
        have hne : m.to ≠ spare := fun e => hs (e ▸ List.mem_map.2 ⟨m, hmL, rfl⟩)
        have hc : (L.map (rd spare m.to)).countP (fun m => decide (m.src ≠ spare)) < L.countP fun m => decide (m.src ≠ spare) := by
          rw [List.countP_map]
          refine countP_lt (fun x hx => ?_) ho (by simp [he, hne]) (by simp [rd, he])
          simp only [Function.comp, rd] at hx
          split at hx
          · simp at hx
          · exact hx
        obtain ⟨out, ho'⟩ := ih (L.map (rd spare m.to)) (by rw [tos_rd]; exact hn) (by rw [tos_rd]; exact hs) (by rw [List.length_map]; omega)
        subst hL
        exact ⟨_, .round hidx ho'⟩

/-! ### As the law counts -/
def addS (s : List Int) (x : Int) : List Int := if x ∈ s then s else s ++ [x]
theorem mem_addS {s d : List Int} {x : Int} : x ∈ d.foldl addS s ↔ x ∈ s ∨ x ∈ d := by
  induction d generalizing s with
  | nil => simp
  | cons a d ih =>
    rw [List.foldl_cons, ih]
    unfold addS
    split
    · rename_i h
      simp only [List.mem_cons]
      constructor
      · rintro (k | k)
        · exact .inl k
        · exact .inr (.inr k)
      · rintro (k | rfl | k)
        · exact .inl k
        · exact .inl h
        · exact .inr k
    · simp only [List.mem_append, List.mem_cons, List.mem_singleton, List.not_mem_nil, or_false, or_assoc]
theorem cut_add (g : Int → Option Int) (s d : List Int) : cut g (d.foldl addS s) = cut (cut g s) d := by
  funext x
  unfold cut
  by_cases h1 : x ∈ s <;> by_cases h2 : x ∈ d <;> simp [mem_addS, h1, h2]
def cntL (F : Nat) (g : Int → Option Int) : List Int → List Int → Nat
  | [], _ => 0
  | i :: is, s => match walk (cut g s) i F i with
    | some d => (if 1 < d.length then 1 else 0) + cntL F g is (d.foldl addS s)
    | none => cntL F g is s
theorem cntL_eq {F : Nat} {g : Int → Option Int} : ∀ {is s : List Int} {g' : Int → Option Int}, Sh.Alike F (cut g s) g' → cntL F g is s = cnt F is g' := by
  intro is
  induction is with
  | nil => intro s g' _; rfl
  | cons i is ih =>
    intro s g' h
    cases hw : walk (cut g s) i F i with
    | none =>
      have : cnt F (i :: is) g' = cnt F is g' := by
        cases hw' : walk g' i F i with
        | none => simp only [cnt, hw']
        | some d =>
          by_cases hl : 1 < d.length
          · rw [(h i d hl).2 hw'] at hw; cases hw
          · simp only [cnt, hw', if_neg hl]
      rw [this]; simp only [cntL, hw]
      exact ih h
    | some d =>
      by_cases hl : 1 < d.length
      · have hw' := (h i d hl).1 hw
        simp only [cntL, cnt, hw, hw', if_pos hl]
        rw [ih (g' := cut g' d)]
        rw [cut_add]; exact h.cut d
      · obtain ⟨hd, hself⟩ := walk_one hw hl
        have e1 : cnt F (i :: is) g' = cnt F is g' := by
          cases hw' : walk g' i F i with
          | none => simp only [cnt, hw']
          | some d' =>
            by_cases hl' : 1 < d'.length
            · rw [(h i d' hl').2 hw'] at hw
              cases hw
              exact absurd hl' hl
            · simp only [cnt, hw', if_neg hl']
        rw [e1]
        simp only [cntL, hw, if_neg hl, Nat.zero_add]
        refine ih fun j c hc => ?_
        rw [cut_add, walk_cut, ← h j c hc]
        refine ⟨fun k => k.1, fun k => ⟨k, fun y hy hyd => ?_⟩⟩
        rw [hd] at hyd
        have := List.mem_singleton.1 hyd
        subst this
        exact walk_big k hc y hy hself
end Go.Proofs.Ytfknooeebmdfoaa.Sh

