/-
  Plain law: what Row's moves do, and how many there are.
-/
import Derived.Test.YtfknooeebmdfoaaLv6
set_option linter.unusedVariables false
set_option linter.unusedSimpArgs false
set_option linter.unusedSectionVars false
set_option maxRecDepth 100000
namespace Go.Proofs.Ytfknooeebmdfoaa.Sh
open Go Go.AM Go.Proofs

/-! ### Lists of the same length -/
theorem len_sub {l m : List Int} (hn : l.Nodup) (h : ∀ x ∈ l, x ∈ m) : l.length ≤ m.length := by
  induction l generalizing m with
  | nil => exact Nat.zero_le _
  | cons a l ih =>
    have ha := h a (List.mem_cons_self ..)
    rw [List.nodup_cons] at hn
    have := ih (m := m.erase a) hn.2 fun x hx => (List.mem_erase_of_ne (fun (e : x = a) => hn.1 (e ▸ hx))).2 (h x (List.mem_cons_of_mem _ hx))
    rw [List.length_erase_of_mem ha] at this
    have := List.length_pos_of_mem ha
    simp; omega
theorem sub_len {l m : List Int} (hn : l.Nodup) (h : ∀ x ∈ l, x ∈ m) (hl : m.length ≤ l.length) : ∀ x ∈ m, x ∈ l := by
  intro x hx
  refine Decidable.byContradiction fun hc => ?_
  have := len_sub (l := x :: l) (m := m) (by rw [List.nodup_cons]; exact ⟨hc, hn⟩) fun y hy => by
    rcases List.mem_cons.1 hy with rfl | hy
    · exact hx
    · exact h y hy
  simp at this; omega
theorem pigeon {h : Nat → Int} {m : List Int} (hm : ∀ k, h k ∈ m) : ∃ i j, i < j ∧ j ≤ m.length ∧ h i = h j := by
  refine Classical.byContradiction fun hc => ?_
  have hnd : ((List.range (m.length + 1)).map h).Nodup := by
    unfold List.Nodup
    rw [List.pairwise_map]
    refine (List.pairwise_lt_range (n := m.length + 1)).imp_of_mem fun {a b} ha hb hab he => hc ⟨a, b, hab, ?_, he⟩
    have := List.mem_range.1 hb
    omega
  have := len_sub hnd (m := m) fun x hx => by
    obtain ⟨k, _, rfl⟩ := List.mem_map.1 hx
    exact hm k
  rw [List.length_map, List.length_range] at this
  omega

/-! ### Row, by what it does -/
def tos (l : List Mv) : List Int := l.map (·.to)
def srcs (l : List Mv) : List Int := l.map (·.src)

theorem idx_some {p : Mv → Bool} {l : List Mv} {i : Nat} (hi : i < l.length) (h : idx p l = i) : p l[i] = true := by
  unfold idx at h
  cases hf : l.findIdx? p with
  | none => rw [hf] at h; simp at h
  | some k =>
    rw [hf] at h
    simp at h
    have hk : k = i := by omega
    subst hk
    exact (List.findIdx?_eq_some_iff_getElem.1 hf).2.1
theorem idx_none {p : Mv → Bool} {l : List Mv} (h : idx p l = -1) : ∀ m ∈ l, p m = false := by
  unfold idx at h
  cases hf : l.findIdx? p with
  | none => exact fun m hm => by simpa using List.findIdx?_eq_none_iff.1 hf m hm
  | some k => rw [hf] at h; simp at h
theorem free_iff {l : List Mv} {m : Mv} : free l m = true ↔ ∀ o ∈ l, o.src ≠ m.to := by simp [free]
theorem free_false {l : List Mv} {m : Mv} : free l m = false ↔ ∃ o ∈ l, o.src = m.to := by simp [free]

theorem tos_rd (s t : Int) (l : List Mv) : tos (l.map (rd s t)) = tos l := by
  simp only [tos, List.map_map]
  refine List.map_congr_left fun m _ => ?_
  simp only [Function.comp, rd]
  split <;> rfl
theorem perm_erase {l : List Mv} {i : Nat} (hi : i < l.length) : l.Perm (l[i] :: l.eraseIdx i) := by
  rw [List.eraseIdx_eq_take_drop_succ]
  have h : l = l.take i ++ l[i] :: l.drop (i + 1) := by rw [← List.drop_eq_getElem_cons hi, List.take_append_drop]
  exact (List.Perm.of_eq h).trans List.perm_middle

/-- If no move is free, each register read is set. -/
theorem stuck_srcs {l : List Mv} (hn : (tos l).Nodup) (h : ∀ m ∈ l, free l m = false) : ∀ x ∈ srcs l, x ∈ tos l :=
  sub_len hn (fun x hx => by
    obtain ⟨m, hm, rfl⟩ := List.mem_map.1 hx
    obtain ⟨o, ho, e⟩ := free_false.1 (h m hm)
    exact List.mem_map.2 ⟨o, ho, e⟩) (by simp [tos, srcs])

def upd (r : Int → Int) (t v : Int) : Int → Int := fun x => if x = t then v else r x
def exec (r : Int → Int) (l : List Mv) : Int → Int := l.foldl (fun r m => upd r m.to (r m.src)) r

theorem row_does {spare : Int} {l out : List Mv} (h : RowS spare l out) : ∀ r, (tos l).Nodup → spare ∉ tos l → (∀ m ∈ l, exec r out m.to = r m.src) ∧ ∀ x, x ∉ tos l → x ≠ spare → exec r out x = r x := by
  induction h with
  | nil => exact fun r _ _ => ⟨fun m hm => (nomatch hm), fun _ _ _ => rfl⟩
  | free i hi hidx hrest ih =>
    rename_i l rest
    intro r hn hs
    have hf := free_iff.1 (idx_some hi hidx)
    have hsub : ∀ o ∈ l.eraseIdx i, o ∈ l := fun o ho => List.mem_of_mem_eraseIdx ho
    have hperm := perm_erase hi
    have hn' : (l[i].to :: tos (l.eraseIdx i)).Nodup := ((hperm.map Mv.to).nodup_iff).1 hn
    rw [List.nodup_cons] at hn'
    have hs' : spare ∉ tos (l.eraseIdx i) := fun hm => by
      obtain ⟨o, ho, e⟩ := List.mem_map.1 hm
      exact hs (List.mem_map.2 ⟨o, hsub o ho, e⟩)
    obtain ⟨h1, h2⟩ := ih (upd r l[i].to (r l[i].src)) hn'.2 hs'
    have he : exec r (l[i] :: rest) = exec (upd r l[i].to (r l[i].src)) rest := rfl
    rw [he]
    have hne : l[i].to ≠ spare := fun e => hs (e ▸ List.mem_map.2 ⟨_, List.getElem_mem hi, rfl⟩)
    refine ⟨fun m hm => ?_, fun x hx hxs => ?_⟩
    · rcases List.mem_cons.1 (hperm.mem_iff.1 hm) with rfl | hm'
      · rw [h2 _ hn'.1 hne]; simp [upd]
      · rw [h1 m hm']
        simp [upd, hf m hm]
    · have hx1 : x ∉ tos (l.eraseIdx i) := fun hm => by
        obtain ⟨o, ho, e⟩ := List.mem_map.1 hm
        exact hx (List.mem_map.2 ⟨o, hsub o ho, e⟩)
      have hx2 : x ≠ l[i].to := fun e => hx (e ▸ List.mem_map.2 ⟨_, List.getElem_mem hi, rfl⟩)
      rw [h2 x hx1 hxs]
      simp [upd, hx2]
  | round hidx hrest ih =>
    rename_i m l rest
    intro r hn hs
    have hst := idx_none hidx
    have hsr := stuck_srcs hn hst
    obtain ⟨h1, h2⟩ := ih (upd r spare (r m.to)) (by rw [tos_rd]; exact hn) (by rw [tos_rd]; exact hs)
    rw [tos_rd] at h2
    have he : exec r (⟨spare, m.to⟩ :: rest) = exec (upd r spare (r m.to)) rest := rfl
    rw [he]
    refine ⟨fun o ho => ?_, fun x hx hxs => ?_⟩
    · have := h1 (rd spare m.to o) (List.mem_map.2 ⟨o, ho, rfl⟩)
      have hto : (rd spare m.to o).to = o.to := by unfold rd; split <;> rfl
      rw [hto] at this
      rw [this]
      by_cases hm : o.src = m.to
      · simp [rd, hm, upd]
      · have : o.src ≠ spare := fun e => hs (e ▸ hsr o.src (List.mem_map.2 ⟨o, ho, rfl⟩))
        simp [rd, hm, upd, this]
    · rw [h2 x hx hxs]
      simp [upd, hxs]

/-- All that is set, or read, are registers of the moves, or the spare one. -/
theorem row_in {spare : Int} {l out : List Mv} (h : RowS spare l out) : ∀ o ∈ out, (o.to = spare ∨ o.to ∈ tos l) ∧ (o.src = spare ∨ o.src ∈ srcs l ∨ o.src ∈ tos l) := by
  induction h with
  | nil => exact fun o ho => (nomatch ho)
  | free i hi hidx hrest ih =>
    rename_i l rest
    intro o ho
    rcases List.mem_cons.1 ho with rfl | ho
    · exact ⟨.inr (List.mem_map.2 ⟨_, List.getElem_mem hi, rfl⟩), .inr (.inl (List.mem_map.2 ⟨_, List.getElem_mem hi, rfl⟩))⟩
    · have hsub : ∀ o ∈ l.eraseIdx i, o ∈ l := fun o ho => List.mem_of_mem_eraseIdx ho
      have h1 : ∀ x ∈ tos (l.eraseIdx i), x ∈ tos l := fun x hx => by
        obtain ⟨m, hm, rfl⟩ := List.mem_map.1 hx
        exact List.mem_map.2 ⟨m, hsub m hm, rfl⟩
      have h2 : ∀ x ∈ srcs (l.eraseIdx i), x ∈ srcs l := fun x hx => by
        obtain ⟨m, hm, rfl⟩ := List.mem_map.1 hx
        exact List.mem_map.2 ⟨m, hsub m hm, rfl⟩
      obtain ⟨k1, k2⟩ := ih o ho
      exact ⟨k1.imp id (h1 _), k2.imp id fun k => k.imp (h2 _) (h1 _)⟩
  | round hidx hrest ih =>
    rename_i m l rest
    intro o ho
    rcases List.mem_cons.1 ho with rfl | ho
    · exact ⟨.inl rfl, .inr (.inr (List.mem_map.2 ⟨m, List.mem_cons_self .., rfl⟩))⟩
    · obtain ⟨k1, k2⟩ := ih o ho
      rw [tos_rd] at k1 k2
      refine ⟨k1, ?_⟩
      rcases k2 with k | k | k
      · exact .inl k
      · obtain ⟨q, hq, e⟩ := List.mem_map.1 k
        obtain ⟨p, hp, rfl⟩ := List.mem_map.1 hq
        unfold rd at e
        split at e
        · exact .inl e.symm
        · exact .inr (.inl (List.mem_map.2 ⟨p, hp, e⟩))
      · exact .inr (.inr k)
end Go.Proofs.Ytfknooeebmdfoaa.Sh

