/-
  What Row does, reckoned; Awake; lists of moves that grow.
-/
import Derived.Test.YtfknooeebmdfoaaLv5
set_option linter.unusedVariables false
set_option linter.unusedSimpArgs false
set_option linter.unusedSectionVars false
set_option maxRecDepth 100000
namespace Go.Proofs.Ytfknooeebmdfoaa.Sh
open Go Go.AM Go.Proofs

/-- Row, in so many steps. -/
def rowGo (spare : Int) : Nat → List Mv → Option (List Mv)
  | 0, _ => none
  | _ + 1, [] => some []
  | n + 1, m :: t =>
    match (m :: t).findIdx? (free (m :: t)) with
    | some i => (rowGo spare n ((m :: t).eraseIdx i)).map fun r => ((m :: t)[i]?.getD m) :: r
    | none => (rowGo spare n ((m :: t).map (rd spare m.to))).map fun r => ⟨spare, m.to⟩ :: r

theorem rowGo_ok {spare : Int} : ∀ {n : Nat} {l out : List Mv}, rowGo spare n l = some out → RowS spare l out := by
  intro n
  induction n with
  | zero => intro l out h; cases h
  | succ n ih =>
    intro l out h
    cases l with
    | nil =>
      simp only [rowGo, Option.some.injEq] at h
      subst h; exact .nil
    | cons m t =>
      unfold rowGo at h
      cases hi : (m :: t).findIdx? (free (m :: t)) with
      | some i =>
        rw [hi] at h
        simp only [Option.map_eq_some_iff] at h
        obtain ⟨r, h1, h2⟩ := h
        have hlt := (List.findIdx?_eq_some_iff_getElem.1 hi).1
        rw [List.getElem?_eq_getElem hlt] at h2
        simp only [Option.getD_some] at h2
        subst h2
        exact .free i hlt (by unfold idx; rw [hi]) (ih h1)
      | none =>
        rw [hi] at h
        simp only [Option.map_eq_some_iff] at h
        obtain ⟨r, h1, h2⟩ := h
        subst h2
        exact .round (by unfold idx; rw [hi]) (ih h1)

theorem cMs_flatMap (l : List Mv) : cMs l = l.flatMap cM := by rw [cMs, List.flatMap_def]

/-- One more move, behind or ahead. -/
theorem mv_push {st0 st : St} {v : Value} {l : List Mv} (hE : Ext st0 st) (hro : st0.ro ≤ st0.next) (h : Own st0.next st 2 v (cMs l)) (m : Mv) (hl : l.length < 1000) :
    ∃ v' st', sAppend 2 16 v (Sl st.next 0 1 2) (st.alloc (.cells (cM m))) = .ok (v', st') ∧ Own st0.next st' 2 v' (cMs (l ++ [m])) ∧ Ext st0 st' := by
  obtain ⟨v', st', r, h1, h2, _⟩ := Own.push (bytes := 16) hE hro h (by decide) (new := cM m) rfl rfl (by rw [cMs_len]; omega)
  exact ⟨v', st', r, by rw [cMs_append]; simpa [cMs] using h1, h2⟩
theorem mv_cons {st0 st : St} {v : Value} {l : List Mv} (hE : Ext st0 st) (hro : st0.ro ≤ st0.next) (h : Own st0.next st 2 v (cMs l)) (m : Mv) (hl : l.length < 1000) :
    ∃ v' st', sAppend 2 16 (Sl st.next 0 1 2) v (st.alloc (.cells (cM m))) = .ok (v', st') ∧ Own st0.next st' 2 v' (cMs (m :: l)) ∧ Ext st0 st' := by
  have hneed : ∀ {b : Bool} {s : String}, b = true → Res.need b s = .ok () := fun h => by subst h; rfl
  have ho : Own st0.next (st.alloc (.cells (cM m))) 2 (Sl st.next 0 1 2) (cM m) := .inr ⟨st.next, 1, rfl, rfl, by rw [get_alloc, if_pos rfl], hE.next, Nat.lt_succ_self _⟩
  have hlen : lenL v = .ok l.length ∧ firstL (st.alloc (.cells (cM m))) 2 l.length v = .ok (cMs l) := by
    rcases h with ⟨h0, c, rfl⟩ | ⟨b, n, rfl, h2, h3, h4, h5⟩
    · have : l = [] := by
        cases l with
        | nil => rfl
        | cons a l => simp [cMs_cons, cM] at h0
      subst this
      exact ⟨rfl, rfl⟩
    · have hn : n = l.length := by rw [cMs_len] at h2; omega
      subst hn
      have hg : (st.alloc (.cells (cM m))).get b = some (.cells (cMs l)) := by rw [get_alloc, if_neg (by omega)]; exact h3
      refine ⟨rfl, ?_⟩
      simp only [firstL, hneed (decide_eq_true (rfl : 2 = 2)), Res.bind_ok, St.loadN, cells_eq hg, hneed (decide_eq_true (show 0 + l.length * 2 ≤ (cMs l).length by rw [cMs_len]; omega))]
      rw [List.drop_zero, List.take_of_length_le (by rw [cMs_len]; exact Nat.le_refl _)]
      rfl
  obtain ⟨v', st', r, h1, h2, _⟩ := Own.app (bytes := 16) (hE.alloc _) hro ho (by decide) hlen.1 hlen.2 (cMs_len l) (cMs_ok l) (by show (2 + l.length) * 16 ≤ 2 ^ 46; omega)
  exact ⟨v', st', r, by rw [cMs_cons]; exact h1, h2⟩
theorem mv_rsl {n0 : Nat} {st : St} {v : Value} {l : List Mv} (h : Own n0 st 2 v (cMs l)) : RSl (Rng n0 st.next) st 2 RMove v l := by
  rw [cMs_flatMap] at h
  exact h.rsl (by decide) (fun _ => rfl) fun _ _ => rfl

variable {K : Ctx} (hF : Fix pgF K)
include hF

theorem Awake22_ok (st : St) (hro : st.ro ≤ st.next) : Ok (K.go (.call n_refinerylaw22_Awake []) st) fun r => r.1 = B true ∧ Ext st r.2 := by
  generalize hQ : (fun r : Value × St => r.1 = B true ∧ Ext st r.2) = Q
  refine refinerylaw22_Awake_of hF fun J hJ => ?_
  rw [refinerylaw22_Awake_eq]
  have b1 : ∀ s, sBuild [I 0, I 0] [(0, 1, I 1), (1, 1, I 2)] s = .ok (vM ⟨1, 2⟩, s) := fun s => rfl
  have b2 : ∀ s, sBuild [I 0, I 0] [(0, 1, I 2), (1, 1, I 1)] s = .ok (vM ⟨2, 1⟩, s) := fun s => rfl
  have hli : sLit 2 2 [I 0, I 0, I 0, I 0] [(0, 2, vM ⟨1, 2⟩), (2, 2, vM ⟨2, 1⟩)] st = .ok (Sl st.next 0 2 2, st.alloc (.cells (cMs [⟨1, 2⟩, ⟨2, 1⟩]))) := rfl
  have hm : MB (st.alloc (.cells (cMs [⟨1, 2⟩, ⟨2, 1⟩]))) st.next [⟨1, 2⟩, ⟨2, 1⟩] := by simp [MB]
  have hr := mb_rsl (A := Bel (st.next + 1)) hm (Nat.lt_succ_self _) (k := 0) (n := 2) (by decide)
  simp [b1, b2, hli]
  refine (Row_ok hF (st := st.alloc (.cells (cMs [⟨1, 2⟩, ⟨2, 1⟩]))) (spare := 9) (fun id h => h) (l := [⟨1, 2⟩, ⟨2, 1⟩]) hr (by decide) (Nat.le_succ_of_le hro) (out := [⟨9, 1⟩, ⟨1, 2⟩, ⟨2, 9⟩]) (rowGo_ok (n := 10) (by decide)) (by decide)).thn fun ⟨r1, s⟩ ⟨h1, h2⟩ => ?_
  simp only at h1 h2 ⊢
  have hl : ∀ s, sLen .slice r1 s = .ok (I 3, s) := h1.len
  simp [-sLen_slice, hl]
  rw [← hQ]
  exact ⟨rfl, Ext.trans (by simp) h2⟩
end Go.Proofs.Ytfknooeebmdfoaa.Sh

