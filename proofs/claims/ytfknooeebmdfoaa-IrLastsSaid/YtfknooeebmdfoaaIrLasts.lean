/-
  IrLasts: whatever end it is given, the law's function answers true.
-/
import Derived.Test.YtfknooeebmdfoaaIr6
import Derived.Test.YtfknooeebmdfoaaShL7
set_option linter.unusedVariables false
set_option linter.unusedSimpArgs false
namespace Go.Proofs.Ytfknooeebmdfoaa.Sh
open Go Go.AM Go.Proofs

theorem rsl_cells {A : Nat → Prop} {st : St} {b : Nat} (l rest : List Int) (h : st.get b = some (.cells ((l ++ rest).map I))) (ha : A b) : RSl A st 1 RInt (Sl b 0 l.length 1) l := by
  refine .inr ⟨b, 0, _, rfl, ha, h, by simp, fun i x hx => ?_⟩
  have hi := (List.getElem?_eq_some_iff.1 hx).1
  have : ((l ++ rest).map I)[i]? = some (I x) := by rw [List.getElem?_map, List.getElem?_append_left hi, hx]; rfl
  simp only [Nat.zero_add, Nat.mul_one, RInt]
  have hlt : i < ((l ++ rest).map I).length := by simp; omega
  rw [List.drop_eq_getElem_cons hlt, List.take_succ_cons, List.take_zero]
  rw [List.getElem?_eq_getElem hlt] at this
  simpa using this

variable {K : Ctx} (hF : Fix (funs pg) K)
include hF

theorem IrLasts_j2 {J} (hJ : IsJ K (retK refinerylaw03_IrLasts_c.results) J) {A : Nat → Prop} {st : St} {b w : Nat} {v7 : Value} (x : Last) (hro : st.ro ≤ st.next) (hb : b < st.next) (hw : w < st.next) (gb : st.get b = some (.cells [U x.kind, I x.a, I x.yes, I x.no])) (gw : st.get w = some (.cells [U x.only.kind, I x.only.a, I x.only.yes, I x.only.no]))
    (hA : ∀ id, A id → id < st.next) (h7 : RSl A st 1 RInt v7 x.labels) : Ok (refinerylaw03_IrLasts_j2 J (P b 0) v7 (P w 0) st) fun r => r.1 = B true := by
  rw [refinerylaw03_IrLasts_j2_eq hJ]
  obtain ⟨k, a, y, n⟩ := x
  simp only at gb
  simp [gb, loadN_def, Res.need]
  refine (LReads_ok hF ⟨k, a, y, n⟩ _).bind fun r hr => ?_
  obtain ⟨hv, hE⟩ := hr
  have gb1 := (hE.get b hb).trans gb
  have hlab : (Last.labels ⟨k, a, y, n⟩).length < 2 ^ 62 := by
    unfold Last.labels
    split
    · simp
    · split <;> simp
  have e := fun s => sEq_last false (Last.only ⟨k, a, y, n⟩) (Last.only ⟨k, a, y, n⟩) s
  simp only [vL] at e
  rw [hv]
  have h : k = 1 ∨ k = 2 ∨ (k ≠ 1 ∧ k ≠ 2) := by omega
  rcases h with rfl | rfl | h
  all_goals
    simp [gb1, Last.reads, sEq, aeq, loadN_def, Res.need]
    try simp [h, gb1, loadN_def, Res.need]
    refine (Labels_ok hF ⟨_, a, y, n⟩ _).bind fun q hq => ?_
    obtain ⟨hq1, hE2⟩ := hq
    have hE3 := hE.trans hE2
    have e2 := EqInt_eq hF hq1 h7 hlab (Agree.refl _ q.2) (hE3.agree hA)
    simp only [decide_true] at e2
    have gb2 := (hE3.get b hb).trans gb
    have gw2 := (hE3.get w hw).trans gw
    rw [e2]
    simp [gb2, loadN_def, Res.need]
    refine (LOnly_ok hF ⟨_, a, y, n⟩ _ (hE3.roOk hro)).bind fun t ht => ?_
    obtain ⟨hv2, hE4⟩ := ht
    have gw3 := ((hE3.trans hE4).get w hw).trans gw
    rw [hv2]
    simp [gw3, gw2, loadN_def, Res.need, sStays, sameVal, sameOne, sameCell, sameCells, idOf, e, vL]
  all_goals simp [fieldsEq, cellEq]

theorem IrLasts_j1 {J} (hJ : IsJ K (retK refinerylaw03_IrLasts_c.results) J) {st : St} {b : Nat} (x : Last) (hro : st.ro ≤ st.next) (hb : b < st.next) (gb : st.get b = some (.cells [U x.kind, I x.a, I x.yes, I x.no])) :
    Ok (refinerylaw03_IrLasts_j1 J (P b 0) st) fun r => r.1 = B true := by
  rw [refinerylaw03_IrLasts_j1_eq hJ]
  obtain ⟨k, a, y, n⟩ := x
  simp only at gb
  have hne : b ≠ st.next := by omega
  have hne' : st.next ≠ b := by omega
  have hne2 : b ≠ st.next + 1 := by omega
  have hr1 : st.ro ≤ st.next + 1 := by omega
  have h : k = 0 ∨ k = 1 ∨ k = 2 ∨ (k ≠ 0 ∧ k ≠ 1 ∧ k ≠ 2) := by omega
  rcases h with rfl | rfl | rfl | h
  · simp [gb, sBuild, fillL, isTuple, Res.need, hro, hne, hne2]
    refine IrLasts_j2 hF hJ ⟨0, a, y, n⟩ (A := Bel (st.next + 2)) (by simp; omega) (by simp; omega) (by simp; omega) (by simp [hne, hne2, gb]) (by simp [Last.only]) (fun id h => by simp; exact h) ?_
    exact rsl_cells [y] [] (by simp) (by simp [Bel])
  · by_cases hy : y = n
    · simp [gb, sBuild, fillL, isTuple, Res.need, hro, hne, hne2, sStays, sameVal, sameOne, sameCell, idOf, hy, sSlice, aslice, boundO, bound, St.cells]
      refine IrLasts_j2 hF hJ ⟨1, a, n, n⟩ (A := Bel (st.next + 2)) (by simp; omega) (by simp; omega) (by simp; omega) (by simp [hne, hne2, gb, hy]) (by simp [Last.only]) (fun id h => by simp; exact h) ?_
      simp [Last.labels]
      exact rsl_cells [n] [n] (by simp) (by simp [Bel])
    · simp [gb, sBuild, fillL, isTuple, Res.need, hro, hne, hne2, sStays, sameVal, sameOne, sameCell, idOf, hy]
      refine IrLasts_j2 hF hJ ⟨1, a, y, n⟩ (A := Bel (st.next + 2)) (by simp; omega) (by simp; omega) (by simp; omega) (by simp [hne, hne2, gb]) (by simp [Last.only]) (fun id h => by simp; exact h) ?_
      simp [Last.labels, hy]
      exact rsl_cells [y, n] [] (by simp) (by simp [Bel])
  · simp [gb, sBuild, fillL, isTuple, Res.need, hro, hne, hne2]
    refine IrLasts_j2 hF hJ ⟨2, a, y, n⟩ (A := Bel (st.next + 1)) (by simp; omega) (by simp; omega) (by simp) (by simp [hne, hne2, gb]) (by simp [Last.only]) (fun id h => by simp; exact h) ?_
    exact .nil _ _ _ _ _
  · simp [gb, sBuild, fillL, isTuple, Res.need, hro, hne, hne2, h]
    refine IrLasts_j2 hF hJ ⟨k, a, y, n⟩ (A := Bel (st.next + 1)) (by simp; omega) (by simp; omega) (by simp) (by simp [hne, hne2, gb]) (by simp [Last.only, h]) (fun id h => by simp; exact h) ?_
    simp [Last.labels, h]
    exact .nil _ _ _ _ _

theorem IrLasts_ok (l : Last) (e : Int) (same : Bool) (st : St) (hro : st.ro ≤ st.next) : Ok (K.go (.call n_refinerylaw03_IrLasts [vL l, U e, B same]) st) fun r => r.1 = B true := by
  refine refinerylaw03_IrLasts_of hF fun J hJ => ?_
  rw [refinerylaw03_IrLasts_eq]
  have hr1 : st.ro ≤ st.next + 1 := by omega
  simp [vL]
  refine (Awake3_ok hF _ (by simp; omega)).bind fun r hr => ?_
  obtain ⟨hv, hE⟩ := hr
  have g1 : r.2.get st.next = some (.cells [U l.kind, I l.a, I l.yes, I l.no]) := by rw [hE.get _ (by simp)]; simp
  have hn := hE.next
  have ho := hE.ro
  simp at hn ho
  rw [hv]
  cases same with
  | false =>
    simp [refinerylaw03_IrLasts_j0_eq hJ, g1, Res.need, ho, hro]
    exact IrLasts_j1 hF hJ ⟨e.tmod 6, l.a, l.yes, l.no⟩ (by simp; omega) (by simp; omega) (by simp)
  | true =>
    simp [refinerylaw03_IrLasts_j0_eq hJ, g1, Res.need, ho, hro]
    exact IrLasts_j1 hF hJ ⟨e.tmod 6, l.a, l.yes, l.yes⟩ (by simp; omega) (by simp; omega) (by simp)
end Go.Proofs.Ytfknooeebmdfoaa.Sh
