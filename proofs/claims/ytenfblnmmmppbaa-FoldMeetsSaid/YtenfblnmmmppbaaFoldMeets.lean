/-
  FoldMeets: whatever it is given, the law's function answers true.
-/
import Derived.Test.YtenfblnmmmppbaaIrArgs
import Derived.Test.YtenfblnmmmppbaaMoveC
import Derived.Test.YtenfblnmmmppbaaTabA
import Derived.Test.YtenfblnmmmppbaaShF
set_option linter.unusedVariables false
set_option linter.unusedSimpArgs false
set_option linter.unusedSectionVars false
set_option maxRecDepth 1000000
namespace Go.Proofs.Ytenfblnmmmppbaa.Sh
open Go Go.AM Go.Proofs

structure Fact where
  s : Int
  n : Int
deriving DecidableEq
def vF (a : Fact) : Value := .agg #[U a.s, I a.n]
def meet (a b : Fact) : Fact := if a.s = 0 then b else if b.s = 0 ∨ a = b then a else ⟨2, 0⟩
def tidy (a : Fact) : Fact := if a.s.tmod 3 = 1 then ⟨a.s.tmod 3, a.n⟩ else ⟨a.s.tmod 3, 0⟩

section
variable (a b : Fact) (s : St)
@[simp] theorem sField_vF0 : sField none 0 (vF a) s = .ok (U a.s, s) := rfl
@[simp] theorem sField_vF1 : sField none 1 (vF a) s = .ok (I a.n, s) := rfl
@[simp] theorem sField_vF : sField (some 2) 0 (vF a) s = .ok (vF a, s) := rfl
@[simp] theorem sLref_vF : sLref (vF a) s = .ok (nothing, s) := rfl
@[simp] theorem sLbox_vF : sLbox (vF a) s = .ok (vF a, s.bump) := rfl
@[simp] theorem sUpd_vF : sUpd 2 0 (vF a) (vF b) s = .ok (vF b, s) := by simp [vF, Res.need]
@[simp] theorem sUpd_vF0 : sUpd 2 0 (.agg #[U 0, I 0]) (vF b) s = .ok (vF b, s) := by simp [vF, Res.need]
@[simp] theorem sUpd_vFs (x : Int) : sUpd 1 0 (vF a) (U x) s = .ok (vF ⟨x, a.n⟩, s) := by simp [vF, Res.need]
@[simp] theorem sUpd_vFn (x : Int) : sUpd 1 1 (vF a) (I x) s = .ok (vF ⟨a.s, x⟩, s) := by simp [vF, Res.need]
@[simp] theorem sBuild_vF : sBuild [U 0, I 0] [(0, 1, U 2)] s = .ok (vF ⟨2, 0⟩, s) := rfl
@[simp] theorem sameVal_vF : sameVal (vF a) (vF a) = true := by simp [sameVal, sameOne, sameCells, sameCell, vF]
@[simp] theorem isTuple_vF : isTuple (vF a) = false := rfl
theorem sEq_vF : sEq false (.fields [(0, .int), (1, .int)]) (vF a) (vF b) s = .ok (B (decide (a = b)), s) := by
  obtain ⟨x, y⟩ := a
  obtain ⟨z, w⟩ := b
  by_cases h1 : x = z <;> by_cases h2 : y = w <;> simp [sEq, aeq, vF, fieldsEq, cellEq, h1, h2]
end

theorem awake18_run : trueAt 0 (AM.runT (findT TabA.tab) 60 (.call n_refinerylaw18_Awake []) (st0 0)) = true := by kernel_rfl
theorem tabA_ok : okTab TabA.tab = true := by kernel_rfl

/-! plain law -/
theorem tidy_ok (a : Fact) (h : 0 ≤ a.s) : (tidy a).s = 0 ∧ (tidy a).n = 0 ∨ (tidy a).s = 1 ∨ (tidy a).s = 2 ∧ (tidy a).n = 0 := by
  unfold tidy
  rw [Int.tmod_eq_emod_of_nonneg h]
  have h1 := Int.emod_nonneg a.s (show (3 : Int) ≠ 0 by decide)
  have h2 := Int.emod_lt_of_pos a.s (show (0 : Int) < 3 by decide)
  split
  · right; left; assumption
  · show (a.s % 3 = 0 ∧ (0 : Int) = 0) ∨ a.s % 3 = 1 ∨ (a.s % 3 = 2 ∧ (0 : Int) = 0)
    omega

variable {K : Ctx} (hF : Fix pgF K)
include hF

theorem Awake18_ok (st : St) (hro : st.ro ≤ st.next) : Ok (K.go (.call n_refinerylaw18_Awake []) st) fun r => r.1 = B true ∧ Ext st r.2 := by
  obtain ⟨t, h1, _⟩ := trueAt_ok awake18_run
  obtain ⟨st', e, a, b, c⟩ := call_of_run TabA.tab_le tabA_ok hF (args := []) rfl rfl h1 st hro
  exact ⟨_, e, rfl, a, b, c⟩

theorem Meet_eq (a b : Fact) (st : St) : K.go (.call n_fold_Meet [vF a, vF b]) st = .ok (vF (meet a b), st.bump.bump.bump) := by
  refine Ok.eq (fold_Meet_of hF fun J hJ => ?_)
  rw [fold_Meet_eq]
  unfold meet
  by_cases h1 : a.s = 0
  · simp [h1, oneOf]
  · by_cases h2 : b.s = 0
    · simp [h1, h2, oneOf]
    · by_cases h3 : a = b
      · have e := sEq_vF a b st.bump.bump.bump
        rw [decide_eq_true h3] at e
        rw [if_neg h1, if_pos (.inr h3)]
        simp [h1, h2, oneOf, e]
      · have e := sEq_vF a b st.bump.bump.bump
        rw [decide_eq_false h3] at e
        rw [if_neg h1, if_neg (by simp [h2, h3])]
        simp [h1, h2, oneOf, e, fold_Meet_j0_eq hJ]

theorem Tidy_eq (a : Fact) (st : St) : sCall K (.func (.func n_refinerylaw18_FoldMeets_1) #[] #[]) [vF a] st = .ok (vF (tidy a), st.bump.bump) := by
  have e : sCall K (.func (.func n_refinerylaw18_FoldMeets_1) #[] #[]) [vF a] st = K.go (.call n_refinerylaw18_FoldMeets_1 [vF a]) st := by simp [sCall, taskOf]
  rw [e]
  refine Ok.eq (refinerylaw18_FoldMeets_1_of hF fun J hJ => ?_)
  rw [refinerylaw18_FoldMeets_1_eq]
  unfold tidy
  by_cases h : a.s.tmod 3 = 1
  · simp [h, refinerylaw18_FoldMeets_1_j0_eq hJ, oneOf]
  · simp [h, refinerylaw18_FoldMeets_1_j0_eq hJ, oneOf]

section
variable {J : JT (Value × St)} (hJ : IsJ K (retK refinerylaw18_FoldMeets_c.results) J)
include hJ

theorem FM_j2 {a b c w : Fact} (h1 : meet a b = w) (h2 : meet b a = w) (h3 : meet a a = a) (h4 : meet w c = meet a (meet b c)) (s : St) : Ok (refinerylaw18_FoldMeets_j2 J (vF a) (vF b) (vF c) (vF w) s) fun r => r.1 = B true := by
  rw [refinerylaw18_FoldMeets_j2_eq hJ]
  have e : ∀ (a : Fact) s, sEq false (.fields [(0, .int), (1, .int)]) (vF a) (vF a) s = .ok (B true, s) := fun a s => by rw [sEq_vF, decide_eq_true rfl]
  simp [Meet_eq hF, h1, h2, h3, h4, e, Res.need]
theorem FM_j1 {a b c : Fact} (ha : a.s = 0 ∧ a.n = 0 ∨ a.s = 1 ∨ a.s = 2 ∧ a.n = 0) (hb : b.s = 0 ∧ b.n = 0 ∨ b.s = 1 ∨ b.s = 2 ∧ b.n = 0) (hc : c.s = 0 ∧ c.n = 0 ∨ c.s = 1 ∨ c.s = 2 ∧ c.n = 0) (s : St) : Ok (refinerylaw18_FoldMeets_j1 J (vF a) (vF b) (vF c) s) fun r => r.1 = B true := by
  have key : ∀ w, w = meet a b → Ok (refinerylaw18_FoldMeets_j2 J (vF a) (vF b) (vF c) (vF w) s.bump) fun r => r.1 = B true := fun w hw => by
    subst hw
    refine FM_j2 hF hJ rfl ?_ ?_ ?_ _
    · obtain ⟨x, y⟩ := a
      obtain ⟨z, u⟩ := b
      simp only at ha hb
      unfold meet
      rcases ha with ⟨rfl, rfl⟩ | rfl | ⟨rfl, rfl⟩ <;> rcases hb with ⟨rfl, rfl⟩ | rfl | ⟨rfl, rfl⟩ <;> simp
      by_cases e : u = y
      · simp [e]
      · simp [e, Ne.symm e]
    · unfold meet
      split <;> simp
    · obtain ⟨x, y⟩ := a
      obtain ⟨z, u⟩ := b
      obtain ⟨p, q⟩ := c
      simp only at ha hb hc
      unfold meet
      rcases ha with ⟨rfl, rfl⟩ | rfl | ⟨rfl, rfl⟩ <;> rcases hb with ⟨rfl, rfl⟩ | rfl | ⟨rfl, rfl⟩ <;> rcases hc with ⟨rfl, rfl⟩ | rfl | ⟨rfl, rfl⟩ <;> simp
      all_goals (repeat' split)
      all_goals simp_all
  rw [refinerylaw18_FoldMeets_j1_eq hJ]
  by_cases h1 : a.s = 0
  · simp [h1]
    exact key b (by simp [meet, h1])
  · by_cases h2 : b.s = 0
    · simp [h1, h2]
      exact key a (by simp [meet, h1, h2])
    · by_cases h3 : a = b
      · have e := sEq_vF a b s.bump
        rw [decide_eq_true h3] at e
        simp [h1, h2, e]
        exact key a (by simp [meet, h1, h3])
      · have e := sEq_vF a b s.bump
        rw [decide_eq_false h3] at e
        simp [h1, h2, e]
        exact key ⟨2, 0⟩ (by simp [meet, h1, h2, h3])
end

theorem FoldMeets_ok (a b c : Fact) (same : Bool) (ha : 0 ≤ a.s) (hb : 0 ≤ b.s) (hc : 0 ≤ c.s) (st : St) (hro : st.ro ≤ st.next) : Ok (K.go (.call n_refinerylaw18_FoldMeets [vF a, vF b, vF c, B same]) st) fun r => r.1 = B true := by
  refine refinerylaw18_FoldMeets_of hF fun J hJ => ?_
  rw [refinerylaw18_FoldMeets_eq]
  simp
  refine (Awake18_ok hF _ (by simp; omega)).call fun s1 hE1 => ?_
  have ta := tidy_ok a ha
  have tb := tidy_ok b hb
  have tc := tidy_ok c hc
  simp [refinerylaw18_FoldMeets_j0_eq hJ, Tidy_eq hF, Res.need]
  generalize tidy a = a' at *
  generalize tidy b = b' at *
  generalize tidy c = c' at *
  cases same with
  | false =>
    simp
    exact FM_j1 hF hJ ta tb tc _
  | true =>
    simp [Tidy_eq hF]
    exact FM_j1 hF hJ ta (tidy_ok ⟨b'.s, a'.n⟩ (by simp only; omega)) tc _

theorem FoldMeets_args (st : St) (args : List Value) (hro : st.ro = st.next) (h : WVs pg st [57, 57, 57, 4] args) : Ok (K.go (.call n_refinerylaw18_FoldMeets args) st) fun r => r.1 = .bool true := by
  match args, h with
  | [v0, v1, v2, v3], ⟨h0, h1, h2, h3, _⟩ =>
    obtain ⟨b3, rfl⟩ := h3.bool Try.underlying4
    have key : ∀ v, WV pg st 57 v → ∃ a : Fact, v = vF a ∧ 0 ≤ a.s := fun v h => by
      obtain ⟨cs, rfl, hw⟩ := h.agg (by simp [isStruct, Try.underlying57])
      obtain ⟨hl, hfs⟩ := hw.getStruct Try.underlying57
      rw [show pg.cellsOf 57 = 2 by kernel_rfl] at hl
      obtain ⟨x, y, hxy⟩ : ∃ x y, cs.toList = [x, y] := by
        match cs.toList, hl with
        | [x, y], _ => exact ⟨x, y, rfl⟩
      rw [hxy] at hfs
      simp only [List.forall_mem_cons] at hfs
      obtain ⟨h1, h2, _⟩ := hfs
      obtain ⟨k, rfl, w1⟩ := fld Try.underlying55 (by kernel_rfl) h1 rfl
      obtain ⟨o, rfl, w2⟩ := fld Try.underlying2 one2 h2 rfl
      refine ⟨⟨k, o⟩, ?_, (bounds_u8 w1).1⟩
      have : cs = #[U k, I o] := by rw [← Array.toList_inj]; exact hxy
      rw [this]; rfl
    obtain ⟨a, rfl, ha⟩ := key _ h0
    obtain ⟨b, rfl, hb⟩ := key _ h1
    obtain ⟨c, rfl, hc⟩ := key _ h2
    exact FoldMeets_ok hF a b c b3 ha hb hc st (Nat.le_of_eq hro)
end Go.Proofs.Ytenfblnmmmppbaa.Sh

