/-
  SweepDoes: whatever it is given, the law's function answers true.
-/
import Derived.Test.YtenfblnmmmppbaaSw4
set_option linter.unusedVariables false
set_option linter.unusedSimpArgs false
set_option linter.unusedSectionVars false
set_option maxRecDepth 100000
namespace Go.Proofs.Ytenfblnmmmppbaa.Sh
open Go Go.AM Go.Proofs

variable {K : Ctx} (hF : Fix pgF K)
include hF

theorem SweepDoes_end {J} (hJ : IsJ K (retK refinerylaw21_SweepDoes_c.results) J) (x : Instr) (b : Bool) (hb : (!x.pure && !decide (x.kind = 5)) = b) (st : St) : Ok (refinerylaw21_SweepDoes_j2 J (vI x) (B b) st) fun r => r.1 = B true := by
  rw [refinerylaw21_SweepDoes_j2_eq hJ]
  simp
  refine (Does_ok hF x st).call fun s hE => ?_
  rw [hb]
  simp

theorem SweepDoes_ok (x0 : Instr) (k o : Int) (hk : 0 ≤ k ∧ k ≤ 255) (ho : 0 ≤ o ∧ o ≤ 255) (st : St) (hro : st.ro ≤ st.next) : Ok (K.go (.call n_refinerylaw21_SweepDoes [vI x0, U k, U o]) st) fun r => r.1 = B true := by
  refine refinerylaw21_SweepDoes_of hF fun J hJ => ?_
  rw [refinerylaw21_SweepDoes_eq]
  simp
  refine (Awake21_ok hF st.bump (by simp; omega)).call fun s1 hE1 => ?_
  have tk : k.tmod 9 = k % 9 := Int.tmod_eq_emod_of_nonneg hk.1
  have to : o.tmod 12 = o % 12 := Int.tmod_eq_emod_of_nonneg ho.1
  have hk9 : 0 ≤ k % 9 ∧ k % 9 < 9 := by omega
  generalize k % 9 = a at tk hk9
  generalize o % 12 = b at to
  simp [refinerylaw21_SweepDoes_j0_eq hJ, tk, to]
  have hcase : a = 0 ∨ a = 1 ∨ a = 5 ∨ a = 2 ∨ (a ≠ 0 ∧ a ≠ 1 ∧ a ≠ 5 ∧ a ≠ 2) := by omega
  rcases hcase with rfl | rfl | rfl | rfl | ⟨h0, h1, h5, h2⟩
  · simp [refinerylaw21_SweepDoes_j1_eq hJ]
    exact SweepDoes_end hF hJ ⟨0, b, x0.dst, x0.a, x0.b, x0.n, x0.slot⟩ false (by simp [Instr.pure]) _
  · simp [refinerylaw21_SweepDoes_j1_eq hJ]
    exact SweepDoes_end hF hJ ⟨1, b, x0.dst, x0.a, x0.b, x0.n, x0.slot⟩ false (by simp [Instr.pure]) _
  · simp [refinerylaw21_SweepDoes_j1_eq hJ]
    exact SweepDoes_end hF hJ ⟨5, b, x0.dst, x0.a, x0.b, x0.n, x0.slot⟩ false (by simp [Instr.pure]) _
  · by_cases hb3 : b = 3
    · simp [refinerylaw21_SweepDoes_j1_eq hJ, hb3]
      exact SweepDoes_end hF hJ ⟨2, 3, x0.dst, x0.a, x0.b, x0.n, x0.slot⟩ true (by simp [Instr.pure]) _
    · by_cases hb4 : b = 4
      · simp [refinerylaw21_SweepDoes_j1_eq hJ, hb4]
        exact SweepDoes_end hF hJ ⟨2, 4, x0.dst, x0.a, x0.b, x0.n, x0.slot⟩ true (by simp [Instr.pure]) _
      · simp [refinerylaw21_SweepDoes_j1_eq hJ, hb3, hb4]
        exact SweepDoes_end hF hJ ⟨2, b, x0.dst, x0.a, x0.b, x0.n, x0.slot⟩ false (by simp [Instr.pure, hb3, hb4]) _
  · simp [refinerylaw21_SweepDoes_j1_eq hJ, h0, h1, h5, h2]
    exact SweepDoes_end hF hJ ⟨a, b, x0.dst, x0.a, x0.b, x0.n, x0.slot⟩ true (by simp [Instr.pure, h0, h1, h5, h2]) _

theorem SweepDoes_args (st : St) (args : List Value) (hro : st.ro = st.next) (h : WVs pg st [25, 5, 5] args) : Ok (K.go (.call n_refinerylaw21_SweepDoes args) st) fun r => r.1 = .bool true := by
  match args, h with
  | [v0, v1, v2], ⟨h0, h1, h2, _⟩ =>
    obtain ⟨x, rfl, _⟩ := wv_Instr h0
    obtain ⟨n1, rfl, w1⟩ := h1.int Try.underlying5
    obtain ⟨n2, rfl, w2⟩ := h2.int Try.underlying5
    exact SweepDoes_ok hF x n1 n2 (bounds_u8 w1) (bounds_u8 w2) st (Nat.le_of_eq hro)
end Go.Proofs.Ytenfblnmmmppbaa.Sh

