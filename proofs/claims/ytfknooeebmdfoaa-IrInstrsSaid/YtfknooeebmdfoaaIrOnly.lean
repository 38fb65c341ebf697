/-
  IrOnly: whatever it is given, the law's function answers true.
-/
import Derived.Test.YtfknooeebmdfoaaIrArgs
import Derived.Test.YtfknooeebmdfoaaShL6
set_option linter.unusedVariables false
set_option linter.unusedSimpArgs false
set_option linter.unusedSectionVars false
set_option maxRecDepth 100000
namespace Go.Proofs.Ytfknooeebmdfoaa.Sh
open Go Go.AM Go.Proofs

theorem only_only (x : Instr) : x.only.only = x.only := by
  obtain ⟨k, o, d, a, b, n, s⟩ := x
  have h : k = 0 ∨ k = 1 ∨ k = 2 ∨ k = 3 ∨ k = 4 ∨ k = 5 ∨ k = 6 ∨ k = 7 ∨ k = 8 ∨ (k ≠ 0 ∧ k ≠ 1 ∧ k ≠ 2 ∧ k ≠ 3 ∧ k ≠ 4 ∧ k ≠ 5 ∧ k ≠ 6 ∧ k ≠ 7 ∧ k ≠ 8) := by omega
  rcases h with rfl | rfl | rfl | rfl | rfl | rfl | rfl | rfl | rfl | h <;> simp [Instr.only, Instr.sets, Instr.reads]
  simp [h]

theorem reg_small {n : Int} (h : 0 ≤ n ∧ n ≤ 255) : isReg n = true := by simp [isReg]; omega

theorem check_only (x : Instr) (hk : 0 ≤ x.kind ∧ x.kind < 9) (ho : 0 ≤ x.op ∧ x.op < 12) (hd : 0 ≤ x.dst ∧ x.dst ≤ 255) (ha : 0 ≤ x.a ∧ x.a ≤ 255) (hb : 0 ≤ x.b ∧ x.b ≤ 255) (hs : 0 ≤ x.slot ∧ x.slot < 16) :
    x.only.check = 0 ∧ x.check = if x = x.only then 0 else 5 := by
  have h1 : x.check = if x ≠ x.only then 5 else 0 := by
    unfold Instr.check
    rw [if_neg (by omega)]
    congr 1
    rw [if_neg]
    simp [reg_small hd, reg_small ha, reg_small hb]
    omega
  refine ⟨?_, by
    rw [h1]
    by_cases h : x = x.only
    · rw [if_neg (fun h' => h' h), if_pos h]
    · rw [if_pos h, if_neg h]⟩
  have hk' : x.only.kind = x.kind := rfl
  have ho' : x.only.op = 0 ∨ x.only.op = x.op := by unfold Instr.only; simp only; split <;> simp
  have hd' : x.only.dst = 0 ∨ x.only.dst = x.dst := by unfold Instr.only Instr.sets; simp only; split <;> simp
  have ha' : x.only.a = 0 ∨ x.only.a = x.a := by
    unfold Instr.only Instr.reads; simp only
    split
    · simp
    · split <;> simp
  have hb' : x.only.b = 0 ∨ x.only.b = x.b := by
    unfold Instr.only Instr.reads; simp only
    split
    · simp
    · split <;> simp
  have hs' : x.only.slot = 0 ∨ x.only.slot = x.slot := by unfold Instr.only; simp only; split <;> simp
  unfold Instr.check
  rw [if_neg (by omega), if_neg (by rw [only_only]; simp), if_neg]
  have r1 : isReg x.only.dst = true := reg_small (by omega)
  have r2 : isReg x.only.a = true := reg_small (by omega)
  have r3 : isReg x.only.b = true := reg_small (by omega)
  simp [r1, r2, r3]
  omega


@[simp] theorem sEq_bools (a b : Bool) (s : St) : sEq false .bools (.bool a) (.bool b) s = .ok (.bool (a == b), s) := by cases a <;> cases b <;> rfl
@[simp] theorem sNeq_bools (a b : Bool) (s : St) : sEq true .bools (.bool a) (.bool b) s = .ok (.bool (a != b), s) := by cases a <;> cases b <;> rfl
theorem sCall_func (K : Ctx) (f : FuncId) (args : List Value) (st : St) : sCall K (.func (.func f) #[] #[]) args st = K.go (.call f args) st := by
  have : ([] : List Value) ++ args ++ [] = args := by simp
  simp [sCall, taskOf]

variable {K : Ctx} (hF : Fix pgF K)
include hF

theorem With_ok (x : Instr) (st : St) (hro : st.ro ≤ st.next) : Ok (K.go (.call n_refinerylaw03_IrOnly_1 [vI x]) st) fun r => r.1 = I x.check ∧ Ext st r.2 := by
  refine refinerylaw03_IrOnly_1_of hF fun J hJ => ?_
  rw [refinerylaw03_IrOnly_1_eq]
  simp [vI, sLit, sBuild, fillL, Res.need]
  generalize hs1 : St.alloc _ _ = s1
  have hE1 : Ext st s1 := by rw [← hs1]; simp
  have g1 : s1.get (st.next + 1) = some (.cells (cI x)) := by rw [← hs1]; simp [cI]
  have g2 : s1.get (st.next + 2) = some (.cells [I 0, .slice none 0 0, Sl (st.next + 1) 0 1 7, U 0, I 0, I 0, I 0]) := by rw [← hs1]; simp
  have n1 : s1.next = st.next + 3 := by rw [← hs1]; simp
  clear hs1
  let p : Prog := [⟨0, [], [x], ⟨0, 0, 0, 0⟩⟩]
  have hx : RSl (Bel (st.next + 3)) s1 7 RInstr (Sl (st.next + 1) 0 1 7) [x] := .inr ⟨st.next + 1, 0, _, rfl, by simp [Bel], g1, by simp [cI], fun i y hy => by
    cases i with
    | zero => simp at hy; subst hy; simp [cI, RInstr]
    | succ i => simp at hy⟩
  have hp : RProg (Bel (st.next + 3)) s1 (Sl (st.next + 2) 0 1 7) p := .inr ⟨st.next + 2, 0, _, rfl, by simp [Bel], g2, by simp [p], fun i y hy => by
    cases i with
    | zero =>
      simp [p] at hy
      subst hy
      exact ⟨.slice none 0 0, Sl (st.next + 1) 0 1 7, rfl, .nil _ _ _ _ _, hx⟩
    | succ i => simp [p] at hy⟩
  refine (Check_ok hF (fun id h => by rw [n1]; exact h) hp (by simp [count, p]) (by simp [p]) (hE1.roOk hro)).call fun s2 hE2 => ?_
  have hc : check p = x.check := by
    have hl : Last.check ⟨0, 0, 0, 0⟩ [0] = 0 := by decide
    simp [check, p, count, dupGo, blockErr, ferr, hl]
    try intro h; rw [h]
    all_goals try omega
  simp [hc]
  exact hE1.trans hE2

theorem IrOnly_ok (x0 : Instr) (k o d a b s : Int) (hk : 0 ≤ k ∧ k ≤ 255) (ho : 0 ≤ o ∧ o ≤ 255) (hd : 0 ≤ d ∧ d ≤ 255) (ha : 0 ≤ a ∧ a ≤ 255) (hb : 0 ≤ b ∧ b ≤ 255) (hs : 0 ≤ s ∧ s ≤ 255) (st : St) (hro : st.ro ≤ st.next) :
    Ok (K.go (.call n_refinerylaw03_IrOnly [vI x0, U k, U o, U d, U a, U b, U s]) st) fun r => r.1 = B true := by
  refine refinerylaw03_IrOnly_of hF fun J hJ => ?_
  rw [refinerylaw03_IrOnly_eq]
  have tk : k.tmod 9 = k % 9 := Int.tmod_eq_emod_of_nonneg hk.1
  have to : o.tmod 12 = o % 12 := Int.tmod_eq_emod_of_nonneg ho.1
  have ts : s.tmod 16 = s % 16 := Int.tmod_eq_emod_of_nonneg hs.1
  have hro' : ∀ {s : St}, Ext st s → s.ro ≤ s.next := fun h => h.roOk hro
  simp [vI]
  refine (Awake3_ok hF _ (by simp; omega)).call fun s1 hE1 => ?_
  have hE1 : Ext st s1 := Ext.trans (by simp) hE1
  let x : Instr := ⟨k % 9, o % 12, d, a, b, x0.n, s % 16⟩
  obtain ⟨c1, c2⟩ := check_only x (by simp [x]; omega) (by simp [x]; omega) (by simpa [x] using hd) (by simpa [x] using ha) (by simpa [x] using hb) (by simp [x]; omega)
  have e := fun st' => sEq_instr false ⟨k % 9, o % 12, d, a, b, x0.n, s % 16⟩ x.only st'
  simp only [vI] at e
  simp [refinerylaw03_IrOnly_j0_eq hJ, sBuild, fillL, Res.need, tk, to, ts, sCall_func]
  rw [wrap_id (n := d) (by omega), wrap_id (n := a) (by omega), wrap_id (n := b) (by omega), wrap_id (n := s % 16) (by omega)]
  refine (With_ok hF x _ (hro' hE1)).call fun s2 hE2 => ?_
  have hE2 := hE1.trans hE2
  simp [Res.need]
  refine (Only_ok hF x _).call fun s3 hE3 => ?_
  have hE3 := hE2.trans hE3
  simp [sCall_func]
  refine (With_ok hF x.only _ (hro' hE3)).call fun s4 hE4 => ?_
  rw [c1, c2]
  simp [Res.need]
  refine (Only_ok hF x _).callB fun s5 hE5 => ?_
  by_cases hx : x = x.only
  · rw [if_pos hx]
    have hd1 : decide ((⟨k % 9, o % 12, d, a, b, x0.n, s % 16⟩ : Instr) = x.only) = true := decide_eq_true hx
    rw [hd1] at e
    have hdx := eq_true hx
    simp [hdx, Res.need, sStays, sameVal, sameOne, sameCell, sameCells, idOf, vI, e]
  · rw [if_neg hx]
    have hd1 : decide ((⟨k % 9, o % 12, d, a, b, x0.n, s % 16⟩ : Instr) = x.only) = false := decide_eq_false hx
    rw [hd1] at e
    have hdx := eq_false hx
    simp [hdx, Res.need, sStays, sameVal, sameOne, sameCell, sameCells, idOf, vI, e]

theorem IrOnly_args (st : St) (args : List Value) (hro : st.ro = st.next) (h : WVs pg st [37, 5, 5, 5, 5, 5, 5] args) : Ok (K.go (.call n_refinerylaw03_IrOnly args) st) fun r => r.1 = .bool true := by
  match args, h with
  | [v0, v1, v2, v3, v4, v5, v6], ⟨h0, h1, h2, h3, h4, h5, h6, _⟩ =>
    obtain ⟨x, rfl, _⟩ := wv_Instr h0
    obtain ⟨n1, rfl, w1⟩ := h1.int Try.underlying5
    obtain ⟨n2, rfl, w2⟩ := h2.int Try.underlying5
    obtain ⟨n3, rfl, w3⟩ := h3.int Try.underlying5
    obtain ⟨n4, rfl, w4⟩ := h4.int Try.underlying5
    obtain ⟨n5, rfl, w5⟩ := h5.int Try.underlying5
    obtain ⟨n6, rfl, w6⟩ := h6.int Try.underlying5
    exact IrOnly_ok hF x n1 n2 n3 n4 n5 n6 (bounds_u8 w1) (bounds_u8 w2) (bounds_u8 w3) (bounds_u8 w4) (bounds_u8 w5) (bounds_u8 w6) st (Nat.le_of_eq hro)
end Go.Proofs.Ytfknooeebmdfoaa.Sh

