/-
  LeaveLine: whatever it is given, the law's function answers true.
-/
import Derived.Test.YtfknooeebmdfoaaLv6
import Derived.Test.YtfknooeebmdfoaaShL4
set_option linter.unusedVariables false
set_option linter.unusedSimpArgs false
set_option linter.unusedSectionVars false
set_option maxRecDepth 100000
namespace Go.Proofs.Ytfknooeebmdfoaa.Sh
open Go Go.AM Go.Proofs

/-- A row of moves, or it the other way round. -/
def lineM (turn : Bool) : Nat → List Mv
  | 0 => []
  | i + 1 => if turn then ⟨i + 1, i⟩ :: lineM turn i else lineM turn i ++ [⟨i + 1, i⟩]
def lineOut (k : Nat) : List Mv := (List.range k).map fun (i : Nat) => ⟨(k : Int) - (i : Int), (k : Int) - (i : Int) - 1⟩

theorem lineM_len (turn : Bool) (k : Nat) : (lineM turn k).length = k := by
  induction k with
  | zero => rfl
  | succ k ih => unfold lineM; split <;> simp [ih]
theorem line_row : ∀ turn : Bool, ∀ k < 21, rowGo 99 50 ((lineM turn k).filter keep) = some (lineOut k) := by decide +kernel

variable {K : Ctx} (hF : Fix pgF K)
include hF

section
variable {J : JT (Value × St)} (hJ : IsJ K (retK refinerylaw22_LeaveLine_c.results) J) {Q : Value × St → Prop}
include hJ

theorem Line_l0 {st0 : St} (hro : st0.ro ≤ st0.next) {turn : Bool} {k : Nat} (hk : k < 21) (hfin : ∀ (st : St) (v : Value), Ext st0 st → Own st0.next st 2 v (cMs (lineM turn k)) → Ok (refinerylaw22_LeaveLine_j2 J (I k) v st) Q) (d : Nat) : ∀ (i : Nat) (st : St) (v : Value), i + d = k → Ext st0 st → Own st0.next st 2 v (cMs (lineM turn i)) →
    Ok (refinerylaw22_LeaveLine_l0 J (B turn) (I k) v (I k) (I i) st) Q := by
  induction d with
  | zero =>
    intro i st v hi hE h
    refine refinerylaw22_LeaveLine_l0_of hF hJ ?_
    rw [refinerylaw22_LeaveLine_l0_eq]
    have : i = k := by omega
    subst this
    simp
    exact hfin st v hE h
  | succ d ih =>
    intro i st v hi hE h
    refine refinerylaw22_LeaveLine_l0_of hF hJ ?_
    rw [refinerylaw22_LeaveLine_l0_eq]
    have hlt : i < k := by omega
    have hlt' : (i : Int) < k := by omega
    have w1 : IntKind.i64.wrap ((i : Int) + 1) = (i : Int) + 1 := wrap_id (by omega)
    have b1 : ∀ s, sBuild [I 0, I 0] [(0, 1, I ((i : Int) + 1)), (1, 1, I i)] s = .ok (vM ⟨(i : Int) + 1, i⟩, s) := fun s => rfl
    have hup : ∀ m s, sUpd 2 0 (.agg #[I 0, I 0]) (vM m) s = .ok (vM m, s) := fun m s => by simp [vM, Res.need]
    have hfi : ∀ m s, sField (some 2) 0 (vM m) s = .ok (vM m, s) := fun m s => rfl
    have hli : ∀ m s, sLit 2 1 [I 0, I 0] [(0, 2, vM m)] s = .ok (Sl s.next 0 1 2, s.alloc (.cells (cM m))) := fun m s => rfl
    have hb : Ext st0 st.bump := hE.bump
    have ho : Own st0.next st.bump 2 v (cMs (lineM turn i)) := h.mono (by simp)
    cases turn with
    | true =>
      obtain ⟨v', st', r, h1, h2⟩ := mv_cons hb hro ho ⟨(i : Int) + 1, i⟩ (by rw [lineM_len]; omega)
      rw [next_bump] at r
      simp [hlt', refinerylaw22_LeaveLine_j1_eq hJ, refinerylaw22_LeaveLine_j3_eq hJ, w1, b1, hup, hfi, hli, r]
      exact ih (i + 1) st' v' (by omega) h2 (by simpa [lineM] using h1)
    | false =>
      obtain ⟨v', st', r, h1, h2⟩ := mv_push hb hro ho ⟨(i : Int) + 1, i⟩ (by rw [lineM_len]; omega)
      rw [next_bump] at r
      simp [hlt', refinerylaw22_LeaveLine_j1_eq hJ, refinerylaw22_LeaveLine_j3_eq hJ, w1, b1, hup, hfi, hli, r]
      exact ih (i + 1) st' v' (by omega) h2 (by simpa [lineM] using h1)

theorem Line_l1 {A : Nat → Prop} {st1 : St} {v : Value} {k : Nat} (hk : k < 21) (hA : ∀ id, A id → id < st1.next) (hl : RSl A st1 7 RInstr v ((lineOut k).map copyI)) (d : Nat) : ∀ (i : Nat) (st : St), i + d = k → Ext st1 st →
    Ok (refinerylaw22_LeaveLine_l1 J (I k) v (I k) (I i) st) fun r => r.1 = B true := by
  have hlen : ((lineOut k).map copyI).length = k := by simp [lineOut]
  induction d with
  | zero =>
    intro i st hi hE
    refine refinerylaw22_LeaveLine_l1_of hF hJ ?_
    rw [refinerylaw22_LeaveLine_l1_eq]
    have : i = k := by omega
    subst this
    simp [refinerylaw22_LeaveLine_j6_eq hJ]
  | succ d ih =>
    intro i st hi hE
    generalize hQ : (fun r : Value × St => r.1 = B true) = Q
    refine refinerylaw22_LeaveLine_l1_of hF hJ ?_
    rw [refinerylaw22_LeaveLine_l1_eq]
    have hlt : i < k := by omega
    have hlt' : (i : Int) < k := by omega
    have hat : ((lineOut k).map copyI)[i]? = some (copyI ⟨(k : Int) - i, (k : Int) - i - 1⟩) := by simp [lineOut, hlt]
    obtain ⟨b, o, cs, hix, hld, hcs, -⟩ := hl.at hat
    have hcs : cs = cI (copyI ⟨(k : Int) - i, (k : Int) - i - 1⟩) := hcs
    subst hcs
    have hv : ∀ x, Value.agg (cI x).toArray = vI x := fun x => rfl
    have w1 : IntKind.i64.wrap ((k : Int) - i) = (k : Int) - i := wrap_id (by omega)
    have w2 : IntKind.i64.wrap ((k : Int) - i - 1) = (k : Int) - i - 1 := wrap_id (by omega)
    have w3 : IntKind.i64.wrap ((i : Int) + 1) = (i : Int) + 1 := wrap_id (by omega)
    have hbu : ∀ s, sBuild [U 0, U 0, I 0, I 0, I 0, I 0, I 0] [(0, 1, U 1), (2, 1, I ((k : Int) - i)), (3, 1, I ((k : Int) - i - 1))] s = .ok (vI (copyI ⟨(k : Int) - i, (k : Int) - i - 1⟩), s) := fun s => rfl
    simp [hlt', refinerylaw22_LeaveLine_j5_eq hJ, refinerylaw22_LeaveLine_j7_eq hJ, hix, hld _ (hE.agree hA), hv, w1, w2, w3, hbu]
    rw [← hQ]
    exact ih (i + 1) _ (by omega) hE.bump
end

theorem LeaveLine_ok (n : Int) (hn : 0 ≤ n ∧ n ≤ 255) (turn : Bool) (st : St) (hro : st.ro ≤ st.next) : Ok (K.go (.call n_refinerylaw22_LeaveLine [U n, B turn]) st) fun r => r.1 = B true := by
  refine refinerylaw22_LeaveLine_of hF fun J hJ => ?_
  rw [refinerylaw22_LeaveLine_eq]
  refine (Awake22_ok hF st hro).call fun s1 hE1 => ?_
  have tm : n.tmod 20 = n % 20 := Int.tmod_eq_emod_of_nonneg hn.1
  obtain ⟨k, hk⟩ : ∃ k : Nat, (k : Int) = 1 + n % 20 := ⟨(1 + n % 20).toNat, by omega⟩
  have w1 : IntKind.i64.wrap (n % 20) = n % 20 := wrap_id (by omega)
  have w2 : IntKind.i64.wrap (1 + n % 20) = 1 + n % 20 := wrap_id (by omega)
  have hk1 : k < 21 := by omega
  simp [refinerylaw22_LeaveLine_j0_eq hJ, tm, w1, w2]
  rw [← hk]
  refine Line_l0 hF hJ (hE1.roOk hro) hk1 (fun s2 v hE2 ho => ?_) k 0 s1 _ (by omega) (Ext.refl _) (.nil _ _ _ _)
  have hr := mv_rsl ho
  have hE2' := hE1.trans hE2
  rw [refinerylaw22_LeaveLine_j2_eq hJ]
  refine (Row_ok hF (fun id h => h.2) hr (by rw [lineM_len]; omega) (hE2'.roOk hro) (rowGo_ok (line_row turn k hk1)) (by simp [lineOut]; omega)).thn fun ⟨r1, s3⟩ ⟨h1, hE3⟩ => ?_
  simp only at h1 hE3 ⊢
  have hE3' := hE2'.trans hE3
  have hl1 : ∀ s, sLen .slice r1 s = .ok (I k, s) := fun s => by
    have := h1.len s
    simpa [lineOut] using this
  simp [-sLen_slice, hl1]
  refine (Row_ok hF (st := s3) (spare := 99) (l := []) (v := .slice none 0 0) (out := []) (A := fun _ => False) (fun id h => h.elim) (.nil _ _ _ _ _) (by decide) (hE3'.roOk hro) .nil (by decide)).thn fun ⟨r2, s4⟩ ⟨h2, hE4⟩ => ?_
  simp only at h2 hE4 ⊢
  have hl2 : ∀ s, sLen .slice r2 s = .ok (I 0, s) := h2.len
  simp [-sLen_slice, hl2, refinerylaw22_LeaveLine_j4_eq hJ, hl1]
  exact Line_l1 hF hJ hk1 (fun id h => h.2) h1 k 0 s4 (by omega) hE4

theorem LeaveLine_args (st : St) (args : List Value) (hro : st.ro = st.next) (h : WVs pg st [5, 4] args) : Ok (K.go (.call n_refinerylaw22_LeaveLine args) st) fun r => r.1 = .bool true := by
  match args, h with
  | [v0, v1], ⟨h0, h1, _⟩ =>
    obtain ⟨n1, rfl, w1⟩ := h0.int Try.underlying5
    obtain ⟨b, rfl⟩ := h1.bool Try.underlying4
    exact LeaveLine_ok hF n1 (bounds_u8 w1) b st (Nat.le_of_eq hro)
end Go.Proofs.Ytfknooeebmdfoaa.Sh

