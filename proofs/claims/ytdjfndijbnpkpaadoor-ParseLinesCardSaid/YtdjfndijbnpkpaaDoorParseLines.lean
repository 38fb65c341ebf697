/-
  ParseLines: whatever it is given, the law's function answers true.
-/
import Derived.Test.YtdjfndijbnpkpaaDoorPTxt
import Derived.Test.YtdjfndijbnpkpaaDoorShL6
set_option linter.unusedVariables false
set_option linter.unusedSimpArgs false
set_option linter.unusedSectionVars false
set_option linter.unnecessarySimpa false
set_option maxRecDepth 100000
namespace Go.Proofs.YtdjfndijbnpkpaaDoor.Sh
open Go Go.AM Go.Proofs Go.AM.Lx
def lineY (x : Line) (n : Int) : Instr := if (x.instr 6).kind = 0 then { x.instr 6 with n := n } else x.instr 6
def lineP (y : Instr) (l : Last) (b : Int) : Prog := [⟨b, [], [y], l⟩]
theorem lineY_good {x : Line} (hx : x.Ok) {n : Int} (hn : fitN n) : (lineY x n).check = 0 ∧ (lineY x n).Good := by
 have h0 := line_instr hx (r := 6) (by omega)
 have hk : 0 ≤ (x.instr 6).kind := by show 0 ≤ x.kind % 9; omega
 have ho : 0 ≤ (x.instr 6).op := by
  have := Int.emod_nonneg x.op (show (12 : Int) ≠ 0 by decide)
  unfold Line.instr Instr.only
  simp only
  split <;> omega
 have hnn : fitN (x.instr 6).n := by
  have := hx.n
  unfold Line.instr Instr.only fitN
  simp only
  split <;> constructor <;> omega
 generalize hy : x.instr 6 = y at *
 have hc : (lineY x n).check = 0 := by
  unfold lineY
  rw [hy]
  split
  ·rename_i c
   obtain ⟨k, o, d, a, b, m, sl⟩ := y
   simp only at c
   subst c
   simp [Instr.check, Instr.only, Instr.sets, Instr.reads] at h0 ⊢
   exact h0
  ·exact h0
 refine ⟨hc, good_of hc ?_ ?_ ?_⟩
 ·unfold lineY; rw [hy]; split <;> exact hk
 ·unfold lineY; rw [hy]; split <;> exact ho
 ·unfold lineY; rw [hy]; split
  ·exact hn
  ·exact hnn
theorem lineP_good {y : Instr} (hc : y.check = 0) (hg : y.Good) {k a b : Int} (hk : 0 ≤ k ∧ k < 4) (ha : 0 ≤ a ∧ a ≤ 65535) (hb : 0 ≤ b ∧ b ≤ 65535) :
 (∀ c ∈ lineP y (Last.only ⟨k, a, b, b⟩) b, c.Good) ∧ check (lineP y (Last.only ⟨k, a, b, b⟩) b) = 0 ∧ count (lineP y (Last.only ⟨k, a, b, b⟩) b) = 2 := by
 have hlg : (Last.only ⟨k, a, b, b⟩).Good := by
  refine ⟨hk, ?_, ?_, ?_, ?_⟩
  ·simp only [Last.only, Last.mk.injEq, true_and]
   refine ⟨?_, ?_, ?_⟩ <;> split <;> simp_all
  ·simp only [Last.only]; split <;> omega
  ·simp only [Last.only]; split <;> omega
  ·simp only [Last.only]; split <;> omega
 refine ⟨fun c hc => ?_, ?_, by simp [lineP, count]⟩
 ·rw [List.mem_singleton.1 hc]
  exact ⟨⟨hb.1, by simp only; omega⟩, rfl, fun x hx => by rw [List.mem_singleton.1 hx]; exact hg, hlg⟩
 ·have h1 : ¬ (b < 0 ∨ 100000 ≤ b) := by omega
  have h2 : (Last.only ⟨k, a, b, b⟩).check [b] = 0 := by
   unfold Last.check
   rw [if_neg (by have := hlg.kind; omega), if_neg (fun h => h hlg.only), if_neg (by have := hlg.a; simp [isReg]; omega)]
   have hl : ∀ m ∈ (Last.only ⟨k, a, b, b⟩).labels, m = b := by
    intro m hm
    rcases (show k = 0 ∨ k = 1 ∨ k = 2 ∨ k = 3 by omega) with rfl | rfl | rfl | rfl <;> simpa [Last.labels, Last.only] using hm
   clear hlg
   generalize (Last.only ⟨k, a, b, b⟩).labels = ls at hl
   induction ls with
   | nil => rfl
   | cons m ls ih => rw [lchk, if_pos (by rw [hl m (by simp)]; simp)]; exact ih fun q hq => hl q (by simp [hq])
  simp [lineP, check, count, dupGo, h1, blockErr, ferr, hc, h2]
variable {K : Ctx} (hF : Fix pgF K)
include hF
theorem ParseLines_ok {x : Line} (hx : x.Ok) {n e a b : Int} (hn : fitN n) (he : 0 ≤ e ∧ e ≤ 255) (ha : 0 ≤ a ∧ a ≤ 65535) (hb : 0 ≤ b ∧ b ≤ 65535) {st : St} (hv : VOk st) : Ok (K.go (.call n_refinerylaw05_ParseLines [.agg (cLine x).toArray, I n, U e, .int .u16 a, .int .u16 b]) st) fun r => r.1 = B true := by
 refine refinerylaw05_ParseLines_of hF fun J hJ => ?_
 rw [refinerylaw05_ParseLines_eq]
 have hbx : ∀ s', sLbox (.agg (cLine x).toArray) s' = .ok (.agg (cLine x).toArray, s'.bump) := fun s' => rfl
 have hf7 : ∀ s', sField (some 7) 0 (.agg (cLine x).toArray) s' = .ok (.agg (cLine x).toArray, s') := fun s' => rfl
 have E0 : Ext st st.bump := (Ext.refl st).bump
 simp only [hbx, thn_ok]
 refine (Awake05_ok hF (hv.mono E0)).call fun s1 E1 => ?_
 have X1 := E0.trans E1
 simp only [sUn_not, Bool.not_true, thn_ok, condX_eq, cond_false, refinerylaw05_ParseLines_j0_eq hJ, hf7]
 refine (LineInstr_ok hF x hx 6 (by omega) s1).call fun s2 E2 => ?_
 have X2 := X1.trans E2
 have hu7 : ∀ s', sUpd 7 0 (.agg #[U 0, U 0, I 0, I 0, I 0, I 0, I 0]) (vI (x.instr 6)) s' = .ok (vI (x.instr 6), s') := fun s' => rfl
 have hrf : ∀ s', sLref (vI (x.instr 6)) s' = .ok (nothing, s') := fun s' => rfl
 have hf0 : ∀ s', sField none 0 (vI (x.instr 6)) s' = .ok (U (x.instr 6).kind, s') := fun s' => rfl
 have hup : ∀ s', sUpd 1 5 (vI (x.instr 6)) (I n) s' = .ok (vI { x.instr 6 with n := n }, s') := fun s' => rfl
 have key : ∀ s, Ext st s → Ok (refinerylaw05_ParseLines_j1 J (U e) (.int .u16 a) (.int .u16 b) (vI (lineY x n)) s) fun r => r.1 = B true := fun s hE => by
  obtain ⟨yc, yg⟩ := lineY_good hx hn
  generalize lineY x n = y at *
  rw [refinerylaw05_ParseLines_j1_eq hJ]
  have hm : e.tmod 4 = e % 4 := Int.tmod_eq_emod_of_nonneg he.1
  have hm2 : 0 ≤ e % 4 ∧ e % 4 < 4 := ⟨by omega, by omega⟩
  obtain ⟨pg1, pc, pn⟩ := lineP_good yc yg hm2 ha hb
  have c1 : ∀ s', sConv (.int .i64) (.int .u16 a) s' = .ok (I a, s') := fun s' => by simp [wrap_id (n := a) (by omega)]
  have c2 : ∀ s', sConv (.int .i64) (.int .u16 b) s' = .ok (I b, s') := fun s' => by simp [wrap_id (n := b) (by omega)]
  have hbl : ∀ s', sBuild [U 0, I 0, I 0, I 0] [(0, 1, U (e % 4)), (1, 1, I a), (2, 1, I b), (3, 1, I b)] s' = .ok (vL ⟨e % 4, a, b, b⟩, s') := fun s' => rfl
  simp only [sRem _ _ _ (show (4 : Int) ≠ 0 by decide), hm, thn_ok, c1, c2, hbl]
  refine (LOnly_ok hF ⟨e % 4, a, b, b⟩ s).call fun s3 E3 => ?_
  have X3 := hE.trans E3
  generalize Last.only ⟨e % 4, a, b, b⟩ = l at *
  have hu4 : ∀ s', sUpd 4 0 (.agg #[U 0, I 0, I 0, I 0]) (vL l) s' = .ok (vL l, s') := fun s' => rfl
  have hy7 : ∀ s', sField (some 7) 0 (vI y) s' = .ok (vI y, s') := fun s' => rfl
  have hl4 : ∀ s', sField (some 4) 0 (vL l) s' = .ok (vL l, s') := fun s' => rfl
  have hs4 : ∀ s', sLit 7 1 [U 0, U 0, I 0, I 0, I 0, I 0, I 0] [(0, 7, vI y)] s' = .ok (Sl s'.next 0 1 7, s'.alloc (.cells (cI y))) := fun s' => rfl
  have hb5 : ∀ m s', sBuild [I 0, .slice none 0 0, .slice none 0 0, U 0, I 0, I 0, I 0] [(0, 1, I b), (2, 1, Sl m 0 1 7), (3, 4, vL l)] s' = .ok (vB b (.slice none 0 0) (Sl m 0 1 7) l, s') := fun m s' => rfl
  have hb6 : ∀ m s', sBuild [.slice none 0 0] [(0, 1, Sl m 0 1 7)] s' = .ok (.agg #[Sl m 0 1 7], s') := fun m s' => rfl
  have hu1 : ∀ m s', sUpd 1 0 (.agg #[.slice none 0 0]) (.agg #[Sl m 0 1 7]) s' = .ok (.agg #[Sl m 0 1 7], s') := fun m s' => rfl
  have hf1 : ∀ v s', sField (some 1) 0 (.agg #[v]) s' = .ok (.agg #[v], s') := fun m s' => rfl
  have E4 : Ext s3 s3.bump := (Ext.refl s3).bump
  have E5 : Ext s3.bump (s3.bump.alloc (.cells (cI y))) := (Ext.refl _).alloc _
  have g5 : (s3.bump.alloc (.cells (cI y))).get s3.bump.next = some (.cells (cI y)) := by rw [get_alloc, if_pos rfl]
  have n5 : (s3.bump.alloc (.cells (cI y))).next = s3.bump.next + 1 := rfl
  generalize hs5 : s3.bump.alloc (.cells (cI y)) = s5 at *
  simp only [c2, thn_ok, sLnew_eq, hu4, hy7, hs4, hl4]
  rw [hs5]
  have X5 := (X3.trans E4).trans E5
  generalize s3.bump.next = mi at *
  have E6 : Ext s5 (s5.alloc (.cells (cB b (.slice none 0 0) (Sl mi 0 1 7) l))) := (Ext.refl _).alloc _
  have g6 : (s5.alloc (.cells (cB b (.slice none 0 0) (Sl mi 0 1 7) l))).get s5.next = some (.cells (cB b (.slice none 0 0) (Sl mi 0 1 7) l)) := by rw [get_alloc, if_pos rfl]
  have n6 : (s5.alloc (.cells (cB b (.slice none 0 0) (Sl mi 0 1 7) l))).next = s5.next + 1 := rfl
  have hlit : sLit 7 1 [I 0, .slice none 0 0, .slice none 0 0, U 0, I 0, I 0, I 0] [(0, 7, vB b (.slice none 0 0) (Sl mi 0 1 7) l)] s5 = .ok (Sl s5.next 0 1 7, s5.alloc (.cells (cB b (.slice none 0 0) (Sl mi 0 1 7) l))) := rfl
  generalize hs6 : s5.alloc (.cells (cB b (.slice none 0 0) (Sl mi 0 1 7) l)) = s6 at *
  have gi6 : s6.get mi = some (.cells (cI y)) := by rw [E6.get _ (by omega)]; exact g5
  have E7 : Ext s6 s6.bump := (Ext.refl s6).bump
  have X7 := (X5.trans E6).trans E7
  have ri : RepSl 7 PInstr s6.bump (Sl mi 0 1 7) [y] [mi] := by
   refine .inr ⟨mi, [cI y], [[]], rfl, by rw [E7.get _ (by omega), gi6]; simp, rfl, rfl, ?_, ?_, by simp⟩
   ·intro cs hcs
    rw [List.mem_singleton.1 hcs]
    exact ⟨rfl, by simp [cI]⟩
   ·intro i x cs is' hx hc hi
    cases i with
    | zero => cases hx; cases hc; cases hi; exact ⟨rfl, rfl⟩
    | succ i => simp at hx
  have rw6 : PProg s6.bump (Sl s5.next 0 1 7) (lineP y l b) [s5.next, mi] := by
   refine .inr ⟨s5.next, [cB b (.slice none 0 0) (Sl mi 0 1 7) l], [[mi]], rfl, by rw [E7.get _ (by omega), g6]; simp, rfl, rfl, ?_, ?_, by simp⟩
   ·intro cs hcs
    rw [List.mem_singleton.1 hcs]
    exact ⟨rfl, by simp [cB]⟩
   ·intro i x cs is' hx hc hi
    cases i with
    | zero =>
      cases hx; cases hc; cases hi
      exact ⟨.slice none 0 0, Sl mi 0 1 7, [], [mi], rfl, RepSl.nil _, ri, rfl⟩
    | succ i => simp [lineP] at hx
  have hA : ∀ id, id ∈ [s5.next, mi] → id < s6.bump.next := fun id hid => by
   have := E7.next
   simp only [List.mem_cons, List.not_mem_nil, or_false] at hid
   rcases hid with rfl | rfl <;> omega
  simp only [hb5, thn_ok, hlit, hb6, sLnew_eq, hu1, hf1]
  refine TokText_ok hF hA rw6.read pg1 (by omega) (X7.roOk hv.ro) fun vt n0 s7 hn0 o7 E8 => ?_
  have X8 := X7.trans E8
  have hit := items_len (items_P pg1)
  have hrl := rdP_len (lineP y l b)
  rw [pn] at hrl
  have htl := textG_len (gs := []) (i := 0) hit
  refine (Text_ok hF (A' := fun _ => False) (fun id hid => hid.2) (fun _ h => h.elim) (rsl_toks o7) (gs := []) (RSl.nil _ _ _ _ _) (by simp) (X8.roOk hv.ro) hit (by omega) (by simp)).call fun s8 E9 => ?_
  have X9 := X8.trans E9
  refine (Parse_text hF pg1 pc (by omega) (by omega) (hv.mono X9)).thn fun ⟨r1, s9⟩ ⟨vp, is, e1, e2, e3, e4⟩ => ?_
  simp only at e1 e2 e3 e4
  subst e1
  have E10 : Ext s9 s9.bump := (Ext.refl s9).bump
  have hpu : ∀ s', sUpd 1 0 (.agg #[.slice none 0 0]) (.agg #[vp]) s' = .ok (.agg #[vp], s') := fun s' => by simp [Res.need, RepSl.cell e2]
  have rp10 : PProg s9.bump vp (lineP y l b) is := e2.frame fun id hid => E10.get _ (e3.at_ id hid).2
  have rw10 : PProg s9.bump (Sl s5.next 0 1 7) (lineP y l b) [s5.next, mi] := rw6.frame fun id hid => (((E8.trans E9).trans e4).trans E10).get _ (hA id hid)
  have hsame := Same_ok hF (A := fun id => id ∈ is) (A' := fun id => id ∈ [s5.next, mi]) (st := s9.bump) (fun id hid => Nat.lt_of_lt_of_le (e3.at_ id hid).2 E10.next) (fun id hid => Nat.lt_of_lt_of_le (hA id hid) (((E8.trans E9).trans e4).trans E10).next) rp10.read rw10.read (by simp [lineP]) (fun b hb => by
   rw [List.mem_singleton.1 hb]
   exact ⟨by simp, by simp, by simp⟩)
  have z0 : decide ((0 : Int) = 0) = true := rfl
  simp only [sExtract_eq, List.getElem?_toArray, List.getElem?_cons_zero, List.getElem?_cons_succ, Res.of_some, Res.bind_ok, thn_ok, sLnew_eq, hpu, sEql, z0, decide_true, sG_eq, beq_self_eq_true, cond_true, sPick_eq, if_true, hf1]
  refine hsame.call fun s11 E11 => ?_
  exact ⟨(B true, s11), by simp, rfl⟩
 simp only [sLnew_eq, thn_ok, hu7, hrf, hf0, sEql, condX_eq]
 by_cases k0 : (x.instr 6).kind = 0
 ·have e0 : lineY x n = { x.instr 6 with n := n } := by unfold lineY; rw [if_pos k0]
  simp only [decide_eq_true k0, cond_true, hup, hrf, thn_ok]
  rw [← e0]
  exact key _ (by simpa using X2.bump)
 ·have e0 : lineY x n = x.instr 6 := by unfold lineY; rw [if_neg k0]
  simp only [decide_eq_false k0, cond_false]
  rw [← e0]
  exact key _ (by simpa using X2.bump)
theorem ParseLines_args {st : St} (hv : VOk st) (args : List Value) (h : WVs pg st [44, 2, 5, 26, 26] args) : Ok (K.go (.call n_refinerylaw05_ParseLines args) st) fun r => r.1 = .bool true := by
 match args, h with
 | [v0, v1, v2, v3, v4], ⟨h0, h1, h2, h3, h4, _⟩ =>
   obtain ⟨x, rfl, hx⟩ := wv_Line h0
   obtain ⟨n, rfl, w1⟩ := h1.int Tryd.underlying2
   obtain ⟨e, rfl, w2⟩ := h2.int Tryd.underlying5
   obtain ⟨a, rfl, w3⟩ := h3.int Tryd.underlying26
   obtain ⟨b, rfl, w4⟩ := h4.int Tryd.underlying26
   refine ParseLines_ok hF hx ?_ ?_ ?_ ?_ hv
   ·simpa [fitN, Lit.wf, IntKind.min, IntKind.max, IntKind.signed, IntKind.bits] using w1
   ·simpa [Lit.wf, IntKind.min, IntKind.max, IntKind.signed, IntKind.bits] using w2
   ·simpa [Lit.wf, IntKind.min, IntKind.max, IntKind.signed, IntKind.bits] using w3
   ·simpa [Lit.wf, IntKind.min, IntKind.max, IntKind.signed, IntKind.bits] using w4
end Go.Proofs.YtdjfndijbnpkpaaDoor.Sh
