/-
  ShowLines: the texts of instructions, of ends: the same just if they are the same.
-/
import Derived.Test.YtlpdlohikfkjnaaDoorSrX
import Derived.Test.YtlpdlohikfkjnaaDoorTkX
import Derived.Test.YtlpdlohikfkjnaaDoorShB
import Derived.Test.YtlpdlohikfkjnaaDoorShL3
set_option linter.unusedVariables false
set_option linter.unusedSimpArgs false
set_option linter.unusedSectionVars false
set_option maxRecDepth 100000
namespace Go.Proofs.YtlpdlohikfkjnaaDoor.Sh
open Go Go.AM Go.Proofs Go.AM.Lx
theorem fit_of {n : Int} (h : 0 ≤ n ∧ n < 100000) : Fit n := ⟨by omega, by omega⟩
theorem inI_ok {x : Instr} (h : x.Good) : (inI x).Ok := ⟨h.kind, h.op, fit_of h.dst, fit_of h.a, fit_of h.b, h.n, ⟨by have := h.slot; show _ ≤ x.slot; omega, by have := h.slot; show x.slot ≤ _; omega⟩⟩
theorem laL_ok {l : Last} (h : l.Good) : (laL l).Ok := ⟨h.kind, fit_of h.a, fit_of h.yes, fit_of h.no⟩
theorem blast_good {b : SBlock} (hb : b.Ok) {regs n : Int} (hr : 1 ≤ regs ∧ regs ≤ 255) (hn : 1 ≤ n ∧ n ≤ 255) : (b.last regs n).Good := by
 have hp : ∀ y : Int, 0 ≤ plabel (y % n) ∧ plabel (y % n) < 100000 := fun y => by
  have := Int.emod_nonneg y (show n ≠ 0 by omega)
  have := Int.emod_lt_of_pos y (show 0 < n by omega)
  unfold plabel
  omega
 have ha : 0 ≤ b.a % regs ∧ b.a % regs < 100000 := by
  have := Int.emod_nonneg b.a (show regs ≠ 0 by omega)
  have := Int.emod_lt_of_pos b.a (show 0 < regs by omega)
  omega
 have hk : 0 ≤ ends.getD (b.e % 8).toNat 0 ∧ ends.getD (b.e % 8).toNat 0 < 4 := by
  have h8 : b.e % 8 = 0 ∨ b.e % 8 = 1 ∨ b.e % 8 = 2 ∨ b.e % 8 = 3 ∨ b.e % 8 = 4 ∨ b.e % 8 = 5 ∨ b.e % 8 = 6 ∨ b.e % 8 = 7 := by omega
  rcases h8 with h | h | h | h | h | h | h | h <;> rw [h] <;> decide
 unfold SBlock.last
 generalize ends.getD (b.e % 8).toNat 0 = k at *
 have h1 := hp b.yes
 have h2 := hp b.no
 generalize plabel (b.yes % n) = y at *
 generalize plabel (b.no % n) = m at *
 generalize b.a % regs = a at *
 refine ⟨hk, ?_, ?_, ?_, ?_⟩
 ·simp only [Last.only, Last.mk.injEq, true_and]
  refine ⟨?_, ?_, ?_⟩ <;> split <;> simp_all
 ·simp only [Last.only]; split <;> omega
 ·simp only [Last.only]; split <;> omega
 ·simp only [Last.only]; split <;> omega
theorem line_good6 {x : Line} (hx : x.Ok) : (x.instr 6).Good := by
 obtain ⟨h1, h2, h3⟩ := line_base hx 6
 exact good_of (line_instr hx (r := 6) (by omega)) h1 h2 h3
theorem wv_SBlock {st : St} {v : Value} (h : WV pg st 27 v) : ∃ (b : SBlock) (vl : Value), v = .agg #[vl, U b.e, U b.a, U b.yes, U b.no] ∧ cellOk vl = true ∧ sameVal v v = true ∧ b.Ok := by
 obtain ⟨cs, rfl, hw⟩ := h.agg (by simp [isStruct, Tryd.underlying27])
 obtain ⟨b, ⟨vl, hcs, hr⟩, hb⟩ := wt_SBlock hw
 obtain ⟨cs⟩ := cs
 simp only at hcs
 subst hcs
 refine ⟨b, vl, rfl, hr.cell, ?_, hb⟩
 have hv : ∃ a n c, vl = .slice a n c := by
  rcases hr with ⟨_, c, rfl⟩ | ⟨b, o, xs, rfl, _⟩
  ·exact ⟨_, _, _, rfl⟩
  ·exact ⟨_, _, _, rfl⟩
 obtain ⟨a, n, c, rfl⟩ := hv
 simp [sameVal, sameOne, sameCells, sameCell]
variable {K : Ctx} (hF : Fix pgF K)
include hF
theorem SI_ok {st : St} (hv : VSh st) {x : Instr} (hx : x.Good) : K.go (.call n_show_Instr [vI x]) st = .ok (T (inI x).txt, st) := SI_call hF hv (inI_ok hx)
theorem SL_ok {st : St} (hv : VSh st) {x : Last} (hx : x.Good) : K.go (.call n_show_Last [vL x]) st = .ok (T (laL x).txt, st) := SL_call hF hv (laL_ok hx)
theorem Awake06_ok {st : St} (hv : VSh st) : Ok (K.go (.call n_refinerylaw06_Awake []) st) fun r => r.1 = B true ∧ Ext st r.2 := by
 refine refinerylaw06_Awake_of hF fun J hJ => ?_
 rw [refinerylaw06_Awake_eq]
 have h1 : ∀ s, sBuild [U 0, I 0, I 0, I 0] [(0, 1, U 3)] s = .ok (.agg #[U 3, I 0, I 0, I 0], s) := fun s => rfl
 have h2 : ∀ s, sBuild [I 0, .slice none 0 0, .slice none 0 0, U 0, I 0, I 0, I 0] [(3, 4, .agg #[U 3, I 0, I 0, I 0])] s = .ok (.agg #[I 0, .slice none 0 0, .slice none 0 0, U 3, I 0, I 0, I 0], s) := fun s => rfl
 have h3 : ∀ s, sLit 7 1 [I 0, .slice none 0 0, .slice none 0 0, U 0, I 0, I 0, I 0] [(0, 7, .agg #[I 0, .slice none 0 0, .slice none 0 0, U 3, I 0, I 0, I 0])] s = .ok (Sl s.next 0 1 7, s.alloc (.cells [I 0, .slice none 0 0, .slice none 0 0, U 3, I 0, I 0, I 0])) := fun s => rfl
 have h4 : ∀ m s, sBuild [.slice none 0 0] [(0, 1, Sl m 0 1 7)] s = .ok (.agg #[Sl m 0 1 7], s) := fun m s => rfl
 simp only [h1, h2, h3, h4, thn_ok]
 have E : Ext st (st.alloc (.cells [I 0, .slice none 0 0, .slice none 0 0, U 3, I 0, I 0, I 0])) := (Ext.refl st).alloc _
 have hd : decP (rdOf (st.alloc (.cells [I 0, .slice none 0 0, .slice none 0 0, U 3, I 0, I 0, I 0]))) (Sl st.next 0 1 7) = some [⟨0, [], ⟨3, 0, 0, 0⟩⟩] := by
  have g : rdOf (st.alloc (.cells [I 0, .slice none 0 0, .slice none 0 0, U 3, I 0, I 0, I 0])) st.next = some [I 0, .slice none 0 0, .slice none 0 0, U 3, I 0, I 0, I 0] := by
   unfold rdOf
   rw [get_alloc, if_pos rfl]
  unfold decP rows
  simp only [g]
  rfl
 have ht : progT [⟨0, [], ⟨3, 0, 0, 0⟩⟩] = [64, 48, 58, 10, 32, 32, 116, 114, 97, 112, 10] := by
  have : Lib.itoa 0 = [48] := by
   unfold Lib.itoa
   rw [if_neg (by decide)]
   rw [Lib.decDigits]
   rfl
  simp [progT, Bl.txt, itB, It.b, insT, La.txt, lastIt, this]
 rw [SP_call hF (hv.mono E) hd ⟨by simp, by simp, fun b hb => by
  rw [List.mem_singleton.1 hb]
  exact ⟨by decide, by simp, by decide, by simp⟩, by rw [ht]; simp⟩]
 rw [ht]
 simp only [thn_ok, T_bstr, sEql_T, decide_true]
 exact ⟨_, rfl, rfl, E⟩
theorem ShowLines_end {J} (hJ : IsJ K (retK refinerylaw06_ShowLines_c.results) J) {x y : Line} (hx : x.Ok) (hy : y.Ok) {a b : SBlock} (ha : a.Ok) (hb : b.Ok) {va vb : Value} {la lb : Value} (ea : va = .agg #[la, U a.e, U a.a, U a.yes, U a.no]) (eb : vb = .agg #[lb, U b.e, U b.a, U b.yes, U b.no]) (ca : cellOk la = true) (cb : cellOk lb = true) (sa : sameVal va va = true) (sb : sameVal vb vb = true) {st : St} (hv : VSh st) :
 Ok (refinerylaw06_ShowLines_j1 J (.agg (cLine x).toArray) (.agg (cLine y).toArray) va vb st) fun r => r.1 = B true := by
 rw [refinerylaw06_ShowLines_j1_eq hJ]
 have hf7 : ∀ (x : Line) s', sField (some 7) 0 (.agg (cLine x).toArray) s' = .ok (.agg (cLine x).toArray, s') := fun x s' => rfl
 have hfa : ∀ s', sField (some 5) 0 va s' = .ok (va, s') := fun s' => by subst ea; rfl
 have hfb : ∀ s', sField (some 5) 0 vb s' = .ok (vb, s') := fun s' => by subst eb; rfl
 have sy : sameVal (.agg (cLine y).toArray) (.agg (cLine y).toArray) = true := by simp [sameVal, sameOne, sameCells, sameCell, cLine]
 have sI : ∀ x : Instr, sameVal (vI x) (vI x) = true := fun x => by simp
 have sL : ∀ x : Last, sameVal (vL x) (vL x) = true := fun x => by simp [sameVal, sameOne, sameCells, sameCell, vL]
 have hfI : ∀ (x : Instr) s', sField (some 7) 0 (vI x) s' = .ok (vI x, s') := fun x s' => rfl
 have hfL : ∀ (x : Last) s', sField (some 4) 0 (vL x) s' = .ok (vL x, s') := fun x s' => rfl
 have huI : ∀ (x : Instr) s', sUpd 7 0 (.agg #[U 0, U 0, I 0, I 0, I 0, I 0, I 0]) (vI x) s' = .ok (vI x, s') := fun x s' => rfl
 have huL : ∀ (x : Last) s', sUpd 4 0 (.agg #[U 0, I 0, I 0, I 0]) (vL x) s' = .ok (vL x, s') := fun x s' => rfl
 simp only [hf7, thn_ok]
 refine (LineInstr_ok hF x hx 6 (by omega) st).call fun s1 E1 => ?_
 simp only [hf7, thn_ok, sStays_same sy, Res.need_true, Res.bind_ok]
 refine (LineInstr_ok hF y hy 6 (by omega) s1).call fun s2 E2 => ?_
 have gx := line_good6 hx
 have gy := line_good6 hy
 generalize x.instr 6 = p at *
 generalize y.instr 6 = q at *
 simp only [sLnew_eq, thn_ok, huI, hfa, hfb]
 have bl1 := BLast_ok hF a ha la ca 6 8 (by omega) (by omega) s2.bump.bump
 rw [← ea] at bl1
 refine bl1.call fun s3 E3 => ?_
 simp only [hfb, thn_ok, sStays_same sb, Res.need_true, Res.bind_ok]
 have bl2 := BLast_ok hF b hb lb cb 6 8 (by omega) (by omega) s3
 rw [← eb] at bl2
 refine bl2.call fun s4 E4 => ?_
 have gl := blast_good ha (regs := 6) (n := 8) (by omega) (by omega)
 have gm := blast_good hb (regs := 6) (n := 8) (by omega) (by omega)
 generalize a.last 6 8 = l at *
 generalize b.last 6 8 = m at *
 have X : Ext st s4.bump.bump := ((((E1.trans E2).bump.bump).trans E3).trans E4).bump.bump
 have hv := hv.mono X
 generalize s4.bump.bump = s5 at *
 have d1 : decide ((inI p).txt = (inI q).txt) = decide (p = q) := decide_eq_decide.2 ⟨inI_inj gx gy, fun h => by rw [h]⟩
 have d2 : decide ((laL l).txt = (laL m).txt) = decide (l = m) := decide_eq_decide.2 ⟨laL_inj gl gm, fun h => by rw [h]⟩
 have d3 : decide ((inI p).txt = (laL l).txt) = false := decide_eq_false (inI_laL gx gl)
 simp only [sLnew_eq, thn_ok, huL, hfI, SI_ok hF hv gx, SI_ok hF hv gy, sStays_same (sI _), Res.need_true, Res.bind_ok, sEql_T, d1, sEq_instr, Bool.false_eq_true, if_false, sEq_bools, beq_self_eq_true, sGo_eq, cond_true, hfL, gd_eq, SL_ok hF hv gl, SL_ok hF hv gm, sStays_same (sL _), d2, sEq_last, sPick_eq, if_true, sNeq_T, d3, Bool.not_false]
 exact ⟨_, rfl, rfl⟩
theorem ShowLines_ok {x y : Line} (hx : x.Ok) (hy : y.Ok) {a b : SBlock} (ha : a.Ok) (hb : b.Ok) {va vb : Value} {la lb : Value} (ea : va = .agg #[la, U a.e, U a.a, U a.yes, U a.no]) (eb : vb = .agg #[lb, U b.e, U b.a, U b.yes, U b.no]) (ca : cellOk la = true) (cb : cellOk lb = true) (sa : sameVal va va = true) (sb : sameVal vb vb = true) (same : Bool) {st : St} (hv : VSh st) :
 Ok (K.go (.call n_refinerylaw06_ShowLines [.agg (cLine x).toArray, .agg (cLine y).toArray, va, vb, B same]) st) fun r => r.1 = B true := by
 refine refinerylaw06_ShowLines_of hF fun J hJ => ?_
 rw [refinerylaw06_ShowLines_eq]
 have hbx : ∀ (x : Line) s', sLbox (.agg (cLine x).toArray) s' = .ok (.agg (cLine x).toArray, s'.bump) := fun x s' => rfl
 have hba : ∀ s', sLbox va s' = .ok (va, s'.bump) := fun s' => by subst ea; rfl
 have hbb : ∀ s', sLbox vb s' = .ok (vb, s'.bump) := fun s' => by subst eb; rfl
 have hf7 : ∀ (x : Line) s', sField (some 7) 0 (.agg (cLine x).toArray) s' = .ok (.agg (cLine x).toArray, s') := fun x s' => rfl
 have hfa : ∀ s', sField (some 5) 0 va s' = .ok (va, s') := fun s' => by subst ea; rfl
 have hu7 : ∀ s', sUpd 7 0 (.agg (cLine y).toArray) (.agg (cLine x).toArray) s' = .ok (.agg (cLine x).toArray, s') := fun s' => rfl
 have hu5 : ∀ s', sUpd 5 0 vb va s' = .ok (va, s') := fun s' => by subst ea; subst eb; simp [Res.need, ca]
 have E0 : Ext st st.bump.bump.bump.bump := (Ext.refl st).bump.bump.bump.bump
 simp only [hbx, hba, hbb, thn_ok]
 refine (Awake06_ok hF (hv.mono E0)).call fun s1 E1 => ?_
 have hv1 := hv.mono (E0.trans E1)
 simp only [sUn_not, Bool.not_true, thn_ok, condX_eq, cond_false, refinerylaw06_ShowLines_j0_eq hJ, hf7, hfa, hu7, hu5, sStays_same sa, Res.need_true, Res.bind_ok]
 cases same with
 | false => exact ShowLines_end hF hJ hx hy ha hb ea eb ca cb sa sb hv1
 | true => exact ShowLines_end hF hJ hx hx ha ha ea ea ca ca sa sa hv1
theorem ShowLines_args {st : St} (hv : VSh st) (args : List Value) (h : WVs pg st [24, 24, 27, 27, 4] args) : Ok (K.go (.call n_refinerylaw06_ShowLines args) st) fun r => r.1 = .bool true := by
 match args, h with
 | [v0, v1, v2, v3, v4], ⟨h0, h1, h2, h3, h4, _⟩ =>
   obtain ⟨x, rfl, hx⟩ := wv_Line h0
   obtain ⟨y, rfl, hy⟩ := wv_Line h1
   obtain ⟨a, la, ea, ca, sa, ha⟩ := wv_SBlock h2
   obtain ⟨b, lb, eb, cb, sb, hb⟩ := wv_SBlock h3
   obtain ⟨same, rfl⟩ := h4.bool Tryd.underlying4
   exact ShowLines_ok hF hx hy ha hb ea eb ca cb sa sb same hv
end Go.Proofs.YtlpdlohikfkjnaaDoor.Sh
