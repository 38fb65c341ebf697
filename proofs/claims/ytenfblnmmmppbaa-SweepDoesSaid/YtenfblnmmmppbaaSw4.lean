/-
  Sweep of a fixed program; Awake; SweepDoes: whatever it is given, the law's function answers true.
-/
import Derived.Test.YtenfblnmmmppbaaSw3
set_option linter.unusedVariables false
set_option linter.unusedSimpArgs false
set_option linter.unusedSectionVars false
set_option maxRecDepth 100000
namespace Go.Proofs.Ytenfblnmmmppbaa.Sh
open Go Go.AM Go.Proofs

theorem one_view {st : St} {vp : Value} {b : Block} {ids : List Nat} (h : PProg st vp [b] ids) : ∃ (bid : Nat) (vph vi : Value) (i1 i2 : List Nat), vp = Sl bid 0 1 7 ∧ bid ∈ ids ∧ st.get bid = some (.cells (cB b.label vph vi b.last)) ∧ RepSl 3 PPhi st vph b.phis i1 ∧ RepSl 7 PInstr st vi b.instrs i2 ∧ (∀ id ∈ i1, id ∈ ids) ∧ ∀ id ∈ i2, id ∈ ids := by
  rcases h with ⟨h, _⟩ | ⟨bid, css, idss, rfl, h2, h3, h4, h5, h6, rfl⟩
  · cases h
  match css, h3, idss, h4 with
  | [c0], h3, [is0], h4 =>
    obtain ⟨vph, vi, i1, i2, e1, e2, e3, e4⟩ := h6 0 b c0 is0 rfl rfl rfl
    subst e1; subst e4
    simp only [List.flatten_cons, List.flatten_nil, List.append_nil] at h2
    exact ⟨bid, vph, vi, i1, i2, rfl, List.mem_cons_self .., h2, e2, e3, fun id hi => by simp [hi], fun id hi => by simp [hi]⟩

theorem append_first (s : St) (x : Instr) : sAppend 7 48 (.slice none 0 0) (Sl s.next 0 1 7) (s.alloc (.cells (cI x))) = .ok (Sl (s.next + 1) 0 1 7, (s.alloc (.cells (cI x))).alloc (.cells (cI x))) := by
  have hneed : ∀ {b : Bool} {s : String}, b = true → Res.need b s = .ok () := fun h => by subst h; rfl
  have hg : (s.alloc (.cells (cI x))).get s.next = some (.cells (cI x)) := by rw [get_alloc, if_pos rfl]
  have hf : firstL (s.alloc (.cells (cI x))) 7 1 (Sl s.next 0 1 7) = .ok (cI x) := by
    simp only [firstL, hneed (decide_eq_true (rfl : 7 = 7)), Res.bind_ok, St.loadN, cells_eq hg, hneed (decide_eq_true (show 0 + 1 * 7 ≤ (cI x).length from Nat.le_refl _))]
    rfl
  simp only [sAppend, aappend, lenL, hf, Res.bind_ok, hneed (decide_eq_true (show (cI x).length = 1 * 7 from rfl)), if_neg (show ¬ 1 = 0 by decide), hneed (decide_eq_true (show (0 + 1) * 48 ≤ mostBytes by decide)), hneed (show (cI x).all cellOk = true from rfl), hneed (decide_eq_true (rfl : 0 = 0))]
  rfl

variable {K : Ctx} (hF : Fix pgF K)
include hF

theorem Sweep_aw {A : Nat → Prop} {st : St} {v : Value} (hA : ∀ id, A id → id < st.next) (hro : st.ro ≤ st.next) (hp : RProg A st v awP) : Ok (K.go (.call n_sweep_Sweep [.agg #[v]]) st) fun r => ∃ bid c, r.1 = .agg #[Sl bid 0 1 7] ∧ r.2.get bid = some (.cells (cB 0 (.slice none 0 0) (Sl c 0 1 7) ⟨3, 0, 0, 0⟩)) ∧ r.2.get c = some (.cells (cI ⟨3, 0, 1, 0, 0, 0, 0⟩)) ∧ (bid < r.2.next ∧ c < r.2.next) ∧ Ext st r.2 := by
  generalize hQ : (fun r : Value × St => ∃ bid c, r.1 = .agg #[Sl bid 0 1 7] ∧ r.2.get bid = some (.cells (cB 0 (.slice none 0 0) (Sl c 0 1 7) ⟨3, 0, 0, 0⟩)) ∧ r.2.get c = some (.cells (cI ⟨3, 0, 1, 0, 0, 0, 0⟩)) ∧ (bid < r.2.next ∧ c < r.2.next) ∧ Ext st r.2) = Q
  refine sweep_Sweep_of hF fun J hJ => ?_
  rw [sweep_Sweep_eq]
  have hE0 : Ext st st.bump.bump := by simp
  have hA0 : ∀ s, Ext st s → ∀ id, A id → id < s.next := fun s hE id h => Nat.lt_of_lt_of_le (hA id h) hE.next
  have R : ∀ s, Ext st s → RProg A s v awP := fun s hE => hp.mono (hE.agree hA)
  have hfc : ∀ v s, sField (some 1) 0 (.agg #[v]) s = .ok (.agg #[v], s) := fun v s => rfl
  simp [hfc]
  refine (Check_ok hF (hA0 _ hE0) (R _ hE0) (by decide) (by simp [awP]) (hE0.roOk hro)).call fun s1 hE1 => ?_
  have hE1 := hE0.trans hE1
  have hc : check awP = 0 := by decide
  rw [hc]
  simp [sweep_Sweep_j0_eq hJ, hfc]
  refine (Needed0_ok hF (hA0 _ hE1) (hE1.roOk hro) (R _ hE1)).call fun s2 hE2 => ?_
  have hE2 := hE1.trans hE2
  have hE3 : Ext st s2.bump := hE2.bump
  have hu0 : ∀ s, sUpd 1 0 (.agg #[.slice none 0 0]) (.agg #[.slice none 0 0]) s = .ok (.agg #[.slice none 0 0], s) := fun s => by simp [Res.need]
  simp [hfc, hu0]
  refine (Clone_ok hF (hA0 _ hE3) (hE3.roOk hro) (R _ hE3) (by decide) (by simp [awP])).thn fun ⟨r1, s4⟩ ⟨vc, ids, e1, e2, e3, e4, hE4⟩ => ?_
  simp only at e1 e2 e4 hE4 ⊢
  subst e1
  have hE4' := hE3.trans hE4
  have hE4n := hE3.next
  obtain ⟨bid, vph, vi, i1, i2, rfl, m0, g1, g2, g3, m1, m2⟩ := one_view e2
  have hbi := e4 bid m0
  have hu1 : ∀ s, sUpd 1 0 (.agg #[v]) (.agg #[Sl bid 0 1 7]) s = .ok (.agg #[Sl bid 0 1 7], s) := fun s => by simp [Res.need]
  have hlen : ∀ s, sLen .slice (Sl bid 0 1 7) s = .ok (I 1, s) := fun s => rfl
  simp [-sLen_slice, hu1, hlen, Res.of]
  refine sweep_Sweep_l0_of hF hJ ?_
  rw [sweep_Sweep_l0_eq]
  have hix : ∀ (c : Nat) s, sIxA 7 none (Sl c 0 1 7) (I 0) s = .ok (P c 0, s) := fun c s => by simp [sIxA, index, Res.need]
  have hnc : ∀ (b o : Nat) s, sNilc (P b o) s = .ok (P b o, s) := fun b o s => rfl
  have l1 : ∀ s : St, s.get bid = s4.get bid → s.load1 bid 1 = .ok vph := fun s h => load1_eq (h.trans g1) rfl
  have l2 : ∀ s : St, s.get bid = s4.get bid → s.load1 bid 2 = .ok vi := fun s h => load1_eq (h.trans g1) rfl
  have hl0 : ∀ s, sLen .slice vph s = .ok (I 0, s) := g2.len
  have hl2 : ∀ s, sLen .slice vi s = .ok (I 2, s) := g3.len
  simp [-sLen_slice, sweep_Sweep_j1_eq hJ, hix, hnc, l1 s4 rfl, hl0, Res.of]
  refine sweep_Sweep_l1_of hF hJ ?_
  rw [sweep_Sweep_l1_eq]
  simp [-sLen_slice, sweep_Sweep_j4_eq hJ, hnc, l2 s4 rfl, hl2]
  have hr3 : RSl (fun id => id ∈ i2) s4 7 RInstr vi [⟨0, 0, 0, 0, 0, 5, 0⟩, ⟨3, 0, 1, 0, 0, 0, 0⟩] := g3.rsl fun cs x is _ _ h => h.1
  have hv : ∀ x, Value.agg (cI x).toArray = vI x := fun x => rfl
  have hbl : ∀ id ∈ i2, id < s4.next := fun id hi => (e4 id (m2 id hi)).2
  -- the number: left out
  refine sweep_Sweep_l2_of hF hJ ?_
  rw [sweep_Sweep_l2_eq]
  obtain ⟨b0, o0, cs0, x1, x2, x3, -⟩ := hr3.at (i := 0) (x := ⟨0, 0, 0, 0, 0, 5, 0⟩) rfl
  have x3 : cs0 = cI ⟨0, 0, 0, 0, 0, 5, 0⟩ := x3
  subst x3
  have x1 : ∀ s, sIxA 7 none vi (I 0) s = .ok (P b0 o0, s) := x1
  simp [sweep_Sweep_j6_eq hJ, x1, x2 s4 (Agree.refl _ _), hv]
  refine (Sets_ok hF _ _).call fun s5 hE5 => ?_
  have hE5 : Ext s4 s5 := Ext.trans (by simp) hE5
  simp [Instr.sets, Res.of]
  refine (Does_ok hF _ _).thn fun ⟨r1, s6⟩ ⟨hr1, hE6⟩ => ?_
  simp only at hr1 hE6 ⊢
  subst hr1
  have hE6 := hE5.trans hE6
  simp [Instr.pure, hfc]
  refine (Has0_ok hF (A := fun _ => False) (s := s6) (v := .slice none 0 0) (.nil _ _ _ _ _) 0 _).call fun s7 hE7 => ?_
  have hE7 := hE6.trans hE7
  simp [sweep_Sweep_j8_eq hJ]
  rw [wrap_id (n := 1) (by omega)]
  -- the input: kept
  refine sweep_Sweep_l2_of hF hJ ?_
  rw [sweep_Sweep_l2_eq]
  obtain ⟨b1, o1, cs1, y1, y2, y3, -⟩ := hr3.at (i := 1) (x := ⟨3, 0, 1, 0, 0, 0, 0⟩) rfl
  have y3 : cs1 = cI ⟨3, 0, 1, 0, 0, 0, 0⟩ := y3
  subst y3
  have y1 : ∀ s, sIxA 7 none vi (I 1) s = .ok (P b1 o1, s) := y1
  simp [sweep_Sweep_j6_eq hJ, y1, y2 s7 (hE7.agree hbl), hv]
  refine (Sets_ok hF _ _).call fun s8 hE8 => ?_
  have hE8 : Ext s4 s8 := hE7.trans (Ext.trans (by simp) hE8)
  simp [Instr.sets, Res.of]
  refine (Does_ok hF _ _).thn fun ⟨r1, s9⟩ ⟨hr1, hE9⟩ => ?_
  simp only at hr1 hE9 ⊢
  subst hr1
  have hE9 := hE8.trans hE9
  have ap := append_first s9 ⟨3, 0, 1, 0, 0, 0, 0⟩
  simp [Instr.pure, ap, sweep_Sweep_j8_eq hJ]
  rw [wrap_id (n := 2) (by omega)]
  refine sweep_Sweep_l2_of hF hJ ?_
  rw [sweep_Sweep_l2_eq]
  generalize hs10 : (s9.alloc (.cells (cI ⟨3, 0, 1, 0, 0, 0, 0⟩))).alloc (.cells (cI ⟨3, 0, 1, 0, 0, 0, 0⟩)) = s10
  have hE10 : Ext s9 s10 := by rw [← hs10]; simp
  have n10 : s10.next = s9.next + 2 := by rw [← hs10]; rfl
  have g10 : s10.get (s9.next + 1) = some (.cells (cI ⟨3, 0, 1, 0, 0, 0, 0⟩)) := by rw [← hs10, get_alloc, if_pos (by rfl)]
  clear hs10
  have hX := hE9.trans hE10
  have hXt := hE4'.trans hX
  have gb : s10.get bid = some (.cells (cB 0 vph vi ⟨3, 0, 0, 0⟩)) := by rw [hX.get _ hbi.2]; exact g1
  have hr : s10.ro ≤ bid := by have := hE3.next; rw [hXt.ro]; omega
  have t1 : s10.storeN bid 1 [.slice none 0 0] = .ok (s10.put bid (.cells (cB 0 (.slice none 0 0) vi ⟨3, 0, 0, 0⟩))) := by
    rw [storeN_def, gb]
    simp only [need_dec hr, need_dec (show 1 + [Value.slice none 0 0].length ≤ (cB 0 vph vi ⟨3, 0, 0, 0⟩).length by simp [cB])]
    simp [splice, cB, Res.need]
  have t2 : (s10.put bid (.cells (cB 0 (.slice none 0 0) vi ⟨3, 0, 0, 0⟩))).storeN bid 2 [Sl (s9.next + 1) 0 1 7] = .ok ((s10.put bid (.cells (cB 0 (.slice none 0 0) vi ⟨3, 0, 0, 0⟩))).put bid (.cells (cB 0 (.slice none 0 0) (Sl (s9.next + 1) 0 1 7) ⟨3, 0, 0, 0⟩))) := by
    rw [storeN_def, get_put, if_pos rfl]
    simp only [ro_put, need_dec hr, need_dec (show 2 + [Sl (s9.next + 1) 0 1 7].length ≤ (cB 0 (.slice none 0 0) vi ⟨3, 0, 0, 0⟩).length by simp [cB])]
    simp [splice, cB, Res.need]
  simp [-storeN_def, sweep_Sweep_j7_eq hJ, hnc, t1, t2, sweep_Sweep_j9_eq hJ, Res.need]
  rw [wrap_id (n := 1) (by omega)]
  refine sweep_Sweep_l0_of hF hJ ?_
  rw [sweep_Sweep_l0_eq]
  have hu2 : ∀ s, sUpd 1 0 (.agg #[.slice none 0 0]) (.agg #[Sl bid 0 1 7]) s = .ok (.agg #[Sl bid 0 1 7], s) := fun s => by simp [Res.need]
  simp [sweep_Sweep_j2_eq hJ, hfc, hu2, oneOf]
  rw [← hQ]
  have hlo : st.next ≤ bid := by have := hE3.next; omega
  refine ⟨bid, s9.next + 1, rfl, by rw [get_put, if_pos rfl], ?_, ⟨by show bid < s10.next; have := hX.next; omega, by show s9.next + 1 < s10.next; omega⟩, ((hXt.put hlo _).put hlo _)⟩
  have hne : s9.next + 1 ≠ bid := by have := hE9.next; omega
  rw [get_put, if_neg hne, get_put, if_neg hne]
  exact g10

theorem Awake21_ok (st : St) (hro : st.ro ≤ st.next) : Ok (K.go (.call n_refinerylaw21_Awake []) st) fun r => r.1 = B true ∧ Ext st r.2 := by
  generalize hQ : (fun r : Value × St => r.1 = B true ∧ Ext st r.2) = Q
  refine refinerylaw21_Awake_of hF fun J hJ => ?_
  rw [refinerylaw21_Awake_eq]
  have b1 : ∀ s, sBuild [U 0, U 0, I 0, I 0, I 0, I 0, I 0] [(2, 1, I 0), (5, 1, I 5)] s = .ok (vI ⟨0, 0, 0, 0, 0, 5, 0⟩, s) := fun s => rfl
  have b2 : ∀ s, sBuild [U 0, U 0, I 0, I 0, I 0, I 0, I 0] [(0, 1, U 3), (2, 1, I 1)] s = .ok (vI ⟨3, 0, 1, 0, 0, 0, 0⟩, s) := fun s => rfl
  have b3 : sLit 7 2 [U 0, U 0, I 0, I 0, I 0, I 0, I 0, U 0, U 0, I 0, I 0, I 0, I 0, I 0] [(0, 7, vI ⟨0, 0, 0, 0, 0, 5, 0⟩), (7, 7, vI ⟨3, 0, 1, 0, 0, 0, 0⟩)] st = .ok (Sl st.next 0 2 7, st.alloc (.cells ([(⟨0, 0, 0, 0, 0, 5, 0⟩ : Instr), ⟨3, 0, 1, 0, 0, 0, 0⟩].map cI).flatten)) := rfl
  have b4 : ∀ s, sBuild [U 0, I 0, I 0, I 0] [(0, 1, U 3)] s = .ok (vL ⟨3, 0, 0, 0⟩, s) := fun s => rfl
  have b5 : ∀ s, sBuild [I 0, .slice none 0 0, .slice none 0 0, U 0, I 0, I 0, I 0] [(2, 1, Sl st.next 0 2 7), (3, 4, vL ⟨3, 0, 0, 0⟩)] s = .ok (vB 0 (.slice none 0 0) (Sl st.next 0 2 7) ⟨3, 0, 0, 0⟩, s) := fun s => rfl
  generalize hs1 : st.alloc (.cells ([(⟨0, 0, 0, 0, 0, 5, 0⟩ : Instr), ⟨3, 0, 1, 0, 0, 0, 0⟩].map cI).flatten) = s1 at b3
  have n1 : s1.next = st.next + 1 := by rw [← hs1]; rfl
  have E1 : Ext st s1 := by rw [← hs1]; simp
  have g1 : s1.get st.next = some (.cells ([(⟨0, 0, 0, 0, 0, 5, 0⟩ : Instr), ⟨3, 0, 1, 0, 0, 0, 0⟩].map cI).flatten) := by rw [← hs1, get_alloc, if_pos rfl]
  clear hs1
  have b6 : ∀ v s, sBuild [.slice none 0 0] [(0, 1, .slice v 1 7)] s = .ok (.agg #[.slice v 1 7], s) := fun v s => rfl
  have hfc : ∀ v s, sField (some 1) 0 (.agg #[v]) s = .ok (.agg #[v], s) := fun v s => rfl
  have hE2 : Ext s1 ((s1.alloc (.cells (cB 0 (.slice none 0 0) (Sl st.next 0 2 7) ⟨3, 0, 0, 0⟩))).bump) := by simp
  have g2 : ((s1.alloc (.cells (cB 0 (.slice none 0 0) (Sl st.next 0 2 7) ⟨3, 0, 0, 0⟩))).bump).get s1.next = some (.cells (cB 0 (.slice none 0 0) (Sl st.next 0 2 7) ⟨3, 0, 0, 0⟩)) := by
    rw [get_bump, if_neg (by simp), get_alloc, if_pos rfl]
  have hu0 : ∀ s, sUpd 1 0 (.agg #[.slice none 0 0]) (.agg #[Sl s1.next 0 1 7]) s = .ok (.agg #[Sl s1.next 0 1 7], s) := fun s => by simp [Res.need]
  simp [b1, b2, b3, b4, b5, b6, hu0, hfc]
  generalize hs3 : (s1.alloc (.cells (cB 0 (.slice none 0 0) (Sl st.next 0 2 7) ⟨3, 0, 0, 0⟩))).bump = s3 at *
  have n3 : s3.next = st.next + 3 := by rw [← hs3]; simp [n1]
  have hX := E1.trans hE2
  have hp : RProg (Bel s3.next) s3 (Sl s1.next 0 1 7) awP := .inr ⟨s1.next, 0, _, rfl, by show s1.next < s3.next; omega, g2, by simp [awP, cB], fun i x hx => by
    cases i with
    | zero =>
      simp [awP] at hx
      subst hx
      refine ⟨.slice none 0 0, Sl st.next 0 2 7, rfl, .nil _ _ _ _ _, ?_⟩
      exact rsl_instrs [⟨0, 0, 0, 0, 0, 5, 0⟩, ⟨3, 0, 1, 0, 0, 0, 0⟩] (by rw [hE2.get _ (by omega)]; exact g1) (by show st.next < s3.next; omega)
    | succ i => simp [awP] at hx⟩
  refine (Sweep_aw hF (fun id h => h) (hX.roOk hro) hp).thn fun ⟨r1, s4⟩ ⟨bid, c, h1, h2, h3, ⟨hb1, hb2⟩, hE4⟩ => ?_
  simp only at h1 h2 h3 hb1 hb2 hE4 ⊢
  subst h1
  have hu1 : ∀ s, sUpd 1 0 (.agg #[.slice none 0 0]) (.agg #[Sl bid 0 1 7]) s = .ok (.agg #[Sl bid 0 1 7], s) := fun s => by simp [Res.need]
  have hlen : ∀ (b : Nat) s, sLen .slice (Sl b 0 1 7) s = .ok (I 1, s) := fun b s => rfl
  have hix : ∀ (c : Nat) s, sIxA 7 none (Sl c 0 1 7) (I 0) s = .ok (P c 0, s) := fun c s => by simp [sIxA, index, Res.need]
  have hbn : bid ≠ s4.next := by omega
  have hcn : c ≠ s4.next := by omega
  have l1 : s4.bump.load1 bid 2 = .ok (Sl c 0 1 7) := load1_eq (by rw [get_bump, if_neg hbn]; exact h2) rfl
  have l2 : s4.bump.load1 c 0 = .ok (U 3) := load1_eq (by rw [get_bump, if_neg hcn]; exact h3) rfl
  simp [-sLen_slice, hu1, hlen, hix, l1, l2, Res.of]
  rw [← hQ]
  exact ⟨rfl, (hX.trans hE4).bump⟩
end Go.Proofs.Ytenfblnmmmppbaa.Sh

