/-
  LexJoins: whatever it is given, the law's function answers true.
-/
import Derived.Test.YtefdkodjpcabmaaDoorLx7
import Derived.Test.YtefdkodjpcabmaaDoorShL8
set_option linter.unusedVariables false
set_option linter.unusedSimpArgs false
set_option linter.unusedSectionVars false
set_option maxRecDepth 100000
namespace Go.AM.Lx
theorem split_joins {ps qs : List Rd} (hp : ∀ p ∈ ps, Reads p.1 p.2) (hq : ∀ p ∈ qs, Reads p.1 p.2) (h1 : ps.length ≤ 1000) (h2 : qs.length ≤ 1000) :
 split (events (textOf ps ++ [10] ++ textOf qs)) = (toksAt ps 0 ++ (⟨7, (textOf ps).length, [], 0⟩ :: ((toksAt qs 0 ++ [endT (textOf qs).length]).map (shift ((textOf ps).length + 1)))), 0, 0) := by
 have l1 := textOf_len hp
 have l2 := textOf_len hq
 unfold events
 rw [if_neg (by simp; omega)]
 have e := evs_text hp ([10] ++ textOf qs) 0
 rw [← List.append_assoc, Nat.zero_add] at e
 rw [e]
 have e2 := evs_line (textOf qs) (textOf ps).length
 have e3 := evs_text hq [] ((textOf ps).length + 1)
 rw [List.append_nil, evs_nil] at e3
 rw [show ([10] ++ textOf qs : List UInt8) = 10 :: textOf qs from rfl, e2, e3]
 have e4 : (⟨7, (textOf ps).length, [], 0⟩, (0 : Int)) :: ((toksAt qs ((textOf ps).length + 1)).map (fun t => (t, (0 : Int))) ++ [(endT ((textOf ps).length + 1 + (textOf qs).length), (0 : Int))]) = ((⟨7, (textOf ps).length, [], 0⟩ : Tok) :: toksAt qs ((textOf ps).length + 1)).map (fun t => (t, (0 : Int))) ++ [(endT ((textOf ps).length + 1 + (textOf qs).length), (0 : Int))] := rfl
 rw [e4, ← List.append_assoc, ← List.map_append, split_toks, ahead_end]
 have e5 := toksAt_shift qs 0 ((textOf ps).length + 1)
 rw [Nat.zero_add] at e5
 rw [e5]
 simp [shift, endT, Nat.add_comm, Nat.add_left_comm]
end Go.AM.Lx
namespace Go.Proofs.YtefdkodjpcabmaaDoor.Sh
open Go Go.AM Go.Proofs Go.AM.Lx
variable {K : Ctx} (hF : Fix pgF K)
include hF
theorem Joins_loop {J} (hJ : IsJ K (retK refinerylaw04_LexJoins_c.results) J) {s0 : St} {X : List UInt8} {vl vm vn : Value} {l m n : List Tok} (hX : X.length ≤ 100000) (hln : n.length ≤ 100000)
 (hl0 : 0 < l.length) (hll : ∀ s, sLen .slice vl s = .ok (I l.length, s))
 (hatl : ∀ (i : Nat) t, l[i]? = some t → ∃ b o, (∀ s : St, sIxA 4 none vl (I i) s = .ok (P b o, s)) ∧ ∀ s : St, Ext s0 s → s.loadN b o 4 = .ok (cTok t))
 (hatm : ∀ (i : Nat) t, m[i]? = some t → ∃ b o, (∀ s : St, sIxA 4 none vm (I i) s = .ok (P b o, s)) ∧ ∀ s : St, Ext s0 s → s.loadN b o 4 = .ok (cTok t))
 (hatn : ∀ (i : Nat) t, n[i]? = some t → ∃ b o, (∀ s : St, sIxA 4 none vn (I i) s = .ok (P b o, s)) ∧ ∀ s : St, Ext s0 s → s.loadN b o 4 = .ok (cTok t))
 (hn : n = l.take (l.length - 1) ++ (⟨7, X.length, [], 0⟩ :: m.map (shift (X.length + 1)))) (hm : ∀ t ∈ m, t.at_ ≤ 100000) :
 ∀ (d i : Nat) (st : St), i + d = n.length → Ext s0 st → Ok (refinerylaw04_LexJoins_l0 J (T X) vl vm vn (I n.length) (I i) st) fun r => r.1 = B true := by
 intro d
 induction d with
 | zero =>
   intro i st hi hE
   refine refinerylaw04_LexJoins_l0_of hF hJ ?_
   rw [refinerylaw04_LexJoins_l0_eq]
   have h1 : ¬ (i : Int) < (n.length : Nat) := by omega
   simp [h1, refinerylaw04_LexJoins_j4_eq hJ]
 | succ d ih =>
   intro i st hi hE
   refine refinerylaw04_LexJoins_l0_of hF hJ ?_
   rw [refinerylaw04_LexJoins_l0_eq]
   have hlt : i < n.length := by omega
   have h1 : (i : Int) < (n.length : Nat) := by omega
   obtain ⟨b, o, k1, k2⟩ := hatn i _ (List.getElem?_eq_getElem hlt)
   have hni : n[i]? = some n[i] := List.getElem?_eq_getElem hlt
   generalize n[i] = t at *
   have hv : ∀ t : Tok, Value.agg (cTok t).toArray = vTok t := fun t => rfl
   have hw : IntKind.i64.wrap ((i : Int) + 1) = ((i + 1 : Nat) : Int) := by rw [wrap_id (by omega)]; omega
   have hlc : (l.length : Int) ≤ 100001 := by
    have := congrArg List.length hn
    simp at this; omega
   have hlw : IntKind.i64.wrap ((l.length : Int) - 1) = (l.length : Int) - 1 := wrap_id (by omega)
   have hb : ∀ s, sBuild [U 0, I 0, .string (bstr []), I 0] [(0, 1, U 7), (1, 1, I X.length)] s = .ok (vTok ⟨7, X.length, [], 0⟩, s) := fun s => rfl
   have fin : ∀ s, Ext s0 s → Ok (refinerylaw04_LexJoins_j5 J (T X) vl vm (vTok t) (vTok t) vn (I n.length) (I i) s) fun r => r.1 = B true := fun s hs => by
    rw [refinerylaw04_LexJoins_j5_eq hJ]
    simp only [sField_tok, thn_ok, sEq_tok, decide_true, Bool.not_true, condX_eq, cond_false, refinerylaw04_LexJoins_j6_eq hJ, sAdd, hw]
    exact ih (i + 1) s (by omega) hs
   have hEb : Ext s0 st.bump.bump := hE.bump.bump
   simp only [sLss, decide_eq_true h1, thn_ok, condX_eq, cond_true, refinerylaw04_LexJoins_j3_eq hJ, k1, sLoadN, k2 st hE, Res.bind_ok, hv, sLnew_eq, sUpd_tok0, sLen_T, hb, hll, sSub, hlw]
   by_cases c1 : i < l.length - 1
   ·have c1' : (i : Int) < (l.length : Int) - 1 := by omega
    have hli : l[i]? = some t := by
     rw [hn, List.getElem?_append_left (by rw [List.length_take]; omega), List.getElem?_take, if_pos c1] at hni
     exact hni
    obtain ⟨b2, o2, m1, m2⟩ := hatl i _ hli
    simp only [decide_eq_true c1', cond_true, m1, thn_ok, sLoadN, m2 _ hEb, Res.bind_ok, hv, sUpd_tok']
    exact fin _ hEb
   ·have c1' : ¬ (i : Int) < (l.length : Int) - 1 := by omega
    rw [hn, List.getElem?_append_right (by rw [List.length_take]; omega), List.length_take] at hni
    simp only [decide_eq_false c1', cond_false, hll, thn_ok, sGeq]
    by_cases c2 : l.length ≤ i
    ·have c2' : (l.length : Int) ≤ (i : Int) := by omega
     have hix : i - min (l.length - 1) l.length = (i - l.length) + 1 := by omega
     rw [hix, List.getElem?_cons_succ, List.getElem?_map] at hni
     obtain ⟨u, hu, hut⟩ := Option.map_eq_some_iff.1 hni
     obtain ⟨b2, o2, m1, m2⟩ := hatm _ _ hu
     have hsub : IntKind.i64.wrap ((i : Int) - (l.length : Int)) = ((i - l.length : Nat) : Int) := by rw [wrap_id (by omega)]; omega
     have hub := hm u (List.mem_of_getElem? hu)
     have w1 : IntKind.i64.wrap ((X.length : Int) + 1) = ((X.length + 1 : Nat) : Int) := by rw [wrap_id (by omega)]; omega
     have w2 : IntKind.i64.wrap ((u.at_ : Int) + ((X.length + 1 : Nat) : Int)) = ((u.at_ + (X.length + 1) : Nat) : Int) := by rw [wrap_id (by omega)]; omega
     have hat : ∀ s, sUpd 1 1 (vTok u) (I ((u.at_ + (X.length + 1) : Nat) : Int)) s = .ok (vTok (shift (X.length + 1) u), s) := fun s => by simp [vTok, cTok, Res.need, shift]
     simp only [decide_eq_true c2', cond_true, hll, thn_ok, hsub, sSub, m1, sLoadN, m2 _ hEb, Res.bind_ok, hv, sUpd_tok', sLref_tok, sField_at, sLen_T, sAdd, w1, w2, hat, hut, condX_eq]
     exact fin _ hEb
    ·have c2' : ¬ (l.length : Int) ≤ (i : Int) := by omega
     have hix : i - min (l.length - 1) l.length = 0 := by omega
     rw [hix, List.getElem?_cons_zero] at hni
     cases hni
     simp only [decide_eq_false c2', cond_false, condX_eq, thn_ok]
     exact fin _ hEb
theorem toksAt_at {ps : List Rd} (h : ∀ p ∈ ps, Reads p.1 p.2) (hl : ps.length ≤ 1000) : ∀ t ∈ toksAt ps 0 ++ [endT (textOf ps).length], t.at_ ≤ 100000 := by
 have key : ∀ (ps : List Rd) (a : Nat), ∀ t ∈ toksAt ps a, t.at_ ≤ a + (textOf ps).length := by
  intro ps
  induction ps with
  | nil => intro a t ht; cases ht
  | cons p ps ih =>
    intro a t ht
    simp only [toksAt, List.mem_cons] at ht
    have hl : (textOf (p :: ps)).length = p.1.length + 1 + (textOf ps).length := by simp [textOf]; omega
    rcases ht with rfl | ht
    ·simp only; omega
    ·have := ih _ _ ht
     omega
 have h2 := textOf_len h
 intro t ht
 rcases List.mem_append.1 ht with ht | ht
 ·have := key ps 0 t ht
  omega
 ·rw [List.mem_singleton.1 ht]
  simp only [endT]
  omega
theorem LexJoins_ok {st : St} (hv : VOk st) {va vb : Value} {pa pb : List Pc} (ha : RSl (Bel st.next) st 3 RPc va pa) (hb : RSl (Bel st.next) st 3 RPc vb pb) : Ok (K.go (.call n_refinerylaw04_LexJoins [va, vb]) st) fun r => r.1 = B true := by
 refine refinerylaw04_LexJoins_of hF fun J hJ => ?_
 rw [refinerylaw04_LexJoins_eq]
 refine (Awake04_ok hF hv).call fun s1 E1 => ?_
 have v1 := hv.mono E1
 simp only [sUn_not, Bool.not_true, thn_ok, condX_eq, cond_false, refinerylaw04_LexJoins_j0_eq hJ, ha.len, sGtr]
 by_cases h1 : (30 : Int) < pa.length
 ·simp [h1]
 by_cases h2 : (30 : Int) < pb.length
 ·simp [h1, h2, hb.len]
 have ha1 : RSl (Bel s1.next) s1 3 RPc va pa := ha.mono (fun id h => Nat.lt_of_lt_of_le h E1.next) (E1.agree fun _ h => h) fun _ _ _ h => h
 have hb1 : RSl (Bel s1.next) s1 3 RPc vb pb := hb.mono (fun id h => Nat.lt_of_lt_of_le h E1.next) (E1.agree fun _ h => h) fun _ _ _ h => h
 simp only [decide_eq_false h1, decide_eq_false h2, sG_eq, thn_ok, hb.len, sGtr, beq_self_eq_true, cond_true, sPick_eq, Bool.false_eq_true, if_false, condX_eq, cond_false, refinerylaw04_LexJoins_j1_eq hJ]
 refine (Joins1_ok hF ha1 v1.ro (by omega)).thn fun r2 ⟨ps, e2, l2, hps, E2⟩ => ?_
 have hb2 : RSl (Bel r2.2.next) r2.2 3 RPc vb pb := hb1.mono (fun id h => Nat.lt_of_lt_of_le h E2.next) (E2.agree fun _ h => h) fun _ _ _ h => h
 have v2 := v1.mono E2
 refine (Joins1_ok hF hb2 v2.ro (by omega)).thn fun r3 ⟨qs, e3, l3, hqs, E3⟩ => ?_
 have v3 := v2.mono E3
 rw [e2, e3]
 have lx := textOf_len hps
 have ly := textOf_len hqs
 refine Split_thn hF (by unfold Short; omega) v3 fun vl s4 il h4 => ?_
 simp only [sExtract_eq, List.getElem?_toArray, List.getElem?_cons_zero, List.getElem?_cons_succ, Res.of_some, Res.bind_ok, thn_ok]
 have v4 := v3.mono h4.ext
 refine Split_thn hF (by unfold Short; omega) v4 fun vm s5 im h5 => ?_
 have v5 := v4.mono h5.ext
 have a1 := sAdd_T (textOf ps) [10] s5 (by simp; omega)
 have a1' : sBin .add (T (textOf ps)) (.string (bstr [10])) s5 = .ok (T (textOf ps ++ [10]), s5) := a1
 have a2 := sAdd_T (textOf ps ++ [10]) (textOf qs) s5 (by simp; omega)
 simp only [sExtract_eq, List.getElem?_toArray, List.getElem?_cons_zero, List.getElem?_cons_succ, Res.of_some, Res.bind_ok, thn_ok, a1', a2]
 refine Split_thn hF (by unfold Short; simp; omega) v5 fun vn s6 in6 h6 => ?_
 rw [split_text hps (by omega)] at *
 rw [split_text hqs (by omega)] at *
 rw [split_joins hps hqs (by omega) (by omega)] at *
 have t1 := toksAt_len ps 0
 have t2 := toksAt_len qs 0
 have el : ∀ s, sLen .slice vl s = .ok (I ((ps.length + 1 : Nat) : Int), s) := fun s => by rw [h4.len]; simp [t1]
 have em : ∀ s, sLen .slice vm s = .ok (I ((qs.length + 1 : Nat) : Int), s) := fun s => by rw [h5.len]; simp [t2]
 have en : ∀ s, sLen .slice vn s = .ok (I ((ps.length + qs.length + 2 : Nat) : Int), s) := fun s => by rw [h6.len]; congr 3; rw [List.length_append, List.length_cons, List.length_map, List.length_append, t1, t2]; simp only [List.length_cons, List.length_nil]; omega
 have hw : IntKind.i64.wrap (((ps.length + 1 : Nat) : Int) + ((qs.length + 1 : Nat) : Int)) = ((ps.length + qs.length + 2 : Nat) : Int) := by rw [wrap_id (by omega)]; omega
 have z : decide ((0 : Int) = 0) = true := rfl
 simp only [sExtract_eq, List.getElem?_toArray, List.getElem?_cons_zero, List.getElem?_cons_succ, Res.of_some, Res.bind_ok, thn_ok, sNeq, z, Bool.not_true, sG_eq, beq_self_eq_true, cond_true, sPick_eq, Bool.false_eq_true, if_false, el, em, en, sAdd, hw, decide_true, condX_eq, cond_false, refinerylaw04_LexJoins_j2_eq hJ]
 have hnl : ((toksAt ps 0) ++ (⟨7, (textOf ps).length, [], 0⟩ :: ((toksAt qs 0 ++ [endT (textOf qs).length]).map (shift ((textOf ps).length + 1))))).length = ps.length + qs.length + 2 := by rw [List.length_append, List.length_cons, List.length_map, List.length_append, t1, t2]; simp only [List.length_cons, List.length_nil]; omega
 have := Joins_loop hF hJ (s0 := s6) (X := textOf ps) (vl := vl) (vm := vm) (vn := vn) (l := toksAt ps 0 ++ [endT (textOf ps).length]) (m := toksAt qs 0 ++ [endT (textOf qs).length])
  (n := (toksAt ps 0) ++ (⟨7, (textOf ps).length, [], 0⟩ :: ((toksAt qs 0 ++ [endT (textOf qs).length]).map (shift ((textOf ps).length + 1))))) (by omega) (by omega) (by simp) h4.len
  (fun i t h => by
    obtain ⟨b, o, k1, _, k2⟩ := h4.at h
    exact ⟨b, o, k1, fun s hs => (k2 s ((h5.ext.trans h6.ext).trans hs)).1⟩)
  (fun i t h => by
    obtain ⟨b, o, k1, _, k2⟩ := h5.at h
    exact ⟨b, o, k1, fun s hs => (k2 s (h6.ext.trans hs)).1⟩)
  (fun i t h => by
    obtain ⟨b, o, k1, _, k2⟩ := h6.at h
    exact ⟨b, o, k1, fun s hs => (k2 s hs).1⟩)
  (by simp) (toksAt_at hF hqs (by omega)) (ps.length + qs.length + 2) 0 s6 (by omega) (.refl _)
 rw [hnl] at this
 exact this
theorem LexJoins_args {st : St} (hv : VOk st) (args : List Value) (h : WVs pg st [41, 41] args) : Ok (K.go (.call n_refinerylaw04_LexJoins args) st) fun r => r.1 = .bool true := by
 match args, h with
 | [v0, v1], ⟨h0, h1, _⟩ =>
   obtain ⟨pa, ha⟩ := pieces_of h0
   obtain ⟨pb, hb⟩ := pieces_of h1
   exact LexJoins_ok hF hv ha hb
end Go.Proofs.YtefdkodjpcabmaaDoor.Sh
