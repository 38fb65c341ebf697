/-
  LexReads: whatever it is given, the law's function answers true.
-/
import Derived.Test.YtefdkodjpcabmaaDoorLx7
import Derived.Test.YtefdkodjpcabmaaDoorShL4
set_option linter.unusedVariables false
set_option linter.unusedSimpArgs false
set_option linter.unusedSectionVars false
set_option maxRecDepth 100000
namespace Go.AM.Lx
def GoodT (s : List UInt8) (ts : List Tok) : Prop := ∀ rest, evs (s ++ rest) 0 = ts.map (fun t => (t, (0 : Int))) ++ evs rest s.length
theorem GoodT.nil : GoodT [] [] := fun rest => rfl
theorem GoodT.read {s x : List UInt8} {ts : List Tok} {t : Tok} (h : GoodT s ts) (hr : Reads x t) : GoodT (s ++ (x ++ [32])) (ts ++ [⟨t.kind, s.length, t.text, t.n⟩]) := fun rest => by
 have e : s ++ (x ++ [32]) ++ rest = s ++ (x ++ 32 :: rest) := by simp
 rw [e, h, hr.ok, evs_blank _ _ (by decide)]
 simp [Nat.add_assoc]
theorem GoodT.read2 {s x : List UInt8} {ts : List Tok} {t : Tok} (h : GoodT s ts) (hr : Reads x t) : GoodT (s ++ (x ++ [32, 32])) (ts ++ [⟨t.kind, s.length, t.text, t.n⟩]) := fun rest => by
 have e : s ++ (x ++ [32, 32]) ++ rest = s ++ (x ++ 32 :: (32 :: rest)) := by simp
 rw [e, h, hr.ok, evs_blank _ _ (by decide), evs_blank _ _ (by decide)]
 simp [Nat.add_assoc]
theorem GoodT.note {s : List UInt8} {ts : List Tok} (h : GoodT s ts) : GoodT (s ++ [35, 32, 64, 10]) (ts ++ [⟨7, s.length + 3, [], 0⟩]) := fun rest => by
 have e : s ++ [35, 32, 64, 10] ++ rest = s ++ (35 :: 32 :: 64 :: 10 :: rest) := by simp
 rw [e, h, evs_note _ _ (by decide)]
 have h1 : ((32 :: 64 :: 10 :: rest).dropWhile fun c : UInt8 => decide (c.toNat ≠ 10)) = 10 :: rest := by
  simp [List.dropWhile]
 have h2 : ((32 :: 64 :: 10 :: rest).takeWhile fun c : UInt8 => decide (c.toNat ≠ 10)).length = 2 := by
  simp [List.takeWhile]
 rw [h1, h2, evs_line]
 simp [Nat.add_assoc]
theorem GoodT.split {s : List UInt8} {ts : List Tok} (h : GoodT s ts) (hl : s.length ≤ 100000) : split (events s) = (ts ++ [endT s.length], 0, 0) := by
 have e := h []
 rw [List.append_nil, evs_nil] at e
 unfold events
 rw [if_neg (by omega), e, split_toks, ahead_end]
end Go.AM.Lx
namespace Go.Proofs.YtefdkodjpcabmaaDoor.Sh
open Go Go.AM Go.Proofs Go.AM.Lx
theorem push_tok {n0 : Nat} {st : St} {v : Value} {ts : List Tok} {ids : List Nat} (h : RepSl 4 RTok st v ts ids) (hnd : ids.Nodup) (hid : ∀ id ∈ ids, n0 ≤ id ∧ id < st.next) (hn : n0 ≤ st.next) (hro : st.ro ≤ n0) (hl : ts.length ≤ 1000000) (t : Tok) :
 ∃ v' st' ids', sAppend 4 40 v (Sl st.next 0 1 4) (st.alloc (.cells (cTok t))) = .ok (v', st') ∧ RepSl 4 RTok st' v' (ts ++ [t]) ids' ∧ ids'.Nodup ∧ (∀ id ∈ ids', n0 ≤ id ∧ id < st'.next) ∧ (∀ id, id < n0 → st'.get id = st.get id) ∧ st.next ≤ st'.next ∧ st'.ro = st.ro := by
 obtain ⟨v', s2, ids', hap, own2, nd2, in2, fr, nx2, ro2⟩ := h.push (bytes := 40) (x := t) (cs := cTok t) (is := []) RTok.framed (by decide) ⟨rfl, rfl⟩ rfl (by simp [cTok]) (fun id hid' => by rw [List.append_nil] at hid'; have := hid id hid'; omega) (fun id hid' => by have := hid id hid'; omega) (by simpa using hnd) (by omega)
 refine ⟨v', s2, ids', hap, own2, nd2, fun id hm => ?_, fun id hlt => fr id (by omega) fun hm => by have := hid id hm; omega, by omega, ro2⟩
 rcases in2 id hm with h | h | h
 ·have := hid id h; omega
 ·cases h
 ·omega
theorem lit_tok (t : Tok) (st : St) : sLit 4 1 [U 0, I 0, .string (bstr []), I 0] [(0, 4, vTok t)] st = .ok (Sl st.next 0 1 4, st.alloc (.cells (cTok t))) := rfl
structure RI (st0 st : St) (v4 : Value) (s : List UInt8) (ts : List Tok) (ids : List Nat) (j : Nat) : Prop where
 ext : Ext st0 st
 good : GoodT s ts
 sl : s.length ≤ 30 * j
 tl : ts.length ≤ 2 * j
 rep : RepSl 4 RTok st v4 ts ids
 nd : ids.Nodup
 fresh : ∀ id ∈ ids, st0.next ≤ id ∧ id < st.next
theorem RI.push {st0 st : St} {v4 : Value} {s s' : List UInt8} {ts : List Tok} {ids : List Nat} (hro : st0.ro ≤ st0.next) (hE : Ext st0 st) (rep : RepSl 4 RTok st v4 ts ids) (nd : ids.Nodup) (fresh : ∀ id ∈ ids, st0.next ≤ id ∧ id < st.next) (hl : ts.length ≤ 1000000) (t : Tok) :
 ∃ v' st' ids', sAppend 4 40 v4 (Sl st.next 0 1 4) (st.alloc (.cells (cTok t))) = .ok (v', st') ∧ Ext st0 st' ∧ RepSl 4 RTok st' v' (ts ++ [t]) ids' ∧ ids'.Nodup ∧ (∀ id ∈ ids', st0.next ≤ id ∧ id < st'.next) := by
 obtain ⟨v', st', ids', h1, h2, h3, h4, h5, h6, h7⟩ := push_tok rep nd fresh hE.next (by rw [hE.ro]; exact hro) hl t
 exact ⟨v', st', ids', h1, ⟨Nat.le_trans hE.next h6, h7.trans hE.ro, fun id hid => (h5 id hid).trans (hE.get id hid)⟩, h2, h3, h4⟩
variable {K : Ctx} (hF : Fix pgF K)
include hF
theorem Reads_loop {J} (hJ : IsJ K (retK refinerylaw04_LexReads_c.results) J) {st0 : St} {v : Value} {l : List Pc} (hR : RSl (Bel st0.next) st0 3 RPc v l) (hro : st0.ro ≤ st0.next) (hlen : l.length ≤ 1000) {Q : Value × St → Prop}
 (hfin : ∀ v4 s ts ids st, RI st0 st v4 s ts ids l.length → Ok (refinerylaw04_LexReads_j3 J (T s) v4 st) Q) : ∀ (d j : Nat) (v4 : Value) (s : List UInt8) (ts : List Tok) (ids : List Nat) (st : St), j + d = l.length → RI st0 st v4 s ts ids j →
 Ok (refinerylaw04_LexReads_l0 J (T s) v4 v (I l.length) (I j) st) Q := by
 intro d
 induction d with
 | zero =>
   intro j v4 s ts ids st hj h
   refine refinerylaw04_LexReads_l0_of hF hJ ?_
   rw [refinerylaw04_LexReads_l0_eq]
   have h1 : ¬ (j : Int) < (l.length : Nat) := by omega
   simp only [sLss, decide_eq_false h1, thn_ok, condX_eq, cond_false]
   have : j = l.length := by omega
   subst this
   exact hfin _ _ _ _ _ h
 | succ d ih =>
   intro j v4 s ts ids st hj h
   refine refinerylaw04_LexReads_l0_of hF hJ ?_
   rw [refinerylaw04_LexReads_l0_eq]
   have hlt : j < l.length := by omega
   have h1 : (j : Int) < (l.length : Nat) := by omega
   obtain ⟨b, o, cs, k1, k2, ⟨rfl, hp⟩, -⟩ := hR.at (List.getElem?_eq_getElem hlt)
   generalize l[j] = p at *
   have hsl := h.sl
   have htl := h.tl
   have k2 := k2 st (h.ext.agree fun _ h => h)
   have hv : Value.agg (cPc p).toArray = vP p := rfl
   simp only [sLss, decide_eq_true h1, thn_ok, condX_eq, cond_true, refinerylaw04_LexReads_j2_eq hJ, k1, sLoadN, k2, Res.bind_ok, hv, sLnew_eq, sUpd_pc, sField_pc]
   rw [vP_eq]
   refine (Token_ok hF hp.k hp.n (st := st.bump) (by have := h.ext.roOk hro; simp; omega)).thn fun r ⟨x, t, e1, e2, e3, e4⟩ => ?_
   rw [e1]
   have hx := e3.len
   have E3 : Ext st r.2.bump := ((Ext.refl st).bump.trans e4).bump
   have n3 := E3.next
   generalize hs3 : r.2.bump = s3 at *
   have hat : ∀ s', sUpd 1 1 (vTok t) (I s.length) s' = .ok (vTok ⟨t.kind, s.length, t.text, t.n⟩, s') := fun s' => by simp [vTok, cTok, Res.need]
   have rep3 := h.rep.frame (st' := s3) RTok.framed fun id hid => E3.get _ (h.fresh id hid).2
   have fr3 : ∀ id ∈ ids, st0.next ≤ id ∧ id < s3.next := fun id hid => by have := h.fresh id hid; omega
   obtain ⟨v5, s4, ids4, ap4, E4, rep4, nd4, fr4⟩ := RI.push (s := s) (s' := s) hro (h.ext.trans E3) rep3 h.nd fr3 (by omega) ⟨t.kind, s.length, t.text, t.n⟩
   have hg3 : p.g.tmod 3 = p.g % 3 := Int.tmod_eq_emod_of_nonneg hp.g.1
   have hg7 : p.g.tmod 7 = p.g % 7 := Int.tmod_eq_emod_of_nonneg hp.g.1
   obtain ⟨gi, hgi, hgi3⟩ : ∃ m : Nat, p.g % 3 = m ∧ m < 3 := ⟨(p.g % 3).toNat, by omega, by omega⟩
   have hlit : sLit 1 3 [.string (bstr []), .string (bstr []), .string (bstr [])] [(0, 1, .string (bstr [32])), (1, 1, .string (bstr [32, 32])), (2, 1, .string (bstr [32]))] s4 = .ok (.slice (some ⟨s4.next, 0, none⟩) 3 1, s4.alloc (.cells [T [32], T [32, 32], T [32]])) := rfl
   have E5' : Ext st0 (s4.alloc (.cells [T [32], T [32, 32], T [32]])) := E4.alloc _
   have g5 : (s4.alloc (.cells [T [32], T [32, 32], T [32]])).get s4.next = some (.cells [T [32], T [32, 32], T [32]]) := by rw [get_alloc, if_pos rfl]
   have E45 : Ext s4 (s4.alloc (.cells [T [32], T [32, 32], T [32]])) := (Ext.refl s4).alloc _
   generalize hs5 : s4.alloc (.cells [T [32], T [32, 32], T [32]]) = s5 at *
   obtain ⟨gp, hix, hgood, hgl⟩ : ∃ gp : List UInt8, [T [32], T [32, 32], T [32]][gi]? = some (T gp) ∧ GoodT (s ++ (x ++ gp)) (ts ++ [⟨t.kind, s.length, t.text, t.n⟩]) ∧ gp.length ≤ 2 := by
    rcases (show gi = 0 ∨ gi = 1 ∨ gi = 2 by omega) with rfl | rfl | rfl
    ·exact ⟨[32], rfl, h.good.read e3, by simp⟩
    ·exact ⟨[32, 32], rfl, h.good.read2 e3, by simp⟩
    ·exact ⟨[32], rfl, h.good.read e3, by simp⟩
   have hixa : sIxA 1 none (.slice (some ⟨s4.next, 0, none⟩) 3 1) (U (gi : Nat)) s5 = .ok (P s4.next gi, s5) := by
    have h1 : (0 : Int) ≤ ((gi : Nat) : Int) ∧ ((gi : Nat) : Int) < (3 : Nat) := by omega
    simp only [sIxA, index, if_pos h1, decide_true, Res.need_true, Res.bind_ok, Res.pure_eq, Int.toNat_natCast]
    simp
   have hld : s5.load1 s4.next gi = .ok (T gp) := load1_eq g5 hix
   have a1 := sAdd_T x gp s5 (by omega)
   have a2 := sAdd_T s (x ++ gp) s5 (by simp; omega)
   have hw : IntKind.i64.wrap ((j : Int) + 1) = ((j + 1 : Nat) : Int) := by rw [wrap_id (by omega)]; omega
   have q0 : ∀ s, sLref (vPc p.k p.g p.n) s = .ok (nothing, s) := fun s => rfl
   have q1 : ∀ s, sField none 1 (vPc p.k p.g p.n) s = .ok (U p.g, s) := fun s => rfl
   have rep5 := rep4.frame (st' := s5) RTok.framed fun id hid => E45.get _ (fr4 id hid).2
   have n5 := E45.next
   have fr5 : ∀ id ∈ ids4, st0.next ≤ id ∧ id < s5.next := fun id hid => by have := fr4 id hid; omega
   simp only [sExtract_eq, List.getElem?_toArray, List.getElem?_cons_zero, List.getElem?_cons_succ, Res.of_some, Res.bind_ok, thn_ok, sLnew_eq, hs3, sUpd_tok0, sLen_T, sLref_tok, hat, sField_tok, lit_tok, ap4, hlit, q0, q1, sRem _ _ _ (show (3 : Int) ≠ 0 by decide), sRem _ _ _ (show (7 : Int) ≠ 0 by decide), hg3, hg7, hgi, hixa, sLoad1, hld, a1, a2, sEql, condX_eq]
   have hl2 : (s ++ (x ++ gp)).length ≤ 30 * j + 23 := by simp only [List.length_append]; omega
   by_cases c : p.g % 7 = 6
   ·simp only [decide_eq_true c, cond_true, sAdd]
    have w3 : IntKind.i64.wrap (((s ++ (x ++ gp)).length : Int) + 3) = (((s ++ (x ++ gp)).length + 3 : Nat) : Int) := by rw [wrap_id (by omega)]; omega
    have hb : ∀ s', sBuild [U 0, I 0, .string (bstr []), I 0] [(0, 1, U 7), (1, 1, I ((s ++ (x ++ gp)).length + 3 : Nat))] s' = .ok (vTok ⟨7, (s ++ (x ++ gp)).length + 3, [], 0⟩, s') := fun s' => rfl
    obtain ⟨v6, s6, ids6, ap6, E6, rep6, nd6, fr6⟩ := RI.push (s := s) (s' := s) hro E5' rep5 nd4 fr5 (by simp; omega) ⟨7, (s ++ (x ++ gp)).length + 3, [], 0⟩
    have a3 := sAdd_T (s ++ (x ++ gp)) [35, 32, 64, 10] s6 (by simp only [List.length_cons, List.length_nil]; omega)
    have a3' : sBin .add (T (s ++ (x ++ gp))) (.string (bstr [35, 32, 64, 10])) s6 = .ok (T (s ++ (x ++ gp) ++ [35, 32, 64, 10]), s6) := a3
    simp only [w3, thn_ok, hb, lit_tok, ap6, a3', refinerylaw04_LexReads_j4_eq hJ, sAdd, hw]
    exact ih (j + 1) v6 _ _ ids6 s6 (by omega) ⟨E6, hgood.note, by simp only [List.length_append, List.length_cons, List.length_nil] at hl2 ⊢; omega, by simp; omega, rep6, nd6, fr6⟩
   ·simp only [decide_eq_false c, cond_false, refinerylaw04_LexReads_j4_eq hJ, sAdd, hw, thn_ok]
    exact ih (j + 1) v5 _ _ ids4 s5 (by omega) ⟨E5', hgood, by omega, by simp; omega, rep5, nd4, fr5⟩
theorem Reads_cmp {J} (hJ : IsJ K (retK refinerylaw04_LexReads_c.results) J) {s0 : St} {vg vw : Value} {g w : List Tok} (hlw : w.length ≤ 100000)
 (hatg : ∀ (i : Nat) t, g[i]? = some t → ∃ b o, (∀ s : St, sIxA 4 none vg (I i) s = .ok (P b o, s)) ∧ ∀ s : St, Ext s0 s → s.loadN b o 4 = .ok (cTok t))
 (hatw : ∀ (i : Nat) t, w[i]? = some t → ∃ b o, (∀ s : St, sIxA 4 none vw (I i) s = .ok (P b o, s)) ∧ ∀ s : St, Ext s0 s → s.loadN b o 4 = .ok (cTok t))
 (hgw : ∀ (i : Nat), i < w.length → g[i]? = w[i]?) : ∀ (d i : Nat) (st : St), i + d = w.length → Ext s0 st → Ok (refinerylaw04_LexReads_l1 J vg vw (I w.length) (I i) st) fun r => r.1 = B true := by
 intro d
 induction d with
 | zero =>
   intro i st hi hE
   refine refinerylaw04_LexReads_l1_of hF hJ ?_
   rw [refinerylaw04_LexReads_l1_eq]
   have h1 : ¬ (i : Int) < (w.length : Nat) := by omega
   simp [h1, refinerylaw04_LexReads_j7_eq hJ]
 | succ d ih =>
   intro i st hi hE
   refine refinerylaw04_LexReads_l1_of hF hJ ?_
   rw [refinerylaw04_LexReads_l1_eq]
   have hlt : i < w.length := by omega
   have h1 : (i : Int) < (w.length : Nat) := by omega
   have hgi := hgw i hlt
   rw [List.getElem?_eq_getElem hlt] at hgi
   obtain ⟨b, o, k1, k2⟩ := hatw i _ (List.getElem?_eq_getElem hlt)
   obtain ⟨b', o', m1, m2⟩ := hatg i _ hgi
   generalize w[i] = t at *
   have hv : ∀ t : Tok, Value.agg (cTok t).toArray = vTok t := fun t => rfl
   have hw : IntKind.i64.wrap ((i : Int) + 1) = ((i + 1 : Nat) : Int) := by rw [wrap_id (by omega)]; omega
   simp only [sLss, decide_eq_true h1, thn_ok, condX_eq, cond_true, refinerylaw04_LexReads_j6_eq hJ, k1, sLoadN, k2 st hE, Res.bind_ok, hv, sLnew_eq, sUpd_tok0, m1, m2 _ hE.bump, sField_tok, sEq_tok, decide_true, Bool.not_true, cond_false, refinerylaw04_LexReads_j8_eq hJ, sAdd, hw]
   exact ih (i + 1) _ (by omega) hE.bump
theorem LexReads_ok {st : St} (hv : VOk st) {v : Value} {l : List Pc} (hR : RSl (Bel st.next) st 3 RPc v l) : Ok (K.go (.call n_refinerylaw04_LexReads [v]) st) fun r => r.1 = B true := by
 refine refinerylaw04_LexReads_of hF fun J hJ => ?_
 rw [refinerylaw04_LexReads_eq]
 refine (Awake04_ok hF hv).call fun s1 E1 => ?_
 have v1 := hv.mono E1
 simp only [sUn_not, Bool.not_true, thn_ok, condX_eq, cond_false, refinerylaw04_LexReads_j0_eq hJ, hR.len, sGtr]
 by_cases h1 : (60 : Int) < l.length
 ·simp [h1]
 have hR1 : RSl (Bel s1.next) s1 3 RPc v l := hR.mono (fun id h => Nat.lt_of_lt_of_le h E1.next) (E1.agree fun _ h => h) fun _ _ _ h => h
 simp only [decide_eq_false h1, cond_false, refinerylaw04_LexReads_j1_eq hJ, hR.len, thn_ok, T_bstr]
 refine Reads_loop hF hJ hR1 v1.ro (by omega) (Q := fun r => r.1 = B true) (fun v4 s ts ids st2 h => ?_) l.length 0 _ [] [] [] s1 (by omega) ⟨.refl _, GoodT.nil, by simp, by simp, RepSl.nil _, List.nodup_nil, by simp⟩
 rw [refinerylaw04_LexReads_j3_eq hJ]
 have v2 := v1.mono h.ext
 have hsl := h.sl
 have htl := h.tl
 refine Split_thn hF (by unfold Short; omega) v2 fun vg s4 ig h4 => ?_
 rw [h.good.split (by omega)] at *
 have rep4 := h.rep.frame (st' := s4) RTok.framed fun id hid => h4.ext.get _ (h.fresh id hid).2
 have eg : ∀ s', sLen .slice vg s' = .ok (I ((ts.length + 1 : Nat) : Int), s') := fun s' => by rw [h4.len]; simp
 have ew : ∀ s', sLen .slice v4 s' = .ok (I (ts.length : Nat), s') := rep4.len
 have hw : IntKind.i64.wrap ((ts.length : Int) + 1) = ((ts.length + 1 : Nat) : Int) := by rw [wrap_id (by omega)]; omega
 obtain ⟨b, o, k1, kb, k2⟩ := h4.at (i := ts.length) (t := endT s.length) (by simp)
 have k2 := (k2 s4 (.refl _)).1
 have hv' : ∀ t : Tok, Value.agg (cTok t).toArray = vTok t := fun t => rfl
 have hb : ∀ s', sBuild [U 0, I 0, .string (bstr []), I 0] [(1, 1, I s.length)] s' = .ok (vTok (endT s.length), s') := fun s' => rfl
 have z0 : decide (((0 : Nat) : Int) = 0) = true := rfl
 simp only [sExtract_eq, List.getElem?_toArray, List.getElem?_cons_zero, List.getElem?_cons_succ, Res.of_some, Res.bind_ok, thn_ok, sNeq, z0, decide_true, Bool.not_true, sG_eq, beq_self_eq_true, cond_true, sPick_eq, Bool.false_eq_true, if_false, eg, ew, sAdd, hw, k1, sLoadN, k2, hv', sLen_T, hb, sEq_tok, condX_eq, cond_false, refinerylaw04_LexReads_j5_eq hJ]
 refine Reads_cmp hF hJ (s0 := s4) (g := ts ++ [endT s.length]) (w := ts) (by omega) (fun i t ht => ?_) (fun i t ht => ?_) (fun i hi => by rw [List.getElem?_append_left hi]) ts.length 0 s4 (by omega) (.refl _)
 ·obtain ⟨b, o, k1, _, k2⟩ := h4.at ht
  exact ⟨b, o, k1, fun s hs => (k2 s hs).1⟩
 ·obtain ⟨b, cs, is, h1, h2, h3, h5, ⟨rfl, rfl⟩, h6, h7, h8⟩ := rep4.at ht
  have hb := h.fresh b h2
  have hn := h4.ext.next
  exact ⟨b, i * 4, h1, fun s hs => h5 s (hs.get _ (by omega))⟩
theorem LexReads_args {st : St} (hv : VOk st) (args : List Value) (h : WVs pg st [41] args) : Ok (K.go (.call n_refinerylaw04_LexReads args) st) fun r => r.1 = .bool true := by
 match args, h with
 | [v0], ⟨h0, _⟩ =>
   obtain ⟨pa, ha⟩ := pieces_of h0
   exact LexReads_ok hF hv ha
end Go.Proofs.YtefdkodjpcabmaaDoor.Sh
