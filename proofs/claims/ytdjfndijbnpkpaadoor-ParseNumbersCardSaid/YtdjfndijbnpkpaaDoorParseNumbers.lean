/-
  ParseNumbers: whatever it is given, the law's function answers true.
-/
import Derived.Test.YtdjfndijbnpkpaaDoorPa7
import Derived.Test.YtdjfndijbnpkpaaDoorShL8
set_option linter.unusedVariables false
set_option linter.unusedSimpArgs false
set_option linter.unusedSectionVars false
set_option maxRecDepth 100000
namespace Go.Proofs.YtdjfndijbnpkpaaDoor.Sh
open Go Go.AM Go.Proofs Go.AM.Lx
def enum : List Int → Nat → List (Int × Int)
 | [], _ => []
 | n :: l, i => ((i : Int), n) :: enum l (i + 1)
theorem enum_len : ∀ (l : List Int) (i : Nat), (enum l i).length = l.length := by
 intro l
 induction l with
 | nil => intro i; rfl
 | cons n l ih => intro i; simp [enum, ih]
theorem enum_snoc : ∀ (l : List Int) (i : Nat) (n : Int), enum (l ++ [n]) i = enum l i ++ [(((i + l.length : Nat) : Int), n)] := by
 intro l
 induction l with
 | nil => intro i n; simp [enum]
 | cons m l ih =>
   intro i n
   simp only [List.cons_append, enum, ih, List.length_cons]
   congr 3
   simp; omega
theorem enum_mem : ∀ (l : List Int) (i : Nat), ∀ p ∈ enum l i, (i : Int) ≤ p.1 ∧ p.1 < i + l.length := by
 intro l
 induction l with
 | nil => intro i p hp; cases hp
 | cons n l ih =>
   intro i p hp
   rcases List.mem_cons.1 hp with rfl | hp
   ·simp; omega
   ·have := ih (i + 1) p hp
    simp at this ⊢; omega
def setI (p : Int × Int) : Instr := ⟨0, 0, p.1, 0, 0, p.2, 0⟩
structure NI (st0 st : St) (s : List UInt8) (vi : Value) (l : List Int) (ids : List Nat) : Prop where
 ext : Ext st0 st
 txt : ∃ (t1 t2 t3 : Tok) (ls : List (List Tok)), GoodT s (t1 :: t2 :: t3 :: ls.flatten) ∧ t1.kind = 3 ∧ t1.n = 7 ∧ t2.kind = 6 ∧ t2.text = [58] ∧ t3.kind = 7 ∧ ls.length = l.length ∧ ∀ (j : Nat) p x, (enum l 0)[j]? = some p → ls[j]? = some x → PS.SetT p.1 p.2 x
 len : s.length ≤ 10 + 60 * l.length
 rep : RepSl 7 PInstr st vi ((enum l 0).map setI) ids
 mine : Mine st0.next st ids
variable {K : Ctx} (hF : Fix pgF K)
include hF
theorem Numbers_loop {J} (hJ : IsJ K (retK refinerylaw05_ParseNumbers_c.results) J) {st0 : St} {v : Value} {l : List Int} (hR : RSl (Bel st0.next) st0 1 (fun cs n => cs = [I n]) v l) (hb : ∀ n ∈ l, -9223372036854775808 ≤ n ∧ n ≤ 9223372036854775807) (hro : st0.ro ≤ st0.next) (hlen : l.length ≤ 100) {Q : Value × St → Prop}
 (hfin : ∀ s vi ids st, NI st0 st s vi l ids → Ok (refinerylaw05_ParseNumbers_j3 J (T s) (vB 7 (.slice none 0 0) vi ⟨3, 0, 0, 0⟩) st) Q) : ∀ (d j : Nat) (s : List UInt8) (vi : Value) (ids : List Nat) (st : St), j + d = l.length → NI st0 st s vi (l.take j) ids →
 Ok (refinerylaw05_ParseNumbers_l0 J (T s) (vB 7 (.slice none 0 0) vi ⟨3, 0, 0, 0⟩) v (I l.length) (I j) st) Q := by
 intro d
 induction d with
 | zero =>
   intro j s vi ids st hj h
   refine refinerylaw05_ParseNumbers_l0_of hF hJ ?_
   rw [refinerylaw05_ParseNumbers_l0_eq]
   have h1 : ¬ (j : Int) < (l.length : Nat) := by omega
   simp only [sLss, decide_eq_false h1, thn_ok, condX_eq, cond_false]
   rw [List.take_of_length_le (by omega)] at h
   exact hfin _ _ _ _ h
 | succ d ih =>
   intro j s vi ids st hj h
   refine refinerylaw05_ParseNumbers_l0_of hF hJ ?_
   rw [refinerylaw05_ParseNumbers_l0_eq]
   have hlt : j < l.length := by omega
   have h1 : (j : Int) < (l.length : Nat) := by omega
   obtain ⟨b, o, k1, k2, _⟩ := hR.at1 (f := fun n => I n) (List.getElem?_eq_getElem hlt)
   have hn := hb _ (List.getElem_mem hlt)
   have htake : l.take (j + 1) = l.take j ++ [l[j]] := List.take_succ_eq_append_getElem hlt
   generalize l[j] = n at *
   have k2 := k2 st (h.ext.agree fun _ h => h)
   have hjl : (l.take j).length = j := by rw [List.length_take]; omega
   simp only [sLss, decide_eq_true h1, thn_ok, condX_eq, cond_true, refinerylaw05_ParseNumbers_j2_eq hJ, k1, sLoad1, k2, Res.bind_ok]
   refine (reg05 hF (n := (j : Int)) (by omega) (h.ext.roOk hro)).call fun s1 E1 => ?_
   have l1 := itoa_len (n := (j : Int)) (by omega)
   have l2 := itoa_len hn
   have a1 := sAdd_T (37 :: Lib.itoa j) [32, 61, 32] s1 (by simp; omega)
   simp only [T_bstr, a1, thn_ok]
   refine (num05 hF hn ((h.ext.trans E1).roOk hro)).call fun s2 E2 => ?_
   have X2 := (h.ext.trans E1).trans E2
   have E12 := E1.trans E2
   have a2 := sAdd_T (37 :: Lib.itoa j ++ [32, 61, 32]) (Lib.itoa n) s2 (by simp; omega)
   have a3 := sAdd_T (37 :: Lib.itoa j ++ [32, 61, 32] ++ Lib.itoa n) [10] s2 (by simp; omega)
   have hsl := h.len
   rw [hjl] at hsl
   have a4 := sAdd_T s (37 :: Lib.itoa j ++ [32, 61, 32] ++ Lib.itoa n ++ [10]) s2 (by simp; omega)
   have hbl : ∀ s', sBuild [U 0, U 0, I 0, I 0, I 0, I 0, I 0] [(2, 1, I j), (5, 1, I n)] s' = .ok (vI (setI (j, n)), s') := fun s' => rfl
   have hm := h.mine
   have rep2 := h.rep.frame (st' := s2) PInstr.fr fun id hid => E12.get _ (hm.at_ id hid).2
   have hm2 := hm.mono E12.next
   obtain ⟨v', s5, ids', ap, r5, nd5, at5, fr5, nx5, ro5⟩ := push_own (bytes := 48) (n0 := st0.next) (x := setI (j, n)) (cs := cI (setI (j, n))) (is := []) PInstr.fr rep2 (by decide) ⟨rfl, rfl⟩ rfl (by simp [cI]) (by simpa using hm2.nd) (by simpa using hm2.at_) X2.next (by rw [X2.ro]; exact hro) (by simp [enum_len, hjl]; omega)
   have hw : IntKind.i64.wrap ((j : Int) + 1) = ((j + 1 : Nat) : Int) := by rw [wrap_id (by omega)]; omega
   simp only [a2, a3, a4, thn_ok, sLref_vB, sField_vB2, hbl, sLit_vI, ap, sUpd_vBi _ _ _ _ _ r5.cell r5.tup r5.cells, refinerylaw05_ParseNumbers_j4_eq hJ, sAdd, hw]
   obtain ⟨t1, t2, t3, ls, hg, q1, q2, q3, q4, q5, q6, q7⟩ := h.txt
   obtain ⟨x, hx, hg2⟩ := good_set hg (i := j) (n := n) (by omega) hn
   have hen : enum (l.take (j + 1)) 0 = enum (l.take j) 0 ++ [((j : Int), n)] := by rw [htake, enum_snoc, hjl, Nat.zero_add]
   have hel : (enum (l.take j) 0).length = j := by rw [enum_len, hjl]
   refine ih (j + 1) _ v' ids' s5 (by omega) ⟨⟨Nat.le_trans X2.next nx5, ro5.trans X2.ro, fun id hid => (fr5 id hid).trans (X2.get id hid)⟩, ⟨t1, t2, t3, ls ++ [x], ?_, q1, q2, q3, q4, q5, ?_, ?_⟩, ?_, ?_, ⟨nd5, at5⟩⟩
   ·have e : t1 :: t2 :: t3 :: (ls ++ [x]).flatten = (t1 :: t2 :: t3 :: ls.flatten) ++ x := by simp
    rw [e]
    exact hg2
   ·rw [htake]; simp [q6]
   ·intro i p y hp hy
    rw [hen] at hp
    rw [List.getElem?_append] at hp hy
    rw [hel] at hp
    rw [q6, hjl] at hy
    split at hp
    ·rename_i hij
     rw [if_pos hij] at hy
     exact q7 i p y hp hy
    ·rename_i hij
     rw [if_neg hij] at hy
     have : i - j = 0 := by
      have := (List.getElem?_eq_some_iff.1 hp).1
      simp at this; omega
     rw [this] at hp hy
     cases hp; cases hy
     exact hx
   ·rw [htake]; simp [hjl]; omega
   ·rw [hen, List.map_append]; exact r5
theorem ParseNumbers_ok {st : St} (hv : VOk st) {v : Value} {l : List Int} (hR : RSl (Bel st.next) st 1 (fun cs n => cs = [I n]) v l) (hb : ∀ n ∈ l, -9223372036854775808 ≤ n ∧ n ≤ 9223372036854775807) : Ok (K.go (.call n_refinerylaw05_ParseNumbers [v]) st) fun r => r.1 = B true := by
 refine refinerylaw05_ParseNumbers_of hF fun J hJ => ?_
 rw [refinerylaw05_ParseNumbers_eq]
 refine (Awake05_ok hF hv).call fun s1 E1 => ?_
 have v1 := hv.mono E1
 simp only [sUn_not, Bool.not_true, thn_ok, condX_eq, cond_false, refinerylaw05_ParseNumbers_j0_eq hJ, hR.len, sGtr]
 by_cases h1 : (40 : Int) < l.length
 ·simp [h1]
 have hb1 : ∀ s', sBuild [U 0, I 0, I 0, I 0] [(0, 1, U 3)] s' = .ok (vL ⟨3, 0, 0, 0⟩, s') := fun s' => rfl
 have hb2 : ∀ s', sBuild [I 0, .slice none 0 0, .slice none 0 0, U 0, I 0, I 0, I 0] [(0, 1, I 7), (3, 4, vL ⟨3, 0, 0, 0⟩)] s' = .ok (vB 7 (.slice none 0 0) (.slice none 0 0) ⟨3, 0, 0, 0⟩, s') := fun s' => rfl
 have hu : ∀ s', sUpd 7 0 (.agg #[I 0, .slice none 0 0, .slice none 0 0, U 0, I 0, I 0, I 0]) (vB 7 (.slice none 0 0) (.slice none 0 0) ⟨3, 0, 0, 0⟩) s' = .ok (vB 7 (.slice none 0 0) (.slice none 0 0) ⟨3, 0, 0, 0⟩, s') := fun s' => by simp [vB, Res.need]
 have E2 : Ext s1 s1.bump := (Ext.refl s1).bump
 have X2 := E1.trans E2
 have hR1 : RSl (Bel s1.bump.next) s1.bump 1 (fun cs n => cs = [I n]) v l := hR.mono (fun id h => Nat.lt_of_lt_of_le h X2.next) (X2.agree fun _ h => h) fun _ _ _ h => h
 simp only [decide_eq_false h1, cond_false, refinerylaw05_ParseNumbers_j1_eq hJ, hb1, hb2, thn_ok, sLnew_eq, hu, hR.len, T_bstr]
 have v2 := v1.mono E2
 obtain ⟨t1, t2, t3, hg, h1', h2, h3, h4, h5⟩ := good_head (b := 7) (by decide)
 have e0 : (64 :: Lib.decDigits 7 ++ [58, 10] : List UInt8) = [64, 55, 58, 10] := by rw [Lib.decDigits]; rfl
 rw [e0] at hg
 refine Numbers_loop hF hJ hR1 hb v2.ro (by omega) (Q := fun r => r.1 = B true) (fun s vi ids st2 h => ?_) l.length 0 _ _ [] s1.bump (by omega) ⟨.refl _, ⟨t1, t2, t3, [], hg, h1', h2, h3, h4, h5, rfl, by simp⟩, by simp, by simp [enum]; exact RepSl.nil _, ⟨List.nodup_nil, by simp⟩⟩
 rw [refinerylaw05_ParseNumbers_j3_eq hJ]
 obtain ⟨t1, t2, t3, ls, hg, q1, q2, q3, q4, q5, q6, q7⟩ := h.txt
 have hsl := h.len
 have a1 := sAdd_T s wTrap st2 (by simp [wTrap]; omega)
 have a1' : sBin .add (T s) (T [116, 114, 97, 112]) st2 = .ok (T (s ++ wTrap), st2) := a1
 have v3 := v2.mono h.ext
 have hmem := enum_mem l 0
 have hp := Parse_sets hF (s := s) (ls := ls) (ns := enum l 0) (b := 7) (by omega) hg (by omega) q1 q2 q3 q4 q5 (fun p hp => by have := hmem p hp; simp at this; omega) (by rw [q6, enum_len]) (by rw [enum_len]; omega) q7 v3
 simp only [T_bstr, a1', thn_ok]
 refine hp.thn fun ⟨r1, s4⟩ ⟨vp, is, e1, e2, e3, e4⟩ => ?_
 simp only at e1 e2 e3 e4
 subst e1
 have E5 : Ext s4 s4.bump := (Ext.refl s4).bump
 have hup : ∀ s', sUpd 1 0 (.agg #[.slice none 0 0]) (.agg #[vp]) s' = .ok (.agg #[vp], s') := fun s' => by simp [Res.need, RepSl.cell e2]
 have hf1 : ∀ s', sField (some 1) 0 (.agg #[vp]) s' = .ok (.agg #[vp], s') := fun s' => rfl
 have z0 : decide ((0 : Int) = 0) = true := rfl
 have hwant : sBuild [.slice none 0 0] [(0, 1, Sl s4.bump.next 0 1 7)] (s4.bump.alloc (.cells (cB 7 (.slice none 0 0) vi ⟨3, 0, 0, 0⟩))) = .ok (.agg #[Sl s4.bump.next 0 1 7], s4.bump.alloc (.cells (cB 7 (.slice none 0 0) vi ⟨3, 0, 0, 0⟩))) := rfl
 have E6 : Ext s4.bump (s4.bump.alloc (.cells (cB 7 (.slice none 0 0) vi ⟨3, 0, 0, 0⟩))) := (Ext.refl _).alloc _
 have g6 : (s4.bump.alloc (.cells (cB 7 (.slice none 0 0) vi ⟨3, 0, 0, 0⟩))).get s4.bump.next = some (.cells (cB 7 (.slice none 0 0) vi ⟨3, 0, 0, 0⟩)) := by rw [get_alloc, if_pos rfl]
 have n6 : (s4.bump.alloc (.cells (cB 7 (.slice none 0 0) vi ⟨3, 0, 0, 0⟩))).next = s4.bump.next + 1 := rfl
 generalize hs6 : (s4.bump.alloc (.cells (cB 7 (.slice none 0 0) vi ⟨3, 0, 0, 0⟩))) = s6 at *
 have hX : Ext st2 s6 := (e4.trans E5).trans E6
 have rp6 : PProg s6 vp [⟨7, [], (enum l 0).map setI, ⟨3, 0, 0, 0⟩⟩] is := e2.frame fun id hid => by
  rw [E6.get _ (Nat.lt_of_lt_of_le (e3.at_ id hid).2 E5.next), E5.get _ (e3.at_ id hid).2]
 have ri6 : RepSl 7 PInstr s6 vi ((enum l 0).map setI) ids := h.rep.frame PInstr.fr fun id hid => hX.get _ (h.mine.at_ id hid).2
 have rw6 : PProg s6 (Sl s4.bump.next 0 1 7) [⟨7, [], (enum l 0).map setI, ⟨3, 0, 0, 0⟩⟩] (s4.bump.next :: ids) := by
  refine .inr ⟨s4.bump.next, [cB 7 (.slice none 0 0) vi ⟨3, 0, 0, 0⟩], [ids], rfl, by rw [g6]; simp, rfl, rfl, ?_, ?_, by simp⟩
  ·intro cs hcs
   rw [List.mem_singleton.1 hcs]
   exact ⟨rfl, by simp [cB, ri6.cell]⟩
  ·intro i x cs is' hx hc hi
   cases i with
   | zero =>
     cases hx; cases hc; cases hi
     exact ⟨.slice none 0 0, vi, [], ids, rfl, RepSl.nil _, ri6, rfl⟩
   | succ i => simp at hx
 have hsame := Same_ok hF (A := fun id => id ∈ is) (A' := fun id => id ∈ s4.bump.next :: ids) (st := s6) (fun id hid => by have := (e3.at_ id hid).2; have := E5.next; omega) (fun id hid => by
  rcases List.mem_cons.1 hid with rfl | hid
  ·omega
  ·have := (h.mine.at_ id hid).2; have := hX.next; omega) rp6.read rw6.read (by simp) (fun b hb => by
   rw [List.mem_singleton.1 hb]
   refine ⟨by simp, by simp [enum_len]; omega, by simp⟩)
 have hv8 : sField (some 7) 0 (vB 7 (.slice none 0 0) vi ⟨3, 0, 0, 0⟩) s4.bump = .ok (vB 7 (.slice none 0 0) vi ⟨3, 0, 0, 0⟩, s4.bump) := rfl
 simp only [sExtract_eq, List.getElem?_toArray, List.getElem?_cons_zero, List.getElem?_cons_succ, Res.of_some, Res.bind_ok, thn_ok, sLnew_eq, hup, sEql, z0, decide_true, sG_eq, beq_self_eq_true, cond_true, sPick_eq, if_true, hf1, hv8, sLit_vB]
 rw [hs6, hwant]
 simp only [thn_ok]
 refine hsame.call fun s7 E7 => ?_
 exact ⟨(B true, s7), by simp, rfl⟩
theorem ParseNumbers_args {st : St} (hv : VOk st) (args : List Value) (h : WVs pg st [61] args) : Ok (K.go (.call n_refinerylaw05_ParseNumbers args) st) fun r => r.1 = .bool true := by
 match args, h with
 | [v0], ⟨h0, _⟩ =>
   obtain ⟨l, hl, _⟩ := h0.rsl Tryd.underlying61 (c := 1) (R := fun cs n => cs = [I n] ∧ -9223372036854775808 ≤ n ∧ n ≤ 9223372036854775807) (by kernel_rfl) fun cs hw => by
    obtain ⟨n, e, w⟩ := hw.getInt Tryd.underlying2
    refine ⟨n, e, ?_⟩
    simpa [Lit.wf, IntKind.min, IntKind.max, IntKind.signed, IntKind.bits] using w
   refine ParseNumbers_ok hF hv (l := l) (hl.mono (fun _ h => h) (Agree.refl _ _) fun _ _ _ h => h.1) fun n hn => ?_
   obtain ⟨i, hi⟩ := List.getElem?_of_mem hn
   rcases hl with ⟨rfl, _⟩ | ⟨b, o, xs, _, _, _, _, h5⟩
   ·cases hn
   ·exact (h5 i n hi).2
end Go.Proofs.YtdjfndijbnpkpaaDoor.Sh
