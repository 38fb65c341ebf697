/-
  The reader's functions: fail, is, take, lines, below, word, Find.
-/
import Derived.Test.YtdjfndijbnpkpaaDoorPa0
import Derived.Test.YtdjfndijbnpkpaaDoorLx4
set_option linter.unusedVariables false
set_option linter.unusedSimpArgs false
set_option linter.unusedSectionVars false
set_option maxRecDepth 100000
namespace Go.Proofs.YtdjfndijbnpkpaaDoor.Sh
open Go Go.AM Go.Proofs Go.AM.Lx
structure Keep (rb : Nat) (st st' : St) : Prop where
 next : st.next ≤ st'.next
 ro : st'.ro = st.ro
 get : ∀ id, id < st.next → id ≠ rb → st'.get id = st.get id
theorem Keep.refl (rb : Nat) (st : St) : Keep rb st st := ⟨Nat.le_refl _, rfl, fun _ _ _ => rfl⟩
theorem Keep.trans {rb : Nat} {a b c : St} (h : Keep rb a b) (k : Keep rb b c) : Keep rb a c :=
 ⟨Nat.le_trans h.next k.next, k.ro.trans h.ro, fun id hi hn => (k.get id (Nat.lt_of_lt_of_le hi h.next) hn).trans (h.get id hi hn)⟩
theorem _root_.Go.AM.Ext.keep {a b : St} (h : Ext a b) (rb : Nat) : Keep rb a b := ⟨h.next, h.ro, fun id hi _ => h.get id hi⟩
theorem Keep.put {rb : Nat} {a b : St} (h : Keep rb a b) (o : AObj) : Keep rb a (b.put rb o) := ⟨h.next, h.ro, fun id hi hn => by rw [get_put, if_neg hn]; exact h.get id hi hn⟩
theorem Keep.ext {rb : Nat} {st0 a b : St} (h : Keep rb a b) (h0 : st0.next ≤ rb) (h1 : st0.next ≤ a.next) : ∀ id, id < st0.next → b.get id = a.get id := fun id hi => h.get id (by omega) (by omega)
structure Toks (st0 : St) (rb : Nat) (vl : Value) (ts : List Tok) : Prop where
 at_ : ∀ (i : Nat) t, ts[i]? = some t → ∃ b o, b < st0.next ∧ b ≠ rb ∧ (∀ s : St, sIxA 4 none vl (I i) s = .ok (P b o, s)) ∧ ∀ s : St, Keep rb st0 s → s.loadN b o 4 = .ok (cTok t) ∧ ∀ k y, (cTok t)[k]? = some y → s.load1 b (o + k) = .ok y
 last : ∀ (i : Nat) t, ts[i]? = some t → (t.kind = 0 ↔ i + 1 = ts.length)
 small : ts.length ≤ 200000
 num : ∀ t ∈ ts, -9223372036854775808 ≤ t.n ∧ t.n ≤ 9223372036854775807
 lt : rb < st0.next
 ro : st0.ro ≤ rb
 cell : cellOk vl = true
 tup : isTuple vl = false
 vars : VOk st0
 old : ∀ p ∈ pvars, p.1 ≠ rb
structure RD (st0 st : St) (rb : Nat) (vl : Value) (ts : List Tok) (s : PS) : Prop where
 keep : Keep rb st0 st
 pos : ∃ i : Nat, st.get rb = some (.cells [vl, I i, I s.at_, I s.err]) ∧ s.rest = ts.drop i ∧ i < ts.length
section
variable {st0 st : St} {rb : Nat} {vl : Value} {ts : List Tok} {s : PS}
theorem RD.mono {st' : St} (h : RD st0 st rb vl ts s) (hT : Toks st0 rb vl ts) (hE : Ext st st') : RD st0 st' rb vl ts s :=
 ⟨h.keep.trans (hE.keep rb), by
   obtain ⟨i, h1, h2⟩ := h.pos
   exact ⟨i, by rw [hE.get _ (Nat.lt_of_lt_of_le hT.lt h.keep.next)]; exact h1, h2⟩⟩
theorem RD.vars (h : RD st0 st rb vl ts s) (hT : Toks st0 rb vl ts) : VOk st := ⟨Nat.le_trans hT.vars.next h.keep.next, by rw [h.keep.ro]; exact Nat.le_trans hT.vars.ro h.keep.next, fun p hp => by
 rw [h.keep.get _ (Nat.lt_of_lt_of_le (pvars_lt p hp) hT.vars.next) (hT.old p hp)]; exact hT.vars.vars p hp⟩
theorem RD.look (h : RD st0 st rb vl ts s) (hT : Toks st0 rb vl ts) : ∃ (i b o : Nat), st.get rb = some (.cells [vl, I i, I s.at_, I s.err]) ∧ st.load1 rb 0 = .ok vl ∧ st.load1 rb 1 = .ok (I i) ∧ st.load1 rb 2 = .ok (I s.at_) ∧ st.load1 rb 3 = .ok (I s.err) ∧
 (∀ s' : St, sIxA 4 none vl (I i) s' = .ok (P b o, s')) ∧ (∀ s', Keep rb st s' → s'.loadN b o 4 = .ok (cTok s.hd) ∧ ∀ k y, (cTok s.hd)[k]? = some y → s'.load1 b (o + k) = .ok y) ∧ ts[i]? = some s.hd ∧ s.rest = ts.drop i ∧ i < ts.length ∧ s.rest = s.hd :: ts.drop (i + 1) := by
 obtain ⟨i, h1, h2, h3⟩ := h.pos
 have hd : ts[i]? = some s.hd := by
  unfold PS.hd
  rw [h2, List.drop_eq_getElem_cons h3, List.getElem?_eq_getElem h3]
 obtain ⟨b, o, k1, k2, k3, k4⟩ := hT.at_ i _ hd
 refine ⟨i, b, o, h1, load1_eq h1 rfl, load1_eq h1 rfl, load1_eq h1 rfl, load1_eq h1 rfl, k3, fun s' hs => k4 s' (h.keep.trans hs), hd, h2, h3, ?_⟩
 have := List.getElem?_eq_some_iff.1 hd
 rw [h2, List.drop_eq_getElem_cons h3, this.2]
theorem RD.step (h : RD st0 st rb vl ts s) (hT : Toks st0 rb vl ts) {i : Nat} (hg : st.get rb = some (.cells [vl, I i, I s.at_, I s.err])) (hr : s.rest = ts.drop i) (hi : i < ts.length) (hk : s.hd.kind ≠ 0) (hd : ts[i]? = some s.hd) :
 IntKind.i64.wrap ((i : Int) + 1) = ((i + 1 : Nat) : Int) ∧ st.storeN rb 1 [I ((i + 1 : Nat) : Int)] = .ok (st.put rb (.cells [vl, I ((i + 1 : Nat) : Int), I s.at_, I s.err])) ∧ RD st0 (st.put rb (.cells [vl, I ((i + 1 : Nat) : Int), I s.at_, I s.err])) rb vl ts s.adv := by
 have hs := hT.small
 have hro : st.ro ≤ rb := by rw [h.keep.ro]; exact hT.ro
 have hl := hT.last i _ hd
 refine ⟨by rw [wrap_id (by omega)]; omega, by simp [hg, Res.need, hro], h.keep.put _, i + 1, by rw [get_put, if_pos rfl]; rfl, ?_, ?_⟩
 ·show s.rest.tail = _
  rw [hr, List.tail_drop]
 ·have : ¬ i + 1 = ts.length := fun e => hk (hl.2 e)
  omega
theorem sUpd_tokT (t : Tok) (s' : St) : sUpd 4 0 (.agg #[U 0, I 0, T [], I 0]) (vTok t) s' = .ok (vTok t, s') := sUpd_tok0 s' t
@[simp] theorem sNilc_P' (b o : Nat) (st : St) : sNilc (P b o) st = .ok (P b o, st) := rfl
end
theorem callR {st0 st st1 : St} {rb : Nat} {vl : Value} {ts : List Tok} {s : PS} {v : Value} {R : Type} {x : Res (Value × St)} {f : Value × St → Res R} {Q : R → Prop} (h : Ok x fun r => r.1 = v ∧ Keep rb st r.2 ∧ RD st0 r.2 rb vl ts s) (k : ∀ s', Keep rb st s' → RD st0 s' rb vl ts s → Ok (f (v, s')) Q) : Ok (Res.thn st1 x f) Q :=
 h.thn fun ⟨r1, r2⟩ ⟨e1, e2, e3⟩ => by
  simp only at e1 e2 e3
  subst e1
  exact k r2 e2 e3
variable {K : Ctx} (hF : Fix pgF K)
include hF
section
variable {st0 st : St} {rb : Nat} {vl : Value} {ts : List Tok} {s : PS}
theorem fail_ok (hT : Toks st0 rb vl ts) (h : RD st0 st rb vl ts s) (e : Int) : Ok (K.go (.call n_parse_reader_fail [P rb 0, I e]) st) fun r => r.1 = .tuple #[] ∧ Keep rb st r.2 ∧ RD st0 r.2 rb vl ts (s.fail e) := by
 refine parse_reader_fail_of hF fun J hJ => ?_
 rw [parse_reader_fail_eq]
 obtain ⟨i, b, o, hg, l0, l1, l2, l3, k1, k2, hd, hr, hi, _⟩ := h.look hT
 have la : st.load1 b (o + 1) = .ok (I s.hd.at_) := (k2 st (.refl _ _)).2 1 _ rfl
 have hro : st.ro ≤ rb := by rw [h.keep.ro]; exact hT.ro
 unfold PS.fail
 by_cases c : s.err = 0
 ·have t1 : st.storeN rb 2 [I s.hd.at_] = .ok (st.put rb (.cells [vl, I i, I s.hd.at_, I s.err])) := by simp [hg, Res.need, hro]
  have t2 : (st.put rb (.cells [vl, I i, I s.hd.at_, I s.err])).storeN rb 3 [I e] = .ok ((st.put rb (.cells [vl, I i, I s.hd.at_, I s.err])).put rb (.cells [vl, I i, I s.hd.at_, I e])) := by simp [Res.need, hro]
  simp only [sNilc_P', thn_ok, sOff_eq, Nat.zero_add, sLoad1, l3, Res.bind_ok, sEql, decide_eq_true c, condX_eq, cond_true, l0, l1, k1, la, sStore_int, decide_true, Res.need_true, t1, t2, if_pos c]
  exact ⟨_, rfl, rfl, ((Keep.refl rb st).put _).put _, (h.keep.put _).put _, i, by rw [get_put, if_pos rfl], hr, hi⟩
 ·simp only [sNilc_P', thn_ok, sOff_eq, Nat.zero_add, sLoad1, l3, Res.bind_ok, sEql, decide_eq_false c, condX_eq, cond_false, if_neg c]
  exact ⟨_, rfl, rfl, .refl _ _, h⟩
theorem is_call (hT : Toks st0 rb vl ts) (h : RD st0 st rb vl ts s) (k : Int) (x : List UInt8) : Ok (K.go (.call n_parse_reader_is [P rb 0, U k, T x]) st) fun r => r.1 = B (s.is k x) ∧ Keep rb st r.2 ∧ RD st0 r.2 rb vl ts s := by
 refine parse_reader_is_of hF fun J hJ => ?_
 rw [parse_reader_is_eq]
 obtain ⟨i, b, o, hg, l0, l1, l2, l3, k1, k2, hd, hr, hi, _⟩ := h.look hT
 have la : st.loadN b o 4 = .ok (cTok s.hd) := (k2 st (.refl _ _)).1
 have hv : Value.agg (cTok s.hd).toArray = vTok s.hd := rfl
 have E1 : Ext st st.bump := (Ext.refl st).bump
 have l3' : st.bump.load1 rb 3 = .ok (I s.err) := load1_eq (xs := [vl, I i, I s.at_, I s.err]) (by rw [E1.get _ (Nat.lt_of_lt_of_le hT.lt h.keep.next)]; exact hg) rfl
 have fin : ∀ v, v = B (s.is k x) → Ok (Res.ok (v, st.bump)) fun r : Value × St => r.1 = B (s.is k x) ∧ Keep rb st r.2 ∧ RD st0 r.2 rb vl ts s := fun v e => ⟨_, rfl, e, E1.keep rb, h.mono hT E1⟩
 simp only [sNilc_P', thn_ok, sOff_eq, Nat.zero_add, sLoad1, l0, l1, Res.bind_ok, k1, sLoadN, la, hv, sLnew_eq, sUpd_tok0, sUpd_tokT, l3', sEql, sLref_tok, sField_kind, sField_text, T_bstr]
 by_cases c1 : s.err = 0
 ·by_cases c2 : s.hd.kind = k
  ·by_cases c3 : x = []
   ·simp only [decide_eq_true c1, decide_eq_true c2, decide_eq_true c3, sG_eq, beq_self_eq_true, cond_true, cond_false, thn_ok, sEql, sEql_T, sPick_eq, if_true, show (true == false) = false from rfl]
    refine fin _ ?_; unfold PS.is; simp [c1, c2, c3]
   ·simp only [decide_eq_true c1, decide_eq_true c2, decide_eq_false c3, sG_eq, beq_self_eq_true, cond_true, cond_false, thn_ok, sEql, sEql_T, sPick_eq, if_true, Bool.false_eq_true, if_false]
    refine fin _ ?_; unfold PS.is; simp [c1, c2, c3]
  ·simp only [decide_eq_true c1, decide_eq_false c2, sG_eq, beq_self_eq_true, cond_true, cond_false, thn_ok, sEql, sEql_T, sPick_eq, if_true, Bool.false_eq_true, if_false, show (false == true) = false from rfl, sG_skip]
   refine fin _ ?_; unfold PS.is; simp [c1, c2]
 ·simp only [decide_eq_false c1, sG_eq, beq_self_eq_true, cond_true, cond_false, thn_ok, sEql, sEql_T, sPick_eq, if_true, Bool.false_eq_true, if_false, show (false == true) = false from rfl, sG_skip]
  refine fin _ ?_; unfold PS.is; simp [c1]
theorem take_call (hT : Toks st0 rb vl ts) (h : RD st0 st rb vl ts s) (k : Int) (x : List UInt8) : Ok (K.go (.call n_parse_reader_take [P rb 0, U k, T x]) st) fun r => r.1 = vTok (s.take k x).1 ∧ Keep rb st r.2 ∧ RD st0 r.2 rb vl ts (s.take k x).2 := by
 refine parse_reader_take_of hF fun J hJ => ?_
 rw [parse_reader_take_eq]
 obtain ⟨i, b, o, hg, l0, l1, l2, l3, k1, k2, hd, hr, hi, _⟩ := h.look hT
 have hv : Value.agg (cTok s.hd).toArray = vTok s.hd := rfl
 have E1 : Ext st st.bump := (Ext.refl st).bump
 have E2 : Ext st st.bump.bump := E1.bump
 have hrb := Nat.lt_of_lt_of_le hT.lt h.keep.next
 have hg1 : st.bump.get rb = some (.cells [vl, I i, I s.at_, I s.err]) := by rw [E1.get _ hrb]; exact hg
 have hg2 : st.bump.bump.get rb = some (.cells [vl, I i, I s.at_, I s.err]) := by rw [E2.get _ hrb]; exact hg
 have m0 : st.bump.load1 rb 0 = .ok vl := load1_eq hg1 rfl
 have m1 : st.bump.load1 rb 1 = .ok (I i) := load1_eq hg1 rfl
 have m3 : st.bump.bump.load1 rb 3 = .ok (I s.err) := load1_eq hg2 rfl
 have n1 : st.bump.bump.load1 rb 1 = .ok (I i) := load1_eq hg2 rfl
 have la : st.bump.loadN b o 4 = .ok (cTok s.hd) := (k2 _ (E1.keep rb)).1
 have h2 := h.mono hT E2
 have hu : ∀ t s', sUpd 4 0 (.agg #[U 0, I 0, T [], I 0]) (vTok t) s' = .ok (vTok t, s') := fun t s' => sUpd_tok0 s' t
 simp only [sLnew_eq, sNilc_P', thn_ok, sOff_eq, Nat.zero_add, sLoad1, m0, m1, Res.bind_ok, k1, sLoadN, la, hv, sUpd_tok0, hu, m3, sNeq, sLref_tok, sField_kind, sField_text, T_bstr]
 have bad : s.is k x = false → Ok (Res.thn st.bump.bump (K.go (.call n_parse_reader_fail [P rb 0, I 5]) st.bump.bump) fun p30 => Res.thn p30.2 (sBuild [U 0, I 0, T [], I 0] [] p30.2) fun p31 => Res.thn p31.2 (sUpd 4 0 (.agg #[U 0, I 0, T [], I 0]) p31.1 p31.2) fun p32 => (sField (some 4) 0 p32.1 p32.2 >>= fun p33 => .ok [p33.1]) >>= fun vs => .ok (oneOf vs, p32.2)) fun r => r.1 = vTok (s.take k x).1 ∧ Keep rb st r.2 ∧ RD st0 r.2 rb vl ts (s.take k x).2 := fun hb => by
  refine callR (fail_ok hF hT h2 5) fun s3 K3 R3 => ?_
  have hb2 : sBuild [U 0, I 0, T [], I 0] [] s3 = .ok (vTok (endT 0), s3) := rfl
  simp only [hb2, thn_ok, hu, sField_tok, Res.bind_ok]
  unfold PS.take
  rw [hb]
  exact ⟨_, rfl, rfl, (E2.keep rb).trans K3, R3⟩
 have good : s.is k x = true → s.hd.kind = k → Ok (parse_reader_take_j0 J (P rb 0) (U k) (.agg #[U 0, I 0, T [], I 0]) (vTok s.hd) st.bump.bump) fun r => r.1 = vTok (s.take k x).1 ∧ Keep rb st r.2 ∧ RD st0 r.2 rb vl ts (s.take k x).2 := fun hb hk => by
  rw [parse_reader_take_j0_eq hJ]
  unfold PS.take
  rw [if_pos hb]
  by_cases c : k = 0
  ·simp only [sNeq, decide_eq_true c, Bool.not_true, thn_ok, condX_eq, cond_false, parse_reader_take_j1_eq hJ, sField_tok, hu, Res.bind_ok]
   rw [if_neg (by simp [c])]
   exact ⟨_, rfl, rfl, E2.keep rb, h2⟩
  ·obtain ⟨w1, w2, w3⟩ := h2.step hT hg2 hr hi (by rw [hk]; exact c) hd
   simp only [sNeq, decide_eq_false c, Bool.not_false, thn_ok, condX_eq, cond_true, sNilc_P', sOff_eq, Nat.zero_add, sLoad1, n1, Res.bind_ok, sAdd, w1, sStore_int, decide_true, Res.need_true, w2, parse_reader_take_j1_eq hJ, sField_tok, hu]
   rw [if_pos c]
   exact ⟨_, rfl, rfl, (E2.keep rb).put _, w3⟩
 by_cases c1 : s.err = 0
 ·by_cases c2 : s.hd.kind = k
  ·by_cases c3 : x = []
   ·simp only [decide_eq_true c1, decide_eq_true c2, decide_eq_true c3, Bool.not_true, sG_eq, beq_self_eq_true, cond_true, cond_false, thn_ok, sNeq, sNeq_T, sPick_eq, if_true, Bool.false_eq_true, if_false, show (false == true) = false from rfl, sG_skip, condX_eq]
    exact good (by unfold PS.is; simp [c1, c2, c3]) c2
   ·by_cases c4 : s.hd.text = x
    ·simp only [decide_eq_true c1, decide_eq_true c2, decide_eq_false c3, decide_eq_true c4, Bool.not_true, Bool.not_false, sG_eq, beq_self_eq_true, cond_true, cond_false, thn_ok, sNeq, sNeq_T, sPick_eq, if_true, Bool.false_eq_true, if_false, show (false == true) = false from rfl, sG_skip, condX_eq]
     exact good (by unfold PS.is; simp [c1, c2, c4]) c2
    ·simp only [decide_eq_true c1, decide_eq_true c2, decide_eq_false c3, decide_eq_false c4, Bool.not_true, Bool.not_false, sG_eq, beq_self_eq_true, cond_true, cond_false, thn_ok, sNeq, sNeq_T, sPick_eq, if_true, Bool.false_eq_true, if_false, show (false == true) = false from rfl, sG_skip, condX_eq]
     exact bad (by unfold PS.is; simp [c1, c2, c3, c4])
  ·simp only [decide_eq_true c1, decide_eq_false c2, Bool.not_true, Bool.not_false, sG_eq, beq_self_eq_true, cond_true, cond_false, thn_ok, sNeq, sNeq_T, sPick_eq, if_true, Bool.false_eq_true, if_false, show (true == false) = false from rfl, sG_skip, condX_eq]
   exact bad (by unfold PS.is; simp [c1, c2])
 ·simp only [decide_eq_false c1, Bool.not_false, sG_eq, beq_self_eq_true, cond_true, cond_false, thn_ok, sNeq, sNeq_T, sPick_eq, if_true, Bool.false_eq_true, if_false, show (true == false) = false from rfl, sG_skip, condX_eq]
  exact bad (by unfold PS.is; simp [c1])
end
end Go.Proofs.YtdjfndijbnpkpaaDoor.Sh
