/-
  The reader's functions: lines, below, word, Find.
-/
import Derived.Test.YtdjfndijbnpkpaaDoorPa1
set_option linter.unusedVariables false
set_option linter.unusedSimpArgs false
set_option linter.unusedSectionVars false
set_option maxRecDepth 100000
namespace Go.Proofs.YtdjfndijbnpkpaaDoor.Sh
open Go Go.AM Go.Proofs Go.AM.Lx
theorem PS.lines_step {s : PS} {r : List Tok} (h : s.is 7 [] = true) (hr : s.rest = s.hd :: r) : s.lines = s.adv.lines := by
 unfold PS.is at h
 simp only [Bool.and_eq_true, decide_eq_true_eq] at h
 obtain ⟨h1, h2, _⟩ := h
 unfold PS.lines PS.adv
 simp only [h1, if_true]
 rw [hr, List.dropWhile_cons, if_pos (by simp [h2])]
 rfl
theorem PS.lines_stop {s : PS} {r : List Tok} (h : s.is 7 [] = false) (hr : s.rest = s.hd :: r) : s.lines = s := by
 unfold PS.lines
 by_cases h1 : s.err = 0
 ·have h2 : ¬ s.hd.kind = 7 := fun e => by
   unfold PS.is at h
   simp [h1, e] at h
  rw [if_pos h1, hr, List.dropWhile_cons, if_neg (by simp [h2]), ← hr]
 ·rw [if_neg h1]
theorem PS.is_kind {s : PS} {k : Int} {x : List UInt8} (h : s.is k x = true) : s.hd.kind = k ∧ s.err = 0 := by
 unfold PS.is at h
 simp only [Bool.and_eq_true, decide_eq_true_eq] at h
 exact ⟨h.2.1, h.1⟩
theorem PS.word_kind {s : PS} (h : s.word ≠ []) : s.hd.kind = 1 ∧ s.err = 0 := by
 unfold PS.word at h
 cases e : s.is 1 [] with
 | true => exact is_kind e
 | false => rw [e] at h; exact absurd rfl h
section
variable {st0 st : St} {rb : Nat} {vl : Value} {ts : List Tok} {s : PS}
theorem RD.adv (h : RD st0 st rb vl ts s) (hT : Toks st0 rb vl ts) (hk : s.hd.kind ≠ 0) : ∃ (i : Nat) (st' : St), st.load1 rb 1 = .ok (I i) ∧ IntKind.i64.wrap ((i : Int) + 1) = ((i + 1 : Nat) : Int) ∧ st.storeN rb 1 [I ((i + 1 : Nat) : Int)] = .ok st' ∧ Keep rb st st' ∧ RD st0 st' rb vl ts s.adv ∧ st'.load1 rb 0 = .ok vl ∧ st'.load1 rb 1 = .ok (I ((i + 1 : Nat) : Int)) ∧ ts[i]? = some s.hd ∧ i < ts.length := by
 obtain ⟨i, b, o, hg, l0, l1, l2, l3, k1, k2, hd, hr, hi, _⟩ := h.look hT
 obtain ⟨w1, w2, w3⟩ := h.step hT hg hr hi hk hd
 exact ⟨i, _, l1, w1, w2, (Keep.refl rb st).put _, w3, load1_eq (xs := [vl, I ((i + 1 : Nat) : Int), I s.at_, I s.err]) (by rw [get_put, if_pos rfl]) rfl, load1_eq (xs := [vl, I ((i + 1 : Nat) : Int), I s.at_, I s.err]) (by rw [get_put, if_pos rfl]) rfl, hd, hi⟩
theorem RD.err (h : RD st0 st rb vl ts s) : st.load1 rb 3 = .ok (I s.err) := by
 obtain ⟨i, h1, _⟩ := h.pos
 exact load1_eq h1 rfl
theorem RD.cons (h : RD st0 st rb vl ts s) (hT : Toks st0 rb vl ts) : ∃ r, s.rest = s.hd :: r ∧ s.rest.length ≤ 200000 := by
 obtain ⟨i, b, o, hg, l0, l1, l2, l3, k1, k2, hd, hr, hi, hx⟩ := h.look hT
 have := hT.small
 exact ⟨_, hx, by rw [hr, List.length_drop]; omega⟩
end
variable {K : Ctx} (hF : Fix pgF K)
include hF
section
variable {st0 st : St} {rb : Nat} {vl : Value} {ts : List Tok} {s : PS}
theorem lines_loop {J} (hJ : IsJ K (retK parse_reader_lines_c.results) J) (hT : Toks st0 rb vl ts) : ∀ (n : Nat) (s : PS) (st : St), s.rest.length ≤ n → RD st0 st rb vl ts s → Ok (parse_reader_lines_l0 J (P rb 0) st) fun r => r.1 = .tuple #[] ∧ Keep rb st r.2 ∧ RD st0 r.2 rb vl ts s.lines := by
 intro n
 induction n with
 | zero =>
   intro s st hn h
   obtain ⟨r, hr, _⟩ := h.cons hT
   rw [hr] at hn
   simp at hn
 | succ n ih =>
   intro s st hn h
   refine parse_reader_lines_l0_of hF hJ ?_
   rw [parse_reader_lines_l0_eq, T_bstr]
   refine callR (is_call hF hT h 7 []) fun s1 K1 R1 => ?_
   obtain ⟨r, hr, _⟩ := h.cons hT
   cases c : s.is 7 [] with
   | false =>
     rw [PS.lines_stop c hr]
     simp only [condX_eq, cond_false]
     exact ⟨_, rfl, rfl, K1, R1⟩
   | true =>
     rw [PS.lines_step c hr]
     obtain ⟨i, s2, a1, a2, a3, K2, R2, _⟩ := R1.adv hT (by rw [(PS.is_kind c).1]; decide)
     simp only [condX_eq, cond_true, parse_reader_lines_j0_eq hJ, sNilc_P', thn_ok, sOff_eq, Nat.zero_add, sLoad1, a1, Res.bind_ok, sAdd, a2, sStore_int, decide_true, Res.need_true, a3]
     refine (ih s.adv s2 ?_ R2).mono fun r ⟨e1, e2, e3⟩ => ⟨e1, (K1.trans K2).trans e2, e3⟩
     show s.rest.tail.length ≤ n
     rw [List.length_tail]
     omega
theorem lines_call (hT : Toks st0 rb vl ts) (h : RD st0 st rb vl ts s) : Ok (K.go (.call n_parse_reader_lines [P rb 0]) st) fun r => r.1 = .tuple #[] ∧ Keep rb st r.2 ∧ RD st0 r.2 rb vl ts s.lines := by
 refine parse_reader_lines_of hF fun J hJ => ?_
 rw [parse_reader_lines_eq]
 exact lines_loop hF hJ hT _ s st (Nat.le_refl _) h
theorem below_call (hT : Toks st0 rb vl ts) (h : RD st0 st rb vl ts s) (k most : Int) : Ok (K.go (.call n_parse_reader_below [P rb 0, U k, I most]) st) fun r => r.1 = I (s.below k most).1 ∧ Keep rb st r.2 ∧ RD st0 r.2 rb vl ts (s.below k most).2 := by
 refine parse_reader_below_of hF fun J hJ => ?_
 rw [parse_reader_below_eq]
 obtain ⟨i, b, o, hg, l0, l1, l2, l3, k1, k2, hd, hr, hi, _⟩ := h.look hT
 have la : st.loadN b o 4 = .ok (cTok s.hd) := (k2 st (.refl _ _)).1
 have hv : Value.agg (cTok s.hd).toArray = vTok s.hd := rfl
 have E1 : Ext st st.bump := (Ext.refl st).bump
 simp only [sNilc_P', thn_ok, sOff_eq, Nat.zero_add, sLoad1, l0, l1, Res.bind_ok, k1, sLoadN, la, hv, sLnew_eq, sUpd_tok0, T_bstr, sUpd_tokT]
 refine callR (is_call hF hT (h.mono hT E1) k []) fun s1 K1 R1 => ?_
 have K1' := (E1.keep rb).trans K1
 have tail : ∀ (S : PS) (s2 : St), Keep rb st s2 → RD st0 s2 rb vl ts S → S = (if s.is k [] && decide (most ≤ s.hd.n) then s.fail 2 else s) → Ok (parse_reader_below_j0 J (P rb 0) (U k) (vTok s.hd) s2) fun r => r.1 = I (s.below k most).1 ∧ Keep rb st r.2 ∧ RD st0 r.2 rb vl ts (s.below k most).2 := fun S s2 K2 R2 e => by
  rw [parse_reader_below_j0_eq hJ, T_bstr]
  refine callR (take_call hF hT R2 k []) fun s3 K3 R3 => ?_
  unfold PS.below
  rw [← e]
  have l3 := R3.err
  by_cases c : (S.take k []).2.err = 0
  ·simp only [sNilc_P', thn_ok, sOff_eq, Nat.zero_add, sLoad1, l3, Res.bind_ok, sNeq, decide_eq_true c, Bool.not_true, condX_eq, cond_false, parse_reader_below_j1_eq hJ, sLref_tok, sField_num, if_pos c]
   exact ⟨_, rfl, rfl, K2.trans K3, R3⟩
  ·simp only [sNilc_P', thn_ok, sOff_eq, Nat.zero_add, sLoad1, l3, Res.bind_ok, sNeq, decide_eq_false c, Bool.not_false, condX_eq, cond_true, if_neg c]
   exact ⟨_, rfl, rfl, K2.trans K3, R3⟩
 cases c : s.is k [] with
 | false =>
   simp only [sG_eq, show (false == true) = false from rfl, cond_false, thn_ok, sPick_eq, Bool.false_eq_true, if_false, condX_eq]
   exact tail s s1 K1' R1 (by rw [c]; rfl)
 | true =>
   by_cases c2 : most ≤ s.hd.n
   ·simp only [sG_eq, beq_self_eq_true, cond_true, sLref_tok, sField_num, thn_ok, sGeq, decide_eq_true c2, sPick_eq, if_true, condX_eq]
    refine callR (fail_ok hF hT R1 2) fun s2 K2 R2 => ?_
    exact tail (s.fail 2) s2 (K1'.trans K2) R2 (by rw [c]; simp [c2])
   ·simp only [sG_eq, beq_self_eq_true, cond_true, sLref_tok, sField_num, thn_ok, sGeq, decide_eq_false c2, sPick_eq, if_true, condX_eq, cond_false]
    exact tail s s1 K1' R1 (by rw [c]; simp [c2])
theorem reg_call (hT : Toks st0 rb vl ts) (h : RD st0 st rb vl ts s) : Ok (K.go (.call n_parse_reader_reg [P rb 0]) st) fun r => r.1 = I s.reg.1 ∧ Keep rb st r.2 ∧ RD st0 r.2 rb vl ts s.reg.2 := by
 refine parse_reader_reg_of hF fun J hJ => ?_
 rw [parse_reader_reg_eq]
 refine callR (below_call hF hT h 2 100000) fun s1 K1 R1 => ?_
 exact ⟨_, rfl, rfl, K1, R1⟩
theorem label_call (hT : Toks st0 rb vl ts) (h : RD st0 st rb vl ts s) : Ok (K.go (.call n_parse_reader_label [P rb 0]) st) fun r => r.1 = I s.label.1 ∧ Keep rb st r.2 ∧ RD st0 r.2 rb vl ts s.label.2 := by
 refine parse_reader_label_of hF fun J hJ => ?_
 rw [parse_reader_label_eq]
 refine callR (below_call hF hT h 3 100000) fun s1 K1 R1 => ?_
 exact ⟨_, rfl, rfl, K1, R1⟩
theorem word_call (hT : Toks st0 rb vl ts) (h : RD st0 st rb vl ts s) : Ok (K.go (.call n_parse_reader_word [P rb 0]) st) fun r => r.1 = T s.word ∧ Keep rb st r.2 ∧ RD st0 r.2 rb vl ts s := by
 refine parse_reader_word_of hF fun J hJ => ?_
 rw [parse_reader_word_eq, T_bstr]
 refine callR (is_call hF hT h 1 []) fun s1 K1 R1 => ?_
 obtain ⟨i, b, o, hg, l0, l1, l2, l3, k1, k2, hd, hr, hi, _⟩ := R1.look hT
 have la : s1.load1 b (o + 2) = .ok (T s.hd.text) := (k2 s1 (.refl _ _)).2 2 _ rfl
 unfold PS.word
 cases c : s.is 1 [] with
 | false =>
   simp only [condX_eq, cond_false, parse_reader_word_j0_eq hJ, T_bstr]
   exact ⟨_, rfl, rfl, K1, R1⟩
 | true =>
   simp only [condX_eq, cond_true, sNilc_P', thn_ok, sOff_eq, Nat.zero_add, sLoad1, l0, l1, Res.bind_ok, k1, la]
   exact ⟨_, rfl, rfl, K1, R1⟩
theorem Find_loop {J} (hJ : IsJ K (retK word_Find_c.results) J) (w : List UInt8) (st : St) : ∀ (d i : Nat), i + d = 12 → Ok (word_Find_l0 J (T w) (.agg (opNames.map T).toArray) (I i) st) fun r => r = (.tuple #[U (match findFrom w (opNames.drop i) i with | some n => (n : Int) | none => 0), B (findFrom w (opNames.drop i) i).isSome], st) := by
 have hlen : opNames.length = 12 := rfl
 intro d
 induction d with
 | zero =>
   intro i hi
   refine word_Find_l0_of hF hJ ?_
   rw [word_Find_l0_eq]
   have h1 : ¬ (i : Int) < 12 := by omega
   rw [List.drop_eq_nil_of_le (by omega)]
   simp only [sLss, decide_eq_false h1, thn_ok, condX_eq, cond_false, word_Find_j1_eq hJ]
   exact ⟨_, rfl, rfl⟩
 | succ d ih =>
   intro i hi
   refine word_Find_l0_of hF hJ ?_
   rw [word_Find_l0_eq]
   have h1 : (i : Int) < 12 := by omega
   have hlt : i < opNames.length := by omega
   have hx : sIxV none 1 12 (.agg (opNames.map T).toArray) (I i) st = .ok (T opNames[i], st) := by
    have h1 : (0 : Int) ≤ (i : Int) ∧ (i : Int) < (12 : Nat) := by omega
    have hg : ((opNames.map T).toArray.toList)[i * 1]? = some (T opNames[i]) := by simp [hlt]
    simp only [sIxV, index, if_pos h1, Res.bind_ok, Int.toNat_natCast, AM.part, hg, Res.of_some, Res.pure_eq]
   have hw : IntKind.u8.wrap (i : Int) = i := Go.IntWalk.u8_in _ (by omega)
   have hw2 : IntKind.i64.wrap ((i : Int) + 1) = ((i + 1 : Nat) : Int) := by rw [wrap_id (by omega)]; omega
   rw [List.drop_eq_getElem_cons hlt]
   unfold findFrom
   by_cases c : opNames[i] = w
   ·simp only [sLss, decide_eq_true h1, thn_ok, condX_eq, cond_true, word_Find_j0_eq hJ, hx, sEql_T, decide_eq_true c, sConv_int, hw, if_pos c]
    exact ⟨_, rfl, rfl⟩
   ·simp only [sLss, decide_eq_true h1, thn_ok, condX_eq, cond_true, word_Find_j0_eq hJ, hx, sEql_T, decide_eq_false c, cond_false, word_Find_j2_eq hJ, sAdd, hw2, if_neg c]
    exact ih (i + 1) (by omega)
theorem Find_eq {st : St} (hv : VOk st) (w : List UInt8) : K.go (.call n_word_Find [T w]) st = .ok (.tuple #[U (match findOp w with | some n => (n : Int) | none => 0), B (findOp w).isSome], st) := by
 refine okEq (word_Find_of hF fun J hJ => ?_)
 rw [word_Find_eq]
 have hg := hv.vars (0, .cells (opNames.map T)) (by simp [pvars])
 have hl : st.loadN 0 0 12 = .ok (opNames.map T) := by
  rw [loadN_def, hg]
  rfl
 have hp : (P 0 0 : Value) = P 0 0 := rfl
 simp only [sLoadN, hl, Res.bind_ok, thn_ok]
 exact Find_loop hF hJ w st 12 0 rfl
end
end Go.Proofs.YtdjfndijbnpkpaaDoor.Sh
