/-
  The reader's functions: right, instr.
-/
import Derived.Test.YtdjfndijbnpkpaaDoorPa3
set_option linter.unusedVariables false
set_option linter.unusedSimpArgs false
set_option linter.unusedSectionVars false
set_option maxRecDepth 100000
namespace Go.Proofs.YtdjfndijbnpkpaaDoor.Sh
open Go Go.AM Go.Proofs Go.AM.Lx
variable {K : Ctx} (hF : Fix pgF K)
include hF
section
variable {st0 st : St} {rb : Nat} {vl : Value} {ts : List Tok} {s : PS}
theorem findOp_kind (hs : findOp s.word ≠ none) : s.hd.kind = 1 := by
 refine (PS.word_kind fun e => hs ?_).1
 rw [e]
 rfl
theorem right_call (hT : Toks st0 rb vl ts) (h : RD st0 st rb vl ts s) : Ok (K.go (.call n_parse_reader_right [P rb 0]) st) fun r => r.1 = vI s.right.1 ∧ Keep rb st r.2 ∧ RD st0 r.2 rb vl ts s.right.2 := by
 refine parse_reader_right_of hF fun J hJ => ?_
 rw [parse_reader_right_eq]
 have E1 : Ext st st.bump := (Ext.refl st).bump
 have done : ∀ (x : Instr) (S : PS) (s' : St), Keep rb st s' → RD st0 s' rb vl ts S → s.right = (x, S) → Ok (Res.ok (oneOf [vI x], s')) fun r : Value × St => r.1 = vI s.right.1 ∧ Keep rb st r.2 ∧ RD st0 r.2 rb vl ts s.right.2 := fun x S s' k r e => by
  rw [e]
  exact ⟨_, rfl, rfl, k, r⟩
 simp only [sLnew_eq, thn_ok, T_bstr]
 refine callR (is_call hF hT (h.mono hT E1) 5 []) fun s1 K1 R1 => ?_
 have K1 := (E1.keep rb).trans K1
 cases c1 : s.is 5 [] with
 | true =>
   have hk : s.hd.kind ≠ 0 := by rw [(PS.is_kind c1).1]; decide
   obtain ⟨i, s2, a1, a2, a3, K2, R2, b0, b1, hd, hi⟩ := R1.adv hT hk
   obtain ⟨b, o, t1, t2, t3, t4⟩ := hT.at_ i _ hd
   have hsm := hT.small
   have w3 : IntKind.i64.wrap (((i + 1 : Nat) : Int) - 1) = (i : Int) := by rw [wrap_id (by omega)]; omega
   have ln : s2.load1 b (o + 3) = .ok (I s.hd.n) := (t4 s2 R2.keep).2 3 _ rfl
   have e : s.right = (⟨0, 0, 0, 0, 0, s.hd.n, 0⟩, s.adv) := by unfold PS.right; rw [c1]; rfl
   simp only [condX_eq, cond_true, sNilc_P', thn_ok, sOff_eq, Nat.zero_add, sLoad1, a1, Res.bind_ok, sAdd, a2, sStore_int, decide_true, Res.need_true, a3, b0, b1, sSub, w3, t3, ln, bI05, zI_upd, sField_vI]
   exact done _ _ _ (K1.trans K2) R2 e
 | false =>
   simp only [condX_eq, cond_false, parse_reader_right_j0_eq hJ, T_bstr]
   refine callR (is_call hF hT R1 2 []) fun s2 K2 R2 => ?_
   have K2 := K1.trans K2
   cases c2 : s.is 2 [] with
   | true =>
     have e : s.right = (⟨1, 0, 0, s.reg.1, 0, 0, 0⟩, s.reg.2) := by unfold PS.right; rw [c1, c2]; rfl
     simp only [condX_eq, cond_true]
     refine callR (reg_call hF hT R2) fun s3 K3 R3 => ?_
     simp only [bI03, thn_ok, zI_upd, sField_vI, Res.bind_ok]
     exact done _ _ _ (K2.trans K3) R3 e
   | false =>
     simp only [condX_eq, cond_false, parse_reader_right_j1_eq hJ]
     refine callR (word_call hF hT R2) fun s3 K3 R3 => ?_
     have K3 := K2.trans K3
     simp only [Find_eq hF (R3.vars hT), thn_ok, sExtract_eq, List.getElem?_toArray, List.getElem?_cons_zero, List.getElem?_cons_succ, Res.of_some, Res.bind_ok]
     cases c3 : findOp s.word with
     | some op =>
       have hk : s.hd.kind ≠ 0 := by rw [findOp_kind hF (s := s) (by rw [c3]; simp)]; decide
       have e : s.right = (⟨2, op, 0, s.adv.reg.1, (s.adv.reg.2.sign 44).reg.1, 0, 0⟩, (s.adv.reg.2.sign 44).reg.2) := by unfold PS.right; rw [c1, c2, c3]; rfl
       simp only [Option.isSome, condX_eq, cond_true]
       refine advR hF hT R3 hk fun s4 v K4 R4 => ?_
       simp only
       refine callR (reg_call hF hT R4) fun s5 K5 R5 => ?_
       simp only [bI013, thn_ok, sLnew_eq, zI_upd, T_bstr]
       refine callR (take_call hF hT (R5.mono hT (Ext.refl s5).bump) 6 [44]) fun s6 K6 R6 => ?_
       simp only
       refine callR (reg_call hF hT R6) fun s7 K7 R7 => ?_
       simp only [sLref_vI, thn_ok, sUpd_vI_b, sField_vI, zI_upd, Res.bind_ok]
       exact done _ _ _ (((((K3.trans K4).trans K5).trans ((Ext.refl s5).bump.keep rb)).trans K6).trans K7) R7 e
     | none =>
       simp only [Option.isSome, condX_eq, cond_false, parse_reader_right_j2_eq hJ, T_bstr, sEql_T, thn_ok]
       by_cases c4 : s.word = wIn
       ·have hk : s.hd.kind ≠ 0 := by rw [(PS.word_kind (by rw [c4]; decide)).1]; decide
        have e : s.right = (⟨3, 0, 0, 0, 0, 0, 0⟩, s.adv) := by unfold PS.right; rw [c1, c2, c3]; simp [c4]
        simp only [decide_eq_true (show s.word = [105, 110] from c4), cond_true]
        refine advR hF hT R3 hk fun s4 v K4 R4 => ?_
        simp only [bI0, thn_ok, zI_upd, sField_vI, Res.bind_ok]
        exact done _ _ _ (K3.trans K4) R4 e
       ·simp only [decide_eq_false (show ¬ s.word = [105, 110] from c4), cond_false, sEql_T, thn_ok, condX_eq]
        by_cases c5 : s.word = wLoad
        ·have hk : s.hd.kind ≠ 0 := by rw [(PS.word_kind (by rw [c5]; decide)).1]; decide
         have e : s.right = (⟨5, 0, 0, 0, 0, 0, s.adv.slot.1⟩, s.adv.slot.2) := by unfold PS.right; rw [c1, c2, c3]; simp only [Bool.false_eq_true, if_false]; rw [if_neg c4, if_pos c5]
         simp only [decide_eq_true (show s.word = [108, 111, 97, 100] from c5), cond_true]
         refine advR hF hT R3 hk fun s4 v K4 R4 => ?_
         simp only
         refine callR (below_call hF hT R4 4 16) fun s5 K5 R5 => ?_
         simp only [bI06, thn_ok, zI_upd, sField_vI, Res.bind_ok]
         exact done _ _ _ ((K3.trans K4).trans K5) R5 e
        ·simp only [decide_eq_false (show ¬ s.word = [108, 111, 97, 100] from c5), cond_false, sEql_T, thn_ok, condX_eq]
         by_cases c6 : s.word = wGet
         ·have hk : s.hd.kind ≠ 0 := by rw [(PS.word_kind (by rw [c6]; decide)).1]; decide
          have e : s.right = (⟨7, 0, 0, s.adv.reg.1, 0, 0, 0⟩, s.adv.reg.2) := by unfold PS.right; rw [c1, c2, c3]; simp only [Bool.false_eq_true, if_false]; rw [if_neg c4, if_neg c5, if_pos c6]
          simp only [decide_eq_true (show s.word = [103, 101, 116] from c6), cond_true]
          refine advR hF hT R3 hk fun s4 v K4 R4 => ?_
          simp only
          refine callR (reg_call hF hT R4) fun s5 K5 R5 => ?_
          simp only [bI03, thn_ok, zI_upd, sField_vI, Res.bind_ok]
          exact done _ _ _ ((K3.trans K4).trans K5) R5 e
         ·have e : s.right = (⟨0, 0, 0, 0, 0, 0, 0⟩, s.fail 5) := by unfold PS.right; rw [c1, c2, c3]; simp only [Bool.false_eq_true, if_false]; rw [if_neg c4, if_neg c5, if_neg c6]
          simp only [decide_eq_false (show ¬ s.word = [103, 101, 116] from c6), cond_false, parse_reader_right_j3_eq hJ]
          refine callR (fail_ok hF hT R3 5) fun s4 K4 R4 => ?_
          simp only [bI, thn_ok, zI_upd, sField_vI, Res.bind_ok]
          exact done _ _ _ (K3.trans K4) R4 e
theorem instr_call (hT : Toks st0 rb vl ts) (h : RD st0 st rb vl ts s) : Ok (K.go (.call n_parse_reader_instr [P rb 0]) st) fun r => r.1 = vI s.instr.1 ∧ Keep rb st r.2 ∧ RD st0 r.2 rb vl ts s.instr.2 := by
 refine parse_reader_instr_of hF fun J hJ => ?_
 rw [parse_reader_instr_eq]
 have E1 : Ext st st.bump := (Ext.refl st).bump
 have done : ∀ (x : Instr) (S : PS) (s' : St), Keep rb st s' → RD st0 s' rb vl ts S → s.instr = (x, S) → Ok (Res.ok (oneOf [vI x], s')) fun r : Value × St => r.1 = vI s.instr.1 ∧ Keep rb st r.2 ∧ RD st0 r.2 rb vl ts s.instr.2 := fun x S s' k r e => by
  rw [e]
  exact ⟨_, rfl, rfl, k, r⟩
 simp only [sLnew_eq, thn_ok]
 refine callR (word_call hF hT (h.mono hT E1)) fun s1 K1 R1 => ?_
 have K1 := (E1.keep rb).trans K1
 simp only [T_bstr, sEql_T, thn_ok, condX_eq]
 by_cases c1 : s.word = wOut
 ·have hk : s.hd.kind ≠ 0 := by rw [(PS.word_kind (by rw [c1]; decide)).1]; decide
  have e : s.instr = (⟨4, 0, 0, s.adv.reg.1, 0, 0, 0⟩, s.adv.reg.2) := by unfold PS.instr; rw [if_pos c1]
  simp only [decide_eq_true (show s.word = [111, 117, 116] from c1), cond_true]
  refine advR hF hT R1 hk fun s2 v K2 R2 => ?_
  simp only
  refine callR (reg_call hF hT R2) fun s3 K3 R3 => ?_
  simp only [bI03, thn_ok, zI_upd, sField_vI, Res.bind_ok]
  exact done _ _ _ ((K1.trans K2).trans K3) R3 e
 simp only [decide_eq_false (show ¬ s.word = [111, 117, 116] from c1), cond_false, sEql_T, thn_ok, condX_eq]
 by_cases c2 : s.word = wStore
 ·have hk : s.hd.kind ≠ 0 := by rw [(PS.word_kind (by rw [c2]; decide)).1]; decide
  have e : s.instr = (⟨6, 0, 0, (s.adv.slot.2.sign 44).reg.1, 0, 0, s.adv.slot.1⟩, (s.adv.slot.2.sign 44).reg.2) := by unfold PS.instr; rw [if_neg c1, if_pos c2]
  simp only [decide_eq_true (show s.word = [115, 116, 111, 114, 101] from c2), cond_true]
  refine advR hF hT R1 hk fun s2 v K2 R2 => ?_
  simp only
  refine callR (below_call hF hT R2 4 16) fun s3 K3 R3 => ?_
  simp only [bI06, thn_ok, zI_upd, T_bstr]
  refine callR (take_call hF hT (R3.mono hT (Ext.refl s3).bump) 6 [44]) fun s4 K4 R4 => ?_
  simp only
  refine callR (reg_call hF hT R4) fun s5 K5 R5 => ?_
  simp only [sLref_vI, thn_ok, sUpd_vI_a, sField_vI, zI_upd, Res.bind_ok]
  exact done _ _ _ (((((K1.trans K2).trans K3).trans ((Ext.refl s3).bump.keep rb)).trans K4).trans K5) R5 e
 simp only [decide_eq_false (show ¬ s.word = [115, 116, 111, 114, 101] from c2), cond_false, sEql_T, thn_ok, condX_eq]
 by_cases c3 : s.word = wPut
 ·have hk : s.hd.kind ≠ 0 := by rw [(PS.word_kind (by rw [c3]; decide)).1]; decide
  have e : s.instr = (⟨8, 0, 0, s.adv.reg.1, (s.adv.reg.2.sign 44).reg.1, 0, 0⟩, (s.adv.reg.2.sign 44).reg.2) := by unfold PS.instr; rw [if_neg c1, if_neg c2, if_pos c3]
  simp only [decide_eq_true (show s.word = [112, 117, 116] from c3), cond_true]
  refine advR hF hT R1 hk fun s2 v K2 R2 => ?_
  simp only
  refine callR (reg_call hF hT R2) fun s3 K3 R3 => ?_
  simp only [bI03, thn_ok, zI_upd, T_bstr]
  refine callR (take_call hF hT (R3.mono hT (Ext.refl s3).bump) 6 [44]) fun s4 K4 R4 => ?_
  simp only
  refine callR (reg_call hF hT R4) fun s5 K5 R5 => ?_
  simp only [sLref_vI, thn_ok, sUpd_vI_b, sField_vI, zI_upd, Res.bind_ok]
  exact done _ _ _ (((((K1.trans K2).trans K3).trans ((Ext.refl s3).bump.keep rb)).trans K4).trans K5) R5 e
 simp only [decide_eq_false (show ¬ s.word = [112, 117, 116] from c3), cond_false, parse_reader_instr_j0_eq hJ]
 refine callR (reg_call hF hT R1) fun s2 K2 R2 => ?_
 simp only [T_bstr]
 refine callR (take_call hF hT R2 6 [61]) fun s3 K3 R3 => ?_
 simp only
 refine callR (right_call hF hT R3) fun s4 K4 R4 => ?_
 have R5 := R4.mono hT (Ext.refl s4).bump
 have l3 := R5.err
 have KK := (((K1.trans K2).trans K3).trans K4).trans ((Ext.refl s4).bump.keep rb)
 have hd' : s.instr = (if (s.reg.2.sign 61).right.2.err = 0 then { (s.reg.2.sign 61).right.1 with dst := s.reg.1 } else ⟨0, 0, 0, 0, 0, 0, 0⟩, (s.reg.2.sign 61).right.2) := by unfold PS.instr; rw [if_neg c1, if_neg c2, if_neg c3]
 have l3' : s4.bump.load1 rb 3 = .ok (I (s.reg.2.sign 61).right.2.err) := l3
 have hr : ((s.reg.2.take 6 [61]).2) = s.reg.2.sign 61 := rfl
 rw [hr]
 by_cases c4 : (s.reg.2.sign 61).right.2.err = 0
 ·rw [if_pos c4] at hd'
  simp only [sLnew_eq, thn_ok, zI_upd, sLref_vI, sUpd_vI_dst, sNilc_P', sOff_eq, Nat.zero_add, sLoad1, l3', Res.bind_ok, sNeq, decide_eq_true c4, Bool.not_true, condX_eq, cond_false, parse_reader_instr_j1_eq hJ, sField_vI]
  exact done _ _ _ KK R5 hd'
 ·rw [if_neg c4] at hd'
  simp only [sLnew_eq, thn_ok, zI_upd, sLref_vI, sUpd_vI_dst, sNilc_P', sOff_eq, Nat.zero_add, sLoad1, l3', Res.bind_ok, sNeq, decide_eq_false c4, Bool.not_false, condX_eq, cond_true, bI, sField_vI]
  exact done _ _ _ KK R5 hd'
end
end Go.Proofs.YtdjfndijbnpkpaaDoor.Sh
