/-
  The reader's functions: last, right, instr.
-/
import Derived.Test.YtdjfndijbnpkpaaDoorPa2
set_option linter.unusedVariables false
set_option linter.unusedSimpArgs false
set_option linter.unusedSectionVars false
set_option maxRecDepth 100000
namespace Go.Proofs.YtdjfndijbnpkpaaDoor.Sh
open Go Go.AM Go.Proofs Go.AM.Lx
abbrev zL : Value := .agg #[U 0, I 0, I 0, I 0]
abbrev zI : Value := .agg #[U 0, U 0, I 0, I 0, I 0, I 0, I 0]
section
variable (s : St)
theorem zL_yes (y : Int) : sUpd 1 2 zL (I y) s = .ok (vL ⟨0, 0, y, 0⟩, s) := sUpd_vL_yes ⟨0, 0, 0, 0⟩ y s
theorem zL_kind (k : Int) : sUpd 1 0 zL (U k) s = .ok (vL ⟨k, 0, 0, 0⟩, s) := sUpd_vL_kind ⟨0, 0, 0, 0⟩ k s
theorem zL_field : sField (some 4) 0 zL s = .ok (vL ⟨0, 0, 0, 0⟩, s) := rfl
theorem zL_ref : sLref zL s = .ok (nothing, s) := rfl
theorem zL_upd (l : Last) : sUpd 4 0 zL (vL l) s = .ok (vL l, s) := sUpd_vL l ⟨0, 0, 0, 0⟩ s
theorem zI_upd (x : Instr) : sUpd 7 0 zI (vI x) s = .ok (vI x, s) := sUpd_vI x ⟨0, 0, 0, 0, 0, 0, 0⟩ s
abbrev zIl : List Value := [U 0, U 0, I 0, I 0, I 0, I 0, I 0]
theorem bI (s : St) : sBuild zIl [] s = .ok (vI ⟨0, 0, 0, 0, 0, 0, 0⟩, s) := rfl
theorem bI0 (k : Int) : sBuild zIl [(0, 1, U k)] s = .ok (vI ⟨k, 0, 0, 0, 0, 0, 0⟩, s) := rfl
theorem bI03 (k a : Int) : sBuild zIl [(0, 1, U k), (3, 1, I a)] s = .ok (vI ⟨k, 0, 0, a, 0, 0, 0⟩, s) := rfl
theorem bI05 (k n : Int) : sBuild zIl [(0, 1, U k), (5, 1, I n)] s = .ok (vI ⟨k, 0, 0, 0, 0, n, 0⟩, s) := rfl
theorem bI06 (k n : Int) : sBuild zIl [(0, 1, U k), (6, 1, I n)] s = .ok (vI ⟨k, 0, 0, 0, 0, 0, n⟩, s) := rfl
theorem bI013 (k o a : Int) : sBuild zIl [(0, 1, U k), (1, 1, U o), (3, 1, I a)] s = .ok (vI ⟨k, o, 0, a, 0, 0, 0⟩, s) := rfl
end
variable {K : Ctx} (hF : Fix pgF K)
include hF
section
variable {st0 st : St} {rb : Nat} {vl : Value} {ts : List Tok} {s : PS}
theorem advR {R : Type} {Q : R → Prop} {f : Value × St → Res R} (hT : Toks st0 rb vl ts) (h : RD st0 st rb vl ts s) (hk : s.hd.kind ≠ 0) (k : ∀ s' v, Keep rb st s' → RD st0 s' rb vl ts s.adv → Ok (f (v, s')) Q) :
 Ok (Res.thn st (sNilc (P rb 0) st) fun p5 => Res.thn p5.2 (sOff 1 p5.1 p5.2) fun p6 => Res.thn p6.2 (sLoad none p6.1 p6.2) fun p7 => Res.thn p7.2 (sBin .add p7.1 (I 1) p7.2) fun p8 => Res.thn p8.2 (sNilc (P rb 0) p8.2) fun p9 => Res.thn p9.2 (sOff 1 p9.1 p9.2) fun p10 => Res.thn p10.2 (sStore 1 p10.1 p8.1 p10.2) f) Q := by
 obtain ⟨i, s2, a1, a2, a3, K2, R2, _⟩ := h.adv hT hk
 simp only [sNilc_P', thn_ok, sOff_eq, Nat.zero_add, sLoad1, a1, Res.bind_ok, sAdd, a2, sStore_int, decide_true, Res.need_true, a3]
 exact k s2 _ K2 R2
theorem last_call (hT : Toks st0 rb vl ts) (h : RD st0 st rb vl ts s) : Ok (K.go (.call n_parse_reader_last [P rb 0]) st) fun r => r.1 = .tuple #[vL s.last.1.1, B s.last.1.2] ∧ Keep rb st r.2 ∧ RD st0 r.2 rb vl ts s.last.2 := by
 refine parse_reader_last_of hF fun J hJ => ?_
 rw [parse_reader_last_eq]
 have E1 : Ext st st.bump.bump := (Ext.refl st).bump.bump
 simp only [sLnew_eq, thn_ok]
 refine callR (word_call hF hT (h.mono hT E1)) fun s1 K1 R1 => ?_
 have K1 := (E1.keep rb).trans K1
 have fin : ∀ (l : Last) (s' : St), Ok (parse_reader_last_j0 J zL (vL l) s') fun r => r = (.tuple #[vL l, B true], s') := fun l s' => by
  rw [parse_reader_last_j0_eq hJ]
  simp only [sField_vL, thn_ok, zL_upd, Res.bind_ok]
  exact ⟨_, rfl, rfl⟩
 have done : ∀ (l : Last) (S : PS) (s' : St), Keep rb st s' → RD st0 s' rb vl ts S → s.last = ((l, true), S) → Ok (parse_reader_last_j0 J zL (vL l) s') fun r => r.1 = .tuple #[vL s.last.1.1, B s.last.1.2] ∧ Keep rb st r.2 ∧ RD st0 r.2 rb vl ts s.last.2 := fun l S s' k r e => by
  refine (fin l s').mono fun q hq => ?_
  subst hq
  rw [e]
  exact ⟨rfl, k, r⟩
 simp only [T_bstr, sEql_T, condX_eq, thn_ok]
 by_cases c1 : s.word = wJump
 ·have hk : s.hd.kind ≠ 0 := by rw [(PS.word_kind (by rw [c1]; decide)).1]; decide
  have e : s.last = ((⟨0, 0, s.adv.label.1, 0⟩, true), s.adv.label.2) := by unfold PS.last; rw [if_pos c1]
  simp only [decide_eq_true (show s.word = [106, 117, 109, 112] from c1), cond_true]
  refine advR hF hT R1 hk fun s2 v K2 R2 => ?_
  simp only
  refine callR (label_call hF hT R2) fun s3 K3 R3 => ?_
  simp only [zL_ref, thn_ok, zL_yes]
  exact done _ _ _ ((K1.trans K2).trans K3) R3 e
 ·simp only [decide_eq_false (show ¬ s.word = [106, 117, 109, 112] from c1), cond_false]
  by_cases c2 : s.word = wBr
  ·have hk : s.hd.kind ≠ 0 := by rw [(PS.word_kind (by rw [c2]; decide)).1]; decide
   have e : s.last = ((⟨1, s.adv.reg.1, (s.adv.reg.2.sign 44).label.1, ((s.adv.reg.2.sign 44).label.2.sign 44).label.1⟩, true), ((s.adv.reg.2.sign 44).label.2.sign 44).label.2) := by unfold PS.last; rw [if_neg c1, if_pos c2]
   simp only [decide_eq_true (show s.word = [98, 114] from c2), cond_true, sEql_T, thn_ok, condX_eq]
   refine advR hF hT R1 hk fun s2 v K2 R2 => ?_
   simp only
   refine callR (reg_call hF hT R2) fun s3 K3 R3 => ?_
   simp only [zL_ref, thn_ok, zL_kind, sLref_vL, sUpd_vL_a, T_bstr]
   refine callR (take_call hF hT R3 6 [44]) fun s4 K4 R4 => ?_
   simp only
   refine callR (label_call hF hT R4) fun s5 K5 R5 => ?_
   simp only [sLref_vL, thn_ok, sUpd_vL_yes, T_bstr]
   refine callR (take_call hF hT R5 6 [44]) fun s6 K6 R6 => ?_
   simp only
   refine callR (label_call hF hT R6) fun s7 K7 R7 => ?_
   simp only [sLref_vL, thn_ok, sUpd_vL_no]
   exact done _ _ _ ((((((K1.trans K2).trans K3).trans K4).trans K5).trans K6).trans K7) R7 e
  ·simp only [decide_eq_false (show ¬ s.word = [98, 114] from c2), cond_false, sEql_T, thn_ok, condX_eq]
   by_cases c3 : s.word = wRet
   ·have hk : s.hd.kind ≠ 0 := by rw [(PS.word_kind (by rw [c3]; decide)).1]; decide
    have e : s.last = ((⟨2, s.adv.reg.1, 0, 0⟩, true), s.adv.reg.2) := by unfold PS.last; rw [if_neg c1, if_neg c2, if_pos c3]
    simp only [decide_eq_true (show s.word = [114, 101, 116] from c3), cond_true, sEql_T, thn_ok, condX_eq]
    refine advR hF hT R1 hk fun s2 v K2 R2 => ?_
    simp only
    refine callR (reg_call hF hT R2) fun s3 K3 R3 => ?_
    simp only [zL_ref, thn_ok, zL_kind, sLref_vL, sUpd_vL_a]
    exact done _ _ _ ((K1.trans K2).trans K3) R3 e
   ·simp only [decide_eq_false (show ¬ s.word = [114, 101, 116] from c3), cond_false, sEql_T, thn_ok, condX_eq]
    by_cases c4 : s.word = wTrap
    ·have hk : s.hd.kind ≠ 0 := by rw [(PS.word_kind (by rw [c4]; decide)).1]; decide
     have e : s.last = ((⟨3, 0, 0, 0⟩, true), s.adv) := by unfold PS.last; rw [if_neg c1, if_neg c2, if_neg c3, if_pos c4]
     simp only [decide_eq_true (show s.word = [116, 114, 97, 112] from c4), cond_true, sEql_T, thn_ok, condX_eq]
     refine advR hF hT R1 hk fun s2 v K2 R2 => ?_
     simp only [zL_ref, thn_ok, zL_kind]
     exact done _ _ _ (K1.trans K2) R2 e
    ·have e : s.last = ((⟨0, 0, 0, 0⟩, false), s) := by unfold PS.last; rw [if_neg c1, if_neg c2, if_neg c3, if_neg c4]
     simp only [decide_eq_false (show ¬ s.word = [116, 114, 97, 112] from c4), cond_false, sEql_T, thn_ok, condX_eq, zL_field, zL_upd, sField_vL, Res.bind_ok]
     rw [e]
     exact ⟨_, rfl, rfl, K1, R1⟩
end
end Go.Proofs.YtdjfndijbnpkpaaDoor.Sh
