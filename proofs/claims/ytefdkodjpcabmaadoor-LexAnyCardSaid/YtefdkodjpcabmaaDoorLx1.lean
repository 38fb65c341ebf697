/-
  The lexer's functions: digits, letters, number.
-/
import Derived.Test.YtefdkodjpcabmaaDoorLxX
import Derived.Test.YtefdkodjpcabmaaDoorAmC
import Derived.Test.YtefdkodjpcabmaaDoorShA
set_option linter.unusedVariables false
set_option linter.unusedSimpArgs false
set_option linter.unusedSectionVars false
set_option maxRecDepth 100000
namespace Go.Proofs.YtefdkodjpcabmaaDoor.Sh
open Go Go.AM Go.Proofs Go.AM.Lx
abbrev Short (l : List UInt8) : Prop := l.length ≤ 281474976710656
variable {K : Ctx} (hF : Fix pgF K)
include hF
theorem digits_loop {J} (hJ : IsJ K (retK lex_digits_c.results) J) (st : St) : ∀ (b a : List UInt8), Short (a ++ b) → Ok (lex_digits_l0 J (T (a ++ b)) (I a.length) st) fun r => r = (I ((a.length + digs b : Nat) : Int), st) := by
 intro b
 induction b with
 | nil =>
   intro a hs
   refine lex_digits_l0_of hF hJ ?_
   rw [lex_digits_l0_eq]
   simp [lex_digits_j1_eq hJ, digs]
 | cons c b ih =>
   intro a hs
   refine lex_digits_l0_of hF hJ ?_
   rw [lex_digits_l0_eq]
   have hc : (a ++ c :: b)[a.length]? = some c := by simp
   have h1 : ((a.length : Nat) : Int) < ((a ++ c :: b).length : Nat) := by simp; omega
   have hw : IntKind.i64.wrap ((a.length : Int) + 1) = ((a ++ [c]).length : Nat) := by
    rw [wrap_id]
    ·simp
    ·simp at hs; omega
   have e : a ++ c :: b = (a ++ [c]) ++ b := by simp
   by_cases hd : isDig c = true
   ·obtain ⟨d1, d2⟩ := isDig_range hd
    have d1 : (48 : Int) ≤ c.toNat := by exact_mod_cast d1
    have d2 : (c.toNat : Int) ≤ 57 := by exact_mod_cast d2
    simp only [sLen_T, thn_ok, sLss, decide_eq_true h1, sG_eq, sIxS_T _ _ hc, sGeq, sLeq, decide_eq_true d1, decide_eq_true d2, sPick_eq, condX_eq, beq_self_eq_true, cond_true, if_true, lex_digits_j0_eq hJ, sAdd, hw]
    rw [e]
    refine (ih (a ++ [c]) (by rw [← e]; exact hs)).mono fun r hr => ?_
    rw [hr, digs_go b hd]
    simp [Nat.add_comm, Nat.add_left_comm]
   ·have hd : isDig c = false := by simpa using hd
    have hd' : ¬ ((48 : Int) ≤ c.toNat ∧ (c.toNat : Int) ≤ 57) := by
     intro ⟨d1, d2⟩
     have : isDig c = true := by simp [isDig]; omega
     rw [hd] at this; cases this
    by_cases d1 : (48 : Int) ≤ c.toNat
    ·have d2 : ¬ (c.toNat : Int) ≤ 57 := fun h => hd' ⟨d1, h⟩
     simp only [sLen_T, thn_ok, sLss, decide_eq_true h1, sG_eq, sIxS_T _ _ hc, sGeq, sLeq, decide_eq_true d1, decide_eq_false d2, sPick_eq, condX_eq, beq_self_eq_true, cond_true, cond_false, if_true, lex_digits_j1_eq hJ, digs_stop b hd, ok_ok, Nat.add_zero]
    ·simp only [sLen_T, thn_ok, sLss, decide_eq_true h1, sG_eq, sIxS_T _ _ hc, sGeq, decide_eq_false d1, sPick_eq, condX_eq, beq_self_eq_true, cond_true, cond_false, if_true, Bool.false_eq_true, if_false, show (false == true) = false from rfl, lex_digits_j1_eq hJ, digs_stop b hd, ok_ok, Nat.add_zero]
theorem digits_eq {l : List UInt8} (hs : Short l) (st : St) : K.go (.call n_lex_digits [T l]) st = .ok (I (digs l), st) := by
 refine okEq (lex_digits_of hF fun J hJ => ?_)
 rw [lex_digits_eq]
 have := digits_loop hF hJ st l [] hs
 simpa using this
theorem letters_loop {J} (hJ : IsJ K (retK lex_letters_c.results) J) {st0 : St} {it : Nat} (hit : st0.next ≤ it) : ∀ (b a : List UInt8) (st : St), Short (a ++ b) → (∀ c ∈ a, isLet c = true) → Ext st0 st → st.ro ≤ it → it < st.next → st.get it = some (.strIter ⟨(a ++ b).toArray⟩ a.length) →
 Ok (lex_letters_l0 J (T (a ++ b)) (P it 0) st) fun r => r.1 = I ((a.length + lets b : Nat) : Int) ∧ Ext st0 r.2 := by
 intro b
 induction b with
 | nil =>
   intro a st hs ha hE hro hin hg
   refine lex_letters_l0_of hF hJ ?_
   rw [lex_letters_l0_eq]
   have hn : sNextStr (P it 0) st = .ok (.tuple #[.bool false], st) := by
    have : ¬ a.length < (⟨(a ++ []).toArray⟩ : ByteArray).size := by show ¬ a.length < (a ++ []).length; simp
    simp only [sNextStr, asPtr, Res.bind_ok, Res.need_true, decide_true, hg, if_neg this, Res.pure_eq]
   simp only [hn, thn_ok, sExtract_eq, List.getElem?_toArray, List.getElem?_cons_zero, Res.of, Res.bind_ok, condX_eq, cond_false, lex_letters_j1_eq hJ, sLen_T, ok_ok]
   exact ⟨by simp [lets], hE⟩
 | cons c b ih =>
   intro a st hs ha hE hro hin hg
   refine lex_letters_l0_of hF hJ ?_
   rw [lex_letters_l0_eq]
   have hc : (a ++ c :: b)[a.length]? = some c := by simp
   have hn : sNextStr (P it 0) st = .ok (.tuple #[.bool true, I a.length, .int .i32 (Utf8.decode ⟨(a ++ c :: b).toArray⟩ a.length).1], st.put it (.strIter ⟨(a ++ c :: b).toArray⟩ (a.length + (Utf8.decode ⟨(a ++ c :: b).toArray⟩ a.length).2))) := by
    have : a.length < (⟨(a ++ c :: b).toArray⟩ : ByteArray).size := by show a.length < (a ++ c :: b).length; simp
    simp only [sNextStr, asPtr, Res.bind_ok, Res.need_true, decide_true, hg, if_pos this, Res.need, decide_eq_true hro, if_true, Res.pure_eq, goInt]
   by_cases hl : isLet c = true
   ·have hd : 97 ≤ c.toNat ∧ c.toNat ≤ 122 := by simpa [isLet] using hl
    have d1 : ¬ (c.toNat : Int) < 97 := by omega
    have d2 : ¬ (122 : Int) < c.toNat := by omega
    rw [dec_ascii (a ++ c :: b) hc (by omega)] at hn
    have e : a ++ c :: b = (a ++ [c]) ++ b := by simp
    simp only [hn, thn_ok, sExtract_eq, Array.getElem?_eq_getElem, Res.of, lex_letters_j0_eq hJ]
    simp [Res.of, d1, d2]
    rw [e]
    refine (ih (a ++ [c]) _ (by rw [← e]; exact hs) ?_ (hE.put hit _) hro hin (by rw [get_put, if_pos rfl]; simp)).mono fun r hr => ?_
    ·intro x hx
     rcases List.mem_append.1 hx with h | h
     ·exact ha x h
     ·rw [List.mem_singleton.1 h]; exact hl
    ·rw [lets_go b hl]
     refine ⟨?_, hr.2⟩
     rw [hr.1]
     simp [Nat.add_comm, Nat.add_left_comm]
   ·have hl : isLet c = false := by simpa using hl
    have hd : ¬ (97 ≤ c.toNat ∧ c.toNat ≤ 122) := by
     intro h
     have : isLet c = true := by simp [isLet]; omega
     rw [hl] at this; cases this
    have key : ∀ d : Nat, ¬ (97 ≤ d ∧ d ≤ 122) → ∀ s : St, Ext st0 s → Ok (lex_letters_j0 J (T (a ++ c :: b)) (P it 0) (.tuple #[.bool true, I a.length, .int .i32 d]) s) fun r => r.1 = I ((a.length + 0 : Nat) : Int) ∧ Ext st0 r.2 := by
     intro d hd s hs
     rw [lex_letters_j0_eq hJ]
     by_cases d1 : (d : Int) < 97
     ·simp [Res.of, d1, hs]
     ·have d2 : (122 : Int) < d := by omega
      simp [Res.of, d1, d2, hs]
    rw [lets_stop b hl]
    simp only [hn, thn_ok, sExtract_eq]
    simp only [List.getElem?_toArray, List.getElem?_cons_zero, Res.of, Res.bind_ok, thn_ok, condX_eq, cond_true]
    refine key _ ?_ _ (hE.put hit _)
    by_cases hx : c.toNat < 128
    ·rw [dec_ascii (a ++ c :: b) hc hx]
     exact hd
    ·have := dec_more (a ++ c :: b) hc hx
     omega
theorem letters_ok {l : List UInt8} (hs : Short l) {st : St} (hro : st.ro ≤ st.next) : Ok (K.go (.call n_lex_letters [T l]) st) fun r => r.1 = I (lets l) ∧ Ext st r.2 := by
 refine lex_letters_of hF fun J hJ => ?_
 rw [lex_letters_eq]
 have e : sRangeStr (T l) st = .ok (P st.next 0, st.alloc (.strIter ⟨l.toArray⟩ 0)) := rfl
 simp only [e, thn_ok]
 have := letters_loop hF hJ (st0 := st) (it := st.next) (Nat.le_refl _) l [] (st.alloc (.strIter ⟨l.toArray⟩ 0)) hs (by simp) ((Ext.refl st).alloc _) hro (Nat.lt_succ_self _) (by rw [get_alloc, if_pos rfl]; rfl)
 simpa using this
theorem number_ok {l : List UInt8} (hs : Short l) {st : St} (hv : VOk st) : Ok (K.go (.call n_lex_number [T l]) st) fun r => r.1 = .tuple #[I (number l).1, I (number l).2] ∧ Ext st r.2 := by
 refine lex_number_of hF fun J hJ => ?_
 rw [lex_number_eq]
 generalize hQ : (fun r : Value × St => r.1 = .tuple #[I (number l).1, I (number l).2] ∧ Ext st r.2) = Q
 have key : ∀ k0 : Nat, k0 ≤ l.length → numLen l = k0 + digs (l.drop k0) → Ok (lex_number_j0 J (T l) (I k0) st) Q := by
  intro k0 hk hn
  have hle := numLen_le l
  have hd : Short (l.drop k0) := by unfold Short; rw [List.length_drop]; omega
  have hw : IntKind.i64.wrap ((k0 : Int) + (digs (l.drop k0) : Nat)) = (numLen l : Nat) := by
   rw [wrap_id]
   ·omega
   ·omega
  have hts : Short (l.take (numLen l)) := by unfold Short; rw [List.length_take]; omega
  have hnum : number l = match numOf (l.take (numLen l)) with | some v => (v, numLen l) | none => (0, 0) := rfl
  have hno : numOf (l.take (numLen l)) = match Lib.parseIntB 64 (l.take (numLen l)) with | .ok v => if Lib.itoa v = l.take (numLen l) then some v else none | _ => none := rfl
  rw [lex_number_j0_eq hJ]
  simp only [sSlice_drop l st hk, thn_ok, digits_eq hF hd, sAdd, hw, sSlice_take l st hle, PI_call hF hv hts]
  cases hp : Lib.parseIntB 64 (l.take (numLen l)) with
  | ok v =>
    rw [hp] at hno
    simp only at hno
    have hb : -9223372036854775808 ≤ v ∧ v ≤ 9223372036854775807 := by
     have hp' := hp
     have h64 := Lib.atoiAll_bounds (l := l.take (numLen l)) (v := v)
     unfold Lib.parseIntB at hp
     split at hp
     ·cases hp
     ·simp only at hp
      split at hp
      ·cases hp
      ·cases hp
      ·split at hp
       ·cases hp
       ·split at hp
        ·cases hp
        ·rename_i h1 h2
         cases hp
         simp only [show (2 : Nat) ^ (64 - 1) = 9223372036854775808 by decide] at h1 h2
         split <;> rename_i h3 <;> simp [h3] at h1 h2 <;> omega
    have he : sEq true (.nilOf .iface) .nilIface .nilIface st = .ok (B false, st) := rfl
    simp [Res.of, he, FI_call hF hv hb.1 hb.2, sSlice_take l st hle]
    by_cases hi : Lib.itoa v = l.take (numLen l)
    ·rw [if_pos hi] at hno
     rw [hno] at hnum
     simp [hi, lex_number_j1_eq hJ]
     rw [← hQ, hnum]
     exact ⟨rfl, .refl _⟩
    ·rw [if_neg hi] at hno
     rw [hno] at hnum
     simp [hi]
     rw [← hQ, hnum]
     exact ⟨rfl, .refl _⟩
  | range =>
    rw [hp] at hno
    rw [show numOf (l.take (numLen l)) = none from hno] at hnum
    have he : ∀ v, sEq true (.nilOf .iface) (.iface 130 v) .nilIface st = .ok (B true, st) := fun v => rfl
    simp [Res.of, he]
    rw [← hQ, hnum]
    exact ⟨rfl, .refl _⟩
  | _ =>
    rw [hp] at hno
    rw [show numOf (l.take (numLen l)) = none from hno] at hnum
    have he : ∀ v, sEq true (.nilOf .iface) (.iface 130 v) .nilIface st = .ok (B true, st) := fun v => rfl
    simp [Res.of, he]
    rw [← hQ, hnum]
    exact ⟨rfl, .refl _⟩
 cases l with
 | nil =>
   have := key 0 (Nat.le_refl _) rfl
   simp [T_bstr]
   exact this
 | cons c r =>
   by_cases hc : c.toNat = 45
   ·have := key 1 (by simp) (by simp [numLen, hc])
    have hc' : ((c.toNat : Nat) : Int) = 45 := by omega
    simp [T_bstr, hc']
    exact this
   ·have := key 0 (by simp) (by simp [numLen, hc])
    have hc' : ¬ ((c.toNat : Nat) : Int) = 45 := by omega
    simp [T_bstr, hc']
    exact this
end Go.Proofs.YtefdkodjpcabmaaDoor.Sh
