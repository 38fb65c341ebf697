/-
  The lexer's functions: Tokens: what it calls, one after the other.
-/
import Derived.Test.YtefdkodjpcabmaaDoorLx2
set_option linter.unusedVariables false
set_option linter.unusedSimpArgs false
set_option linter.unusedSectionVars false
set_option maxRecDepth 100000
namespace Go.Proofs.YtefdkodjpcabmaaDoor.Sh
open Go Go.AM Go.Proofs Go.AM.Lx
structure Sees (K : Ctx) (f : Value) (bx : Nat) (s : List UInt8) (Pr : List Ev → St → Prop) : Prop where
 step : ∀ ev rest st, Pr (ev :: rest) st → Ok (sCall K f [vTok ev.1, I ev.2] st) fun r => ∃ b, r.1 = B b ∧ Pr (if b then rest else []) r.2
 mono : ∀ l st st', Pr l st → Ext st st' → Pr l st'
 vars : ∀ l st, Pr l st → VOk st
 text : ∀ l st, Pr l st → st.get bx = some (.cells [T s])
variable {K : Ctx} (hF : Fix pgF K)
include hF
section
variable {J : JT (Value × St)} (hJ : IsJ K (retK lex_Tokens_1_c.results) J) {f : Value} {bx : Nat} {s : List UInt8} {Pr : List Ev → St → Prop} (hS : Sees K f bx s Pr)
include hJ
theorem note_loop {st : St} (ht : st.get bx = some (.cells [T s])) {Q : Value × St → Prop} : ∀ (b a : List UInt8), s = a ++ b → Short s →
 Ok (lex_Tokens_1_l0 J f (P bx 0) (I (a.length + (b.takeWhile fun c => decide (c.toNat ≠ 10)).length : Nat)) st) Q → Ok (lex_Tokens_1_l1 J f (P bx 0) (I a.length) st) Q := by
 have hld : st.load1 bx 0 = .ok (T s) := load1_eq ht rfl
 intro b
 induction b with
 | nil =>
   intro a hs hsh h
   refine lex_Tokens_1_l1_of hF hJ ?_
   rw [lex_Tokens_1_l1_eq]
   have h1 : ¬ ((a.length : Nat) : Int) < (s.length : Nat) := by rw [hs]; simp
   simp only [sLoad1, hld, Res.bind_ok, thn_ok, sLen_T, sLss, decide_eq_false h1, sG_eq, sPick_eq, condX_eq, cond_false, show (false == true) = false from rfl, lex_Tokens_1_j6_eq hJ, Bool.false_eq_true, if_false]
   exact h
 | cons c b ih =>
   intro a hs hsh h
   refine lex_Tokens_1_l1_of hF hJ ?_
   rw [lex_Tokens_1_l1_eq]
   have hc : s[a.length]? = some c := by rw [hs]; simp
   have h1 : ((a.length : Nat) : Int) < (s.length : Nat) := by rw [hs]; simp; omega
   have hlen : a.length < s.length := by omega
   by_cases hn : c.toNat = 10
   ·have hn' : ((c.toNat : Nat) : Int) = 10 := by omega
    simp only [sLoad1, hld, Res.bind_ok, thn_ok, sLen_T, sLss, decide_eq_true h1, sG_eq, sIxS_T _ _ hc, sNeq, decide_eq_true hn', sPick_eq, condX_eq, cond_false, cond_true, beq_self_eq_true, if_true, Bool.not_true, lex_Tokens_1_j6_eq hJ]
    simpa [hn] using h
   ·have hn' : ¬ ((c.toNat : Nat) : Int) = 10 := by omega
    have hw : IntKind.i64.wrap ((a.length : Int) + 1) = ((a ++ [c]).length : Nat) := by
     rw [wrap_id]
     ·simp
     ·unfold Short at hsh; omega
    simp only [sLoad1, hld, Res.bind_ok, thn_ok, sLen_T, sLss, decide_eq_true h1, sG_eq, sIxS_T _ _ hc, sNeq, decide_eq_false hn', sPick_eq, condX_eq, cond_false, cond_true, beq_self_eq_true, if_true, Bool.not_false, lex_Tokens_1_j5_eq hJ, sAdd, hw]
    refine ih (a ++ [c]) (by rw [hs]; simp) hsh ?_
    simp only [List.takeWhile_cons, ne_eq, hn, not_false_eq_true, decide_true, if_true, List.length_cons] at h
    rw [show (a ++ [c]).length + (b.takeWhile fun c => decide (c.toNat ≠ 10)).length = a.length + ((b.takeWhile fun c => decide (c.toNat ≠ 10)).length + 1) by simp; omega]
    exact h
include hS
theorem tokens_loop (hsh : Short s) : ∀ (n a : Nat) (st : St), (s.drop a).length ≤ n → a ≤ s.length → Pr (evs (s.drop a) a) st → Ok (lex_Tokens_1_l0 J f (P bx 0) (I a) st) fun r => r.1 = .tuple #[] ∧ Pr [] r.2 := by
 intro n
 induction n with
 | zero =>
   intro a st hn ha hp
   refine lex_Tokens_1_l0_of hF hJ ?_
   rw [lex_Tokens_1_l0_eq]
   have hld : st.load1 bx 0 = .ok (T s) := load1_eq (hS.text _ _ hp) rfl
   have he : a = s.length := by rw [List.length_drop] at hn; omega
   have hd : s.drop a = [] := by rw [List.drop_eq_nil_iff]; omega
   have h1 : ¬ ((a : Nat) : Int) < (s.length : Nat) := by omega
   rw [hd, evs_nil, he] at hp
   have := hS.step _ _ _ hp
   simp only [sLoad1, hld, Res.bind_ok, thn_ok, sLen_T, sLss, decide_eq_false h1, condX_eq, cond_false, lex_Tokens_1_j2_eq hJ, sBuild_tok]
   refine this.thn fun r ⟨b, e1, e2⟩ => ?_
   have e2 : Pr [] r.2 := by cases b <;> exact e2
   exact ⟨_, rfl, rfl, e2⟩
 | succ n ih =>
   intro a st hn ha hp
   refine lex_Tokens_1_l0_of hF hJ ?_
   rw [lex_Tokens_1_l0_eq]
   have hg := hS.text _ _ hp
   have hld : ∀ st' : St, st'.get bx = some (.cells [T s]) → st'.load1 bx 0 = .ok (T s) := fun st' h => load1_eq h rfl
   have hv := hS.vars _ _ hp
   cases hd : s.drop a with
   | nil =>
     have he : a = s.length := by rw [List.drop_eq_nil_iff] at hd; omega
     have h1 : ¬ ((a : Nat) : Int) < (s.length : Nat) := by omega
     rw [hd, evs_nil, he] at hp
     have := hS.step _ _ _ hp
     simp only [sLoad1, hld _ hg, Res.bind_ok, thn_ok, sLen_T, sLss, decide_eq_false h1, condX_eq, cond_false, lex_Tokens_1_j2_eq hJ, sBuild_tok]
     refine this.thn fun r ⟨b, e1, e2⟩ => ?_
     have e2 : Pr [] r.2 := by cases b <;> exact e2
     exact ⟨_, rfl, rfl, e2⟩
   | cons c r =>
     have hlt : a < s.length := by
      rcases Nat.lt_or_ge a s.length with h | h
      ·exact h
      ·rw [List.drop_eq_nil_iff.2 h] at hd; cases hd
     have hc : s[a]? = some c := by
      have : (s.drop a)[0]? = some c := by rw [hd]; rfl
      rwa [List.getElem?_drop, Nat.add_zero] at this
     have hr : s.drop (a + 1) = r := by rw [← List.drop_drop, hd]; rfl
     have hlr : r.length + 1 ≤ n + 1 := by rw [hd] at hn; exact hn
     have hll : a + (r.length + 1) = s.length := by
      have := congrArg List.length hd
      rw [List.length_drop] at this
      simp at this; omega
     have h1 : ((a : Nat) : Int) < (s.length : Nat) := by omega
     have hw : IntKind.i64.wrap ((a : Int) + 1) = ((a + 1 : Nat) : Int) := by rw [wrap_id (by unfold Short at hsh; omega)]; omega
     simp only [sLoad1, hld _ hg, Res.bind_ok, thn_ok, sLen_T, sLss, decide_eq_true h1, condX_eq, cond_true, lex_Tokens_1_j1_eq hJ, sIxS_T _ _ hc, sEql]
     by_cases c1 : c.toNat = 32
     ·have c1' : ((c.toNat : Nat) : Int) = 32 := by omega
      rw [hd, evs_blank r a c1] at hp
      simp only [decide_eq_true c1', cond_true, sAdd, hw, thn_ok]
      exact ih (a + 1) st (by rw [hr]; omega) (by omega) (by rw [hr]; exact hp)
     ·have c1' : ¬ ((c.toNat : Nat) : Int) = 32 := by omega
      simp only [decide_eq_false c1', cond_false, lex_Tokens_1_j3_eq hJ, sLoad1, hld _ hg, Res.bind_ok, thn_ok, sIxS_T _ _ hc, sEql, condX_eq]
      by_cases c2 : c.toNat = 35
      ·have c2' : ((c.toNat : Nat) : Int) = 35 := by omega
       rw [hd, evs_note r a c2] at hp
       simp only [decide_eq_true c2', cond_true]
       have hsa : s = s.take a ++ (c :: r) := by rw [← hd, List.take_append_drop]
       have hla : (s.take a).length = a := by rw [List.length_take]; omega
       have := note_loop hF hJ hg (f := f) (Q := fun r => r.1 = .tuple #[] ∧ Pr [] r.2) (c :: r) (s.take a) hsa hsh
       rw [hla] at this
       refine this ?_
       have htw : ((c :: r).takeWhile fun c => decide (c.toNat ≠ 10)).length = (r.takeWhile fun c => decide (c.toNat ≠ 10)).length + 1 := by
        rw [List.takeWhile_cons, if_pos (by simp [c2])]
        rfl
       have hle := takeWhile_le (fun c : UInt8 => decide (c.toNat ≠ 10)) r
       have hdw : s.drop (a + ((c :: r).takeWhile fun c => decide (c.toNat ≠ 10)).length) = r.dropWhile fun c => decide (c.toNat ≠ 10) := by
        rw [htw, show a + ((r.takeWhile fun c => decide (c.toNat ≠ 10)).length + 1) = a + 1 + (r.takeWhile fun c => decide (c.toNat ≠ 10)).length by omega, ← List.drop_drop, hr]
        have := List.takeWhile_append_dropWhile (p := fun c : UInt8 => decide (c.toNat ≠ 10)) (l := r)
        generalize r.takeWhile _ = x at *
        generalize r.dropWhile _ = y at *
        rw [← this, List.drop_left]
       refine ih _ st ?_ (by rw [htw]; omega) ?_
       ·rw [hdw]
        have := congrArg List.length (List.takeWhile_append_dropWhile (p := fun c : UInt8 => decide (c.toNat ≠ 10)) (l := r))
        rw [List.length_append] at this; omega
       ·rw [hdw, htw, show a + ((r.takeWhile fun c => decide (c.toNat ≠ 10)).length + 1) = a + 1 + (r.takeWhile fun c => decide (c.toNat ≠ 10)).length by omega]
        exact hp
      ·have c2' : ¬ ((c.toNat : Nat) : Int) = 35 := by omega
       simp only [decide_eq_false c2', cond_false, lex_Tokens_1_j4_eq hJ, sLoad1, hld _ hg, Res.bind_ok, thn_ok]
       refine (next_ok hF hsh hlt hv).call fun s2 E2 => ?_
       rw [hd] at hp ⊢
       have hkl := next_le (c :: r) a
       by_cases hz : (next (c :: r) a).2 = 0
       ·have hz' : ((next (c :: r) a).2 : Int) = 0 := by omega
        rw [evs_bad c1 c2 hz] at hp
        have := hS.step _ _ _ (hS.mono _ _ (s2.bump) hp (by simp [E2, E2.next]))
        simp [Res.of, hz']
        refine this.thn fun r ⟨b, e1, e2⟩ => ?_
        have e2 : Pr [] r.2 := by cases b <;> exact e2
        exact ⟨_, rfl, rfl, e2⟩
       ·have hz' : ¬ ((next (c :: r) a).2 : Int) = 0 := by omega
        rw [evs_tok c1 c2 hz] at hp
        have := hS.step _ _ _ (hS.mono _ _ (s2.bump) hp (by simp [E2, E2.next]))
        simp [Res.of, hz, lex_Tokens_1_j7_eq hJ]
        refine this.thn fun q ⟨b, e1, e2⟩ => ?_
        rw [e1]
        cases b with
        | false =>
          simp
          exact e2
        | true =>
          have hw2 : IntKind.i64.wrap ((a : Int) + ((next (c :: r) a).2 : Int)) = ((a + (next (c :: r) a).2 : Nat) : Int) := by
           have := hkl
           simp only [List.length_cons] at this
           rw [wrap_id (by unfold Short at hsh; omega)]; omega
          simp only [sUn_not, thn_ok, condX_eq, Bool.not_true, cond_false, lex_Tokens_1_j8_eq hJ, sAdd, hw2]
          have hdd : s.drop (a + (next (c :: r) a).2) = (c :: r).drop (next (c :: r) a).2 := by rw [← List.drop_drop, hd]
          refine ih _ q.2 ?_ ?_ ?_
          ·rw [hdd, List.length_drop]; simp only [List.length_cons]; omega
          ·simp only [List.length_cons] at hkl; omega
          ·rw [hdd]; exact e2
end
theorem Tokens1_ok {f : Value} {bx : Nat} {s : List UInt8} {Pr : List Ev → St → Prop} (hS : Sees K f bx s Pr) (hsh : Short s) {st : St} (hp : Pr (events s) st) : Ok (K.go (.call n_lex_Tokens_1 [f, P bx 0]) st) fun r => r.1 = .tuple #[] ∧ Pr [] r.2 := by
 refine lex_Tokens_1_of hF fun J hJ => ?_
 rw [lex_Tokens_1_eq]
 have hld : st.load1 bx 0 = .ok (T s) := load1_eq (hS.text _ _ hp) rfl
 simp only [sLoad1, hld, Res.bind_ok, thn_ok, sLen_T, sGtr, condX_eq]
 unfold events at hp
 by_cases h : 100000 < s.length
 ·have h' : (100000 : Int) < (s.length : Nat) := by omega
  rw [if_pos h] at hp
  have := hS.step _ _ _ hp
  have hb : sBuild [U 0, I 0, .string (bstr []), I 0] [(1, 1, I 100000)] st = .ok (vTok ⟨0, 100000, [], 0⟩, st) := sBuild_tok 100000 st
  simp only [decide_eq_true h', cond_true, hb, thn_ok]
  refine this.thn fun r ⟨b, e1, e2⟩ => ?_
  have e2 : Pr [] r.2 := by cases b <;> exact e2
  exact ⟨_, rfl, rfl, e2⟩
 ·have h' : ¬ (100000 : Int) < (s.length : Nat) := by omega
  rw [if_neg h] at hp
  simp only [decide_eq_false h', cond_false, lex_Tokens_1_j0_eq hJ]
  exact tokens_loop hF hJ hS hsh s.length 0 st (by simp) (by omega) hp
end Go.Proofs.YtefdkodjpcabmaaDoor.Sh
