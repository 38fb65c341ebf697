/-
  ParseReads: whatever it is given, the law's function answers true.
-/
import Derived.Test.YtdjfndijbnpkpaaDoorPTxt
import Derived.Test.YtdjfndijbnpkpaaDoorShL4
set_option linter.unusedVariables false
set_option linter.unusedSimpArgs false
set_option linter.unusedSectionVars false
set_option maxRecDepth 100000
namespace Go.Proofs.YtdjfndijbnpkpaaDoor.Sh
open Go Go.AM Go.Proofs Go.AM.Lx
variable {K : Ctx} (hF : Fix pgF K)
include hF
theorem ParseReads_end {J} (hJ : IsJ K (retK refinerylaw05_ParseReads_c.results) J) {p : Prog} {gs : List Int} {l : List Rd} (hit : ∀ q ∈ l, Item q) (hlen : l.length ≤ 2000) (hgl : gs.length ≤ 500000) {A' A2 : Nat → Prop} {st0 : St} {vp : Value} {ids : List Nat} (hp : PProg st0 vp p ids) (hids : ∀ id ∈ ids, id < st0.next) (hpl : p.length < 2 ^ 62) (hfit : ∀ b ∈ p, b.fits)
 {v1 v9 : Value} (hg : RSl A' st0 1 (fun cs n => cs = [U n]) v1 gs) (hA' : ∀ id, A' id → id < st0.next) (hgb : ∀ n ∈ gs, 0 ≤ n ∧ n ≤ 255) (ho : RSl A2 st0 1 RRd v9 l) (hA2 : ∀ id, A2 id → id < st0.next) (hv : VOk st0)
 (hpar : (textG gs l 0).length ≤ 100000 → ∀ st, VOk st → Ok (K.go (.call n_parse_Parse [T (textG gs l 0)]) st) (ParsePost st p 0 0)) :
 Ok (refinerylaw05_ParseReads_j2 J v1 (.agg #[vp]) v9 st0) fun r => r.1 = B true := by
 rw [refinerylaw05_ParseReads_j2_eq hJ]
 have hitl := items_len hit
 have htl := textG_len (gs := gs) (i := 0) hitl
 refine (Text_ok hF hA2 hA' ho hg hgb hv.ro hitl (by omega) hgl).call fun s1 E1 => ?_
 refine (hpar (by omega) s1 (hv.mono E1)).thn fun ⟨r1, s2⟩ ⟨vq, is, e1, e2, e3, e4⟩ => ?_
 simp only at e1 e2 e3 e4
 subst e1
 have E3 : Ext s2 s2.bump := (Ext.refl s2).bump
 have hX := (E1.trans e4).trans E3
 have hpu : ∀ s', sUpd 1 0 (.agg #[.slice none 0 0]) (.agg #[vq]) s' = .ok (.agg #[vq], s') := fun s' => by simp [Res.need, RepSl.cell e2]
 have rq : PProg s2.bump vq p is := e2.frame fun id hid => E3.get _ (e3.at_ id hid).2
 have rp : PProg s2.bump vp p ids := hp.frame fun id hid => hX.get _ (hids id hid)
 have hsame := Same_ok hF (A := fun id => id ∈ ids) (A' := fun id => id ∈ is) (st := s2.bump) (fun id hid => Nat.lt_of_lt_of_le (hids id hid) hX.next) (fun id hid => Nat.lt_of_lt_of_le (e3.at_ id hid).2 E3.next) rp.read rq.read hpl hfit
 have z0 : decide ((0 : Int) = 0) = true := rfl
 have hf1 : ∀ v s', sField (some 1) 0 (.agg #[v]) s' = .ok (.agg #[v], s') := fun m s' => rfl
 simp only [sExtract_eq, List.getElem?_toArray, List.getElem?_cons_zero, List.getElem?_cons_succ, Res.of_some, Res.bind_ok, thn_ok, sLnew_eq, hpu, sEql, z0, decide_true, sG_eq, beq_self_eq_true, cond_true, sPick_eq, if_true, hf1]
 refine hsame.call fun s11 E11 => ?_
 exact ⟨(B true, s11), by simp, rfl⟩
theorem ParseReads_ok {s : Small} (hs : s.Ok) {v v1 : Value} {st : St} (hR : RSmall (Bel st.next) st v s) (hn : s.blocks.length < 2 ^ 62) {gs : List Int} (hg : RSl (Bel st.next) st 1 (fun cs n => cs = [U n]) v1 gs) (hgb : ∀ n ∈ gs, 0 ≤ n ∧ n ≤ 255) (cut : Bool) (hv : VOk st) : Ok (K.go (.call n_refinerylaw05_ParseReads [v, v1, B cut]) st) fun r => r.1 = B true := by
 refine refinerylaw05_ParseReads_of hF fun J hJ => ?_
 rw [refinerylaw05_ParseReads_eq]
 have hbx : ∀ s', sLbox v s' = .ok (v, s'.bump) := by obtain ⟨vb, rfl, _⟩ := hR; exact fun s' => rfl
 have hf3 : ∀ s', sField (some 3) 0 v s' = .ok (v, s') := by obtain ⟨vb, rfl, _⟩ := hR; exact fun s' => rfl
 have E0 : Ext st st.bump := (Ext.refl st).bump
 simp only [hbx, thn_ok]
 refine (Awake05_ok hF (hv.mono E0)).call fun s1 E1 => ?_
 have X1 := E0.trans E1
 have hA : ∀ {s'}, Ext st s' → ∀ id, Bel st.next id → id < s'.next := fun hE id h => Nat.lt_of_lt_of_le h hE.next
 simp only [sUn_not, Bool.not_true, thn_ok, condX_eq, cond_false, refinerylaw05_ParseReads_j0_eq hJ, hf3]
 refine (Light_ok hF (hA X1) (hR.mono (X1.agree fun _ h => h)) hn).call fun s2 E2 => ?_
 have X2 := X1.trans E2
 cases hl : s.light with
 | false => simp
 | true =>
   have hlen : ∀ s', sLen .slice v1 s' = .ok (I gs.length, s') := hg.len
   simp only [sUn_not, Bool.not_true, thn_ok, sG_eq, beq_self_eq_true, cond_true, hlen, sGtr, sPick_eq, Bool.false_eq_true, if_false, condX_eq]
   by_cases h40 : (40 : Int) < gs.length
   ·simp [h40]
   simp only [decide_eq_false h40, cond_false, refinerylaw05_ParseReads_j1_eq hJ, hf3, thn_ok]
   refine (Program_ok hF (X2.roOk hv.ro) hs hl (hA X2) (hR.mono (X2.agree fun _ h => h))).thn fun ⟨r1, s3⟩ ⟨vp, ids, e1, e2, e3, e4, e5⟩ => ?_
   simp only at e1 e2 e4 e5
   subst e1
   have X3 := X2.trans e5
   have E4 : Ext s3 s3.bump := (Ext.refl s3).bump
   have X4 := X3.trans E4
   have hup : ∀ s', sUpd 1 0 (.agg #[.slice none 0 0]) (.agg #[vp]) s' = .ok (.agg #[vp], s') := fun s' => by simp [Res.need, RepSl.cell e2]
   have hf1 : ∀ v s', sField (some 1) 0 (.agg #[v]) s' = .ok (.agg #[v], s') := fun m s' => rfl
   have r4 : PProg s3.bump vp s.prog ids := e2.frame fun id hid => E4.get _ (e4 id hid).2
   have hg4 := small_good hs hl
   have hcn := small_count hs hl
   have hrl := rdP_len s.prog
   simp only [thn_ok, sLnew_eq, hup, hf1]
   refine TokText_ok hF (fun id hid => Nat.lt_of_lt_of_le (e4 id hid).2 E4.next) r4.read hg4 (by omega) (X4.roOk hv.ro) fun vt n0 s5 hn0 o5 E5 => ?_
   have X5 := X4.trans E5
   have r5 : PProg s5 vp s.prog ids := r4.frame fun id hid => E5.get _ (Nat.lt_of_lt_of_le (e4 id hid).2 E4.next)
   have hids5 : ∀ id ∈ ids, id < s5.next := fun id hid => Nat.lt_of_lt_of_le (e4 id hid).2 (E4.trans E5).next
   have hpl := len_le s.prog
   have hfit : ∀ b ∈ s.prog, b.fits := fun b hb => by
    have hc := count_mem hb
    have hp := (hg4 b hb).phis
    exact ⟨by rw [hp]; simp, by omega, by rw [hp]; simp⟩
   have hg5 : RSl (Bel st.next) s5 1 (fun cs n => cs = [U n]) v1 gs := hg.mono (fun _ h => h) (X5.agree fun _ h => h) fun _ _ _ h => h
   have v5 := hv.mono X5
   have hck := small_check hs hl
   cases cut with
   | false =>
     simp only [condX_eq, cond_false]
     exact ParseReads_end hF hJ (items_P hg4) (by omega) (by omega) r5 hids5 (by omega) hfit hg5 (hA X5) hgb (rsl_toks o5) (fun id hid => hid.2) v5 fun h st hv => Parse_text hF hg4 hck (by omega) h hv
   | true =>
     have hne := small_ne hs hl
     have hrne : (rdP s.prog).length ≠ 0 := by
      obtain ⟨b, q, e⟩ := List.exists_cons_of_ne_nil hne
      rw [e]
      simp [rdP, rdB]
     have hlt : ∀ s', sLen .slice vt s' = .ok (I (rdP s.prog).length, s') := (rsl_toks o5).len
     have hsub : IntKind.i64.wrap (((rdP s.prog).length : Int) - 1) = (((rdP s.prog).length - 1 : Nat) : Int) := by rw [wrap_id (by omega)]; omega
     obtain ⟨v', h1, h2⟩ := toks_to o5 (k := (rdP s.prog).length - 1) (by omega)
     have hdl : (rdP s.prog).take ((rdP s.prog).length - 1) = (rdP s.prog).dropLast := (List.dropLast_eq_take ..).symm
     rw [hdl] at h2
     simp only [condX_eq, cond_true, hlt, thn_ok, sSub, hsub, h1]
     exact ParseReads_end hF hJ (fun q hq => items_P hg4 q (List.dropLast_subset _ hq)) (by rw [List.length_dropLast]; omega) (by omega) r5 hids5 (by omega) hfit hg5 (hA X5) hgb h2 (fun id hid => hid.2) v5 fun h st hv => Parse_cut hF hne hg4 hck (by omega) h hv
theorem ParseReads_args {st : St} (hv : VOk st) (args : List Value) (h : WVs pg st [24, 25, 4] args) : Ok (K.go (.call n_refinerylaw05_ParseReads args) st) fun r => r.1 = .bool true := by
 match args, h with
 | [v0, v1, v2], ⟨h0, h1, h2, _⟩ =>
   obtain ⟨s, hR, hs, hn⟩ := wv_Small h0
   obtain ⟨gs, hg, hgb, _⟩ := wv_gaps h1
   obtain ⟨cut, rfl⟩ := h2.bool Tryd.underlying4
   exact ParseReads_ok hF hs hR hn hg hgb cut hv
end Go.Proofs.YtdjfndijbnpkpaaDoor.Sh
