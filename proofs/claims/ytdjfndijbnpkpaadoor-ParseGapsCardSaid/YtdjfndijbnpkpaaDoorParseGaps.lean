/-
  ParseGaps: whatever it is given, the law's function answers true.
-/
import Derived.Test.YtdjfndijbnpkpaaDoorPCnt
import Derived.Test.YtdjfndijbnpkpaaDoorShL5
set_option linter.unusedVariables false
set_option linter.unusedSimpArgs false
set_option linter.unusedSectionVars false
set_option linter.unnecessarySimpa false
set_option maxRecDepth 100000
namespace Go.Proofs.YtdjfndijbnpkpaaDoor.Sh
open Go Go.AM Go.Proofs Go.AM.Lx
theorem PS.progL_phis : ∀ (f : Nat) (s : PS) (l : Prog) r, PS.progL f s l = some r → (∀ b ∈ l, b.phis = []) → ∀ b ∈ r.1, b.phis = [] := by
 intro f
 induction f with
 | zero => intro s l r h; cases h
 | succ f ih =>
   intro s l r h hl
   rw [PS.progL_succ] at h
   split at h
   ·split at h
    ·rename_i b s' hb
     refine ih _ _ _ h fun c hc => ?_
     rcases List.mem_append.1 hc with hc | hc
     ·exact hl c hc
     ·rw [List.mem_singleton.1 hc]
      unfold PS.block at hb
      split at hb
      ·cases hb; rfl
      ·cases hb
    ·cases h
   ·cases h
    exact hl
theorem PS.prog_phis {f : Nat} {ts : List Tok} {r} (h : PS.prog f ⟨ts, 0, 0⟩ = some r) : ∀ b ∈ r.1, b.phis = [] := PS.progL_phis _ _ _ _ h (by simp)
def outP (p : Prog) (e : Int) : Prog := if e = 0 ∧ check p = 0 then p else []
def outE (p : Prog) (e : Int) : Int := if e = 0 then check p else e
theorem split_lay2 {gs : List Int} {l : List Rd} (h : ∀ p ∈ l, Item p) (hl : (textG gs l 0).length ≤ 100000) : ∃ ts, Lay l ts ∧ split (events (textG gs l 0)) = (ts ++ [endT (textG gs l 0).length], 0, 0) := by
 obtain ⟨ts, h1, h2⟩ := lay_text gs l 0 0 h
 refine ⟨ts, h1, ?_⟩
 unfold events
 rw [if_neg (by omega)]
 have := h2 []
 rw [List.append_nil, evs_nil, Nat.zero_add] at this
 rw [this, split_toks, split_cons, if_pos rfl]
 unfold Lx.ahead Lx.split
 rfl
variable {K : Ctx} (hF : Fix pgF K)
include hF
theorem Parse_out {s : List UInt8} (hs : s.length ≤ 100000) {ts : List Tok} (hsp : split (events s) = (ts, 0, 0)) {f : Nat} (hf : f ≤ 100000000) {r} (hr : PS.prog f ⟨ts, 0, 0⟩ = some r) (hts : ts.length ≤ 1000000) {st : St} (hv : VOk st) :
 Ok (K.go (.call n_parse_Parse [T s]) st) (ParsePost st (outP r.1 r.2.err) (if r.2.err ≠ 0 then r.2.at_ else if check r.1 = 0 then 0 else s.length) (outE r.1 r.2.err)) := by
 refine Parse_all hF (by unfold Short; omega) hv (fun hne => by rw [hsp] at hne; exact absurd rfl hne) fun _ => ?_
 rw [hsp]
 have hph := PS.prog_phis hr
 refine ⟨f, r.1, r.2, hf, hr, fun hne => ?_, fun h0 => ⟨?_, hph, fun hc => ?_, fun hc => ?_⟩⟩
 ·unfold outP outE
  rw [if_neg (fun h => hne h.1), if_pos hne, if_neg hne]
  exact ⟨rfl, rfl, rfl⟩
 ·have h1 := PS.prog_len hr h0
  have h2 := PS.count_rd r.1 hph
  omega
 ·unfold outP outE
  rw [if_neg (fun h => hc h.2), if_neg (fun h => h h0), if_neg hc, if_pos h0]
  exact ⟨rfl, rfl, rfl⟩
 ·unfold outP outE
  rw [if_pos ⟨h0, hc⟩, if_neg (fun h => h h0), if_pos hc, if_pos h0, hc]
  exact ⟨rfl, rfl, rfl⟩
theorem Parse_gap {l : List Rd} (hit : ∀ p ∈ l, Item p) (hll : l.length ≤ 100000) {f : Nat} (hf : f ≤ 100000000) {r} (hr : PS.prog f ⟨l.map (·.2) ++ [endT 0], 0, 0⟩ = some r) {gs : List Int} (hl : (textG gs l 0).length ≤ 100000) {st : St} (hv : VOk st) :
 Ok (K.go (.call n_parse_Parse [T (textG gs l 0)]) st) fun q => ∃ a, ParsePost st (outP r.1 r.2.err) a (outE r.1 r.2.err) q := by
 obtain ⟨ts, h1, h2⟩ := split_lay2 hit hl
 obtain ⟨t, h3, h4⟩ := PS.prog_gaps h1 (e := endT (textG gs l 0).length) rfl rfl rfl hr
 have hlen : ts.length ≤ 2 * l.length := by
  clear h2 h3 h4 hr hit hl hll
  induction h1 with
  | nil => simp
  | cons _ _ ih => simp only [List.length_cons]; omega
  | dbl _ _ _ _ ih => simp only [List.length_cons]; omega
 refine (Parse_out hF hl h2 hf h3 (by rw [List.length_append]; simp; omega) hv).mono fun q hq => ?_
 simp only [h4] at hq
 exact ⟨_, hq⟩
theorem ParseGaps_ok {s : Small} (hs : s.Ok) {v v1 v2 : Value} {st : St} (hR : RSmall (Bel st.next) st v s) (hn : s.blocks.length < 2 ^ 62) {gs gs2 : List Int} (hg : RSl (Bel st.next) st 1 (fun cs n => cs = [U n]) v1 gs) (hgb : ∀ n ∈ gs, 0 ≤ n ∧ n ≤ 255) (hg2 : RSl (Bel st.next) st 1 (fun cs n => cs = [U n]) v2 gs2) (hgb2 : ∀ n ∈ gs2, 0 ≤ n ∧ n ≤ 255) {c : Int} (hc : 0 ≤ c ∧ c ≤ 65535) (hv : VOk st) : Ok (K.go (.call n_refinerylaw05_ParseGaps [v, v1, v2, .int .u16 c]) st) fun r => r.1 = B true := by
 refine refinerylaw05_ParseGaps_of hF fun J hJ => ?_
 rw [refinerylaw05_ParseGaps_eq]
 have hbx : ∀ s', sLbox v s' = .ok (v, s'.bump) := by obtain ⟨vb, rfl, _⟩ := hR; exact fun s' => rfl
 have hf3 : ∀ s', sField (some 3) 0 v s' = .ok (v, s') := by obtain ⟨vb, rfl, _⟩ := hR; exact fun s' => rfl
 have E0 : Ext st st.bump := (Ext.refl st).bump
 simp only [hbx, thn_ok]
 refine (Awake05_ok hF (hv.mono E0)).call fun s1 E1 => ?_
 have X1 := E0.trans E1
 have hA : ∀ {s'}, Ext st s' → ∀ id, Bel st.next id → id < s'.next := fun hE id h => Nat.lt_of_lt_of_le h hE.next
 simp only [sUn_not, Bool.not_true, thn_ok, condX_eq, cond_false, refinerylaw05_ParseGaps_j0_eq hJ, hf3]
 refine (Light_ok hF (hA X1) (hR.mono (X1.agree fun _ h => h)) hn).call fun s2 E2 => ?_
 have X2 := X1.trans E2
 cases hl : s.light with
 | false => simp
 | true =>
   have hlen : ∀ s', sLen .slice v1 s' = .ok (I gs.length, s') := hg.len
   have hlen2 : ∀ s', sLen .slice v2 s' = .ok (I gs2.length, s') := hg2.len
   simp only [sUn_not, Bool.not_true, thn_ok, sG_eq, beq_self_eq_true, cond_true, hlen, sGtr, sPick_eq, Bool.false_eq_true, if_false, condX_eq]
   by_cases h40 : (40 : Int) < gs.length
   ·simp [h40]
   simp only [decide_eq_false h40, sG_eq, beq_self_eq_true, cond_true, thn_ok, hlen2, sGtr, sPick_eq, Bool.false_eq_true, if_false, condX_eq]
   by_cases h41 : (40 : Int) < gs2.length
   ·simp [h41]
   simp only [decide_eq_false h41, cond_false, refinerylaw05_ParseGaps_j1_eq hJ, hf3, thn_ok]
   refine (Program_ok hF (X2.roOk hv.ro) hs hl (hA X2) (hR.mono (X2.agree fun _ h => h))).thn fun ⟨r1, s3⟩ ⟨vp, ids, e1, e2, e3, e4, e5⟩ => ?_
   simp only at e1 e2 e4 e5
   subst e1
   have X3 := X2.trans e5
   have hg4 := small_good hs hl
   have hcn := small_count hs hl
   have hrl := rdP_len s.prog
   simp only [thn_ok]
   refine TokText_ok hF (fun id hid => (e4 id hid).2) e2.read hg4 (by omega) (X3.roOk hv.ro) fun vt n0 s5 hn0 o5 E5 => ?_
   have X5 := X3.trans E5
   have hlt : ∀ s', sLen .slice vt s' = .ok (I (rdP s.prog).length, s') := (rsl_toks o5).len
   have c1 : ∀ s', sConv (.int .i64) (.int .u16 c) s' = .ok (I c, s') := fun s' => by simp [wrap_id (n := c) (by omega)]
   have hw : IntKind.i64.wrap (((rdP s.prog).length : Int) + 1) = ((rdP s.prog).length : Int) + 1 := wrap_id (by omega)
   obtain ⟨k, hk1, hk2⟩ : ∃ k : Nat, c.tmod (((rdP s.prog).length : Int) + 1) = k ∧ k ≤ (rdP s.prog).length := by
    refine ⟨(c % (((rdP s.prog).length : Int) + 1)).toNat, ?_, ?_⟩
    ·rw [Int.tmod_eq_emod_of_nonneg hc.1]
     have := Int.emod_nonneg c (show ((rdP s.prog).length : Int) + 1 ≠ 0 by omega)
     omega
    ·have := Int.emod_nonneg c (show ((rdP s.prog).length : Int) + 1 ≠ 0 by omega)
     have := Int.emod_lt_of_pos c (show 0 < ((rdP s.prog).length : Int) + 1 by omega)
     omega
   have hs1 : ∀ s', Ext s5 s' → ∃ v', sSlice (.slice 1) vt none (some (I k)) none s' = .ok (v', s') ∧ RSl (Rng n0 s'.next) s' 1 RRd v' ((rdP s.prog).take k) := fun s' hE => toks_to (o5.mono hE) hk2
   have hitems := items_P hg4
   generalize rdP s.prog = l at *
   have hitk : ∀ p ∈ l.take k, Item p := fun p hp => hitems p (List.mem_of_mem_take hp)
   have hitl := items_len hitk
   have htk : (l.take k).length ≤ 2000 := by rw [List.length_take]; omega
   have ht1 := textG_len (gs := gs) (i := 0) hitl
   have ht2 := textG_len (gs := gs2) (i := 0) hitl
   obtain ⟨r, hr, _⟩ := PS.prog_some (ts := (l.take k).map (·.2) ++ [endT 0]) (f := 10000) (by rw [List.length_append, List.length_map]; simp; omega)
   obtain ⟨v5, q1, q2⟩ := hs1 s5 (Ext.refl _)
   have hne0 : ((l.length : Nat) : Int) + 1 ≠ 0 := by omega
   simp only [c1, thn_ok, hlt, sAdd, hw, sRem _ _ _ hne0, hk1, q1]
   refine (Text_ok hF (fun id hid => hid.2) (hA X5) q2 (hg.mono (fun _ h => h) (X5.agree fun _ h => h) fun _ _ _ h => h) hgb (X5.roOk hv.ro) hitl (by omega) (by omega)).call fun s6 E6 => ?_
   have X6 := X5.trans E6
   refine (Parse_gap hF hitk (by omega) (by omega) hr (gs := gs) (by omega) (hv.mono X6)).thn fun ⟨r1, s7⟩ ⟨a7, vp7, is7, p1, p2, p3, p4⟩ => ?_
   simp only at p1 p2 p3 p4
   subst p1
   have E8 : Ext s7 s7.bump := (Ext.refl s7).bump
   have X8 := (X6.trans p4).trans E8
   have hu7 : ∀ s', sUpd 1 0 (.agg #[.slice none 0 0]) (.agg #[vp7]) s' = .ok (.agg #[vp7], s') := fun s' => by simp [Res.need, RepSl.cell p2]
   obtain ⟨v8, u1, u2⟩ := hs1 s7.bump ((E6.trans p4).trans E8)
   have r8 : PProg s7.bump vp7 (outP r.1 r.2.err) is7 := p2.frame fun id hid => E8.get _ (p3.at_ id hid).2
   simp only [sExtract_eq, List.getElem?_toArray, List.getElem?_cons_zero, List.getElem?_cons_succ, Res.of_some, Res.bind_ok, thn_ok, sLnew_eq, hu7, u1]
   refine (Text_ok hF (fun id hid => hid.2) (hA X8) u2 (hg2.mono (fun _ h => h) (X8.agree fun _ h => h) fun _ _ _ h => h) hgb2 (X8.roOk hv.ro) hitl (by omega) (by omega)).call fun s9 E9 => ?_
   have X9 := X8.trans E9
   refine (Parse_gap hF hitk (by omega) (by omega) hr (gs := gs2) (by omega) (hv.mono X9)).thn fun ⟨r1, s10⟩ ⟨a10, vp10, is10, m1, m2, m3, m4⟩ => ?_
   simp only at m1 m2 m3 m4
   subst m1
   have E11 : Ext s10 s10.bump := (Ext.refl s10).bump
   have hu10 : ∀ s', sUpd 1 0 (.agg #[.slice none 0 0]) (.agg #[vp10]) s' = .ok (.agg #[vp10], s') := fun s' => by simp [Res.need, RepSl.cell m2]
   have hf1 : ∀ v s', sField (some 1) 0 (.agg #[v]) s' = .ok (.agg #[v], s') := fun m s' => rfl
   have E811 := (E9.trans m4).trans E11
   have hi7 : ∀ id ∈ is7, id < s7.bump.next := fun id hid => Nat.lt_of_lt_of_le (p3.at_ id hid).2 E8.next
   have r11 : PProg s10.bump vp7 (outP r.1 r.2.err) is7 := r8.frame fun id hid => E811.get _ (hi7 id hid)
   have r12 : PProg s10.bump vp10 (outP r.1 r.2.err) is10 := m2.frame fun id hid => E11.get _ (m3.at_ id hid).2
   have hph : ∀ b ∈ outP r.1 r.2.err, b.phis = [] := fun b hb => by
    unfold outP at hb
    split at hb
    ·exact PS.prog_phis hr b hb
    ·cases hb
   have hfit : (outP r.1 r.2.err).length < 2 ^ 62 ∧ ∀ b ∈ outP r.1 r.2.err, b.fits := by
    unfold outP
    by_cases h0 : r.2.err = 0 ∧ check r.1 = 0
    ·rw [if_pos h0]
     have h2 := PS.prog_phis hr
     have h1 := (check_parts h0.2).2.2.1
     have h3 := len_le r.1
     refine ⟨by omega, fun b hb => ⟨by rw [h2 b hb]; simp, ?_, by rw [h2 b hb]; simp⟩⟩
     have := count_mem hb
     omega
    ·rw [if_neg h0]
     exact ⟨by simp, by simp⟩
   have hsame := Same_ok hF (A := fun id => id ∈ is7) (A' := fun id => id ∈ is10) (st := s10.bump) (fun id hid => Nat.lt_of_lt_of_le (hi7 id hid) E811.next) (fun id hid => Nat.lt_of_lt_of_le (m3.at_ id hid).2 E11.next) r11.read r12.read hfit.1 hfit.2
   simp only [sExtract_eq, List.getElem?_toArray, List.getElem?_cons_zero, List.getElem?_cons_succ, Res.of_some, Res.bind_ok, thn_ok, sLnew_eq, hu10, sEql, decide_true, sG_eq, beq_self_eq_true, cond_true, sPick_eq, if_true, hf1]
   refine hsame.call fun s12 E12 => ?_
   exact ⟨(B true, s12), by simp, rfl⟩
theorem ParseGaps_args {st : St} (hv : VOk st) (args : List Value) (h : WVs pg st [24, 25, 25, 26] args) : Ok (K.go (.call n_refinerylaw05_ParseGaps args) st) fun r => r.1 = .bool true := by
 match args, h with
 | [v0, v1, v2, v3], ⟨h0, h1, h2, h3, _⟩ =>
   obtain ⟨s, hR, hs, hn⟩ := wv_Small h0
   obtain ⟨gs, hg, hgb, _⟩ := wv_gaps h1
   obtain ⟨gs2, hg2, hgb2, _⟩ := wv_gaps h2
   obtain ⟨c, rfl, w⟩ := h3.int Tryd.underlying26
   refine ParseGaps_ok hF hs hR hn hg hgb hg2 hgb2 ?_ hv
   simpa [Lit.wf, IntKind.min, IntKind.max, IntKind.signed, IntKind.bits] using w
end Go.Proofs.YtdjfndijbnpkpaaDoor.Sh
