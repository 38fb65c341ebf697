/-
  ParsePlaces: whatever it is given, the law's function answers true.
-/
import Derived.Test.YtdjfndijbnpkpaaDoorPCnt
import Derived.Test.YtdjfndijbnpkpaaDoorShL3
set_option linter.unusedVariables false
set_option linter.unusedSimpArgs false
set_option linter.unusedSectionVars false
set_option linter.unnecessarySimpa false
set_option maxRecDepth 100000
namespace Go.AM.Lx
def evsF : Nat → List UInt8 → Nat → List Ev
 | 0, _, _ => []
 | f + 1, [], a => [(endT a, 0)]
 | f + 1, c :: r, a =>
   if c.toNat = 32 then evsF f r (a + 1)
   else if (next (c :: r) a).2 = 0 then [(endT a, 4)]
   else ((next (c :: r) a).1, 0) :: evsF f ((c :: r).drop (next (c :: r) a).2) (a + (next (c :: r) a).2)
theorem evsF_eq : ∀ (f : Nat) (l : List UInt8) (a : Nat), l.length < f → (∀ c ∈ l, c.toNat ≠ 35) → evs l a = evsF f l a := by
 intro f
 induction f with
 | zero => intro l a h; omega
 | succ f ih =>
   intro l a h h35
   cases l with
   | nil => rw [evs_nil]; rfl
   | cons c r =>
     unfold evsF
     by_cases h1 : c.toNat = 32
     ·rw [if_pos h1, evs_blank _ _ h1, ih _ _ (by simp at h; omega) fun x hx => h35 x (List.mem_cons_of_mem _ hx)]
     ·have h2 := h35 c (List.mem_cons_self ..)
      rw [if_neg h1]
      by_cases h3 : (next (c :: r) a).2 = 0
      ·rw [if_pos h3, evs_bad h1 h2 h3]
      ·rw [if_neg h3, evs_tok h1 h2 h3, ih _ _ (by rw [List.length_drop]; simp at h ⊢; omega) fun x hx => h35 x (List.mem_of_mem_drop hx)]
end Go.AM.Lx
namespace Go.Proofs.YtdjfndijbnpkpaaDoor.Sh
open Go Go.AM Go.Proofs Go.AM.Lx
theorem lay_refl : ∀ l : List Rd, Lay l (l.map (·.2)) := by
 intro l
 induction l with
 | nil => exact .nil
 | cons p l ih => exact .cons ⟨rfl, rfl, rfl⟩ ih
theorem lay_app {l m : List Rd} {ts us : List Tok} (h : Lay l ts) (k : Lay m us) : Lay (l ++ m) (ts ++ us) := by
 induction h with
 | nil => exact k
 | cons h _ ih => exact .cons h ih
 | dbl h h1 h2 _ ih => exact .dbl h h1 h2 ih
theorem lay_kinds {l : List Rd} {ts : List Tok} (h : Lay l ts) (hl : ∀ p ∈ l, p.2.kind ≠ 0) : ∀ t ∈ ts, t.kind ≠ 0 := by
 induction h with
 | nil => simp
 | cons h _ ih =>
   intro t ht
   rcases List.mem_cons.1 ht with rfl | ht
   ·rw [h.1]; exact hl _ (List.mem_cons_self ..)
   ·exact ih (fun p hp => hl p (List.mem_cons_of_mem _ hp)) t ht
 | dbl h h1 h2 _ ih =>
   intro t ht
   rcases List.mem_cons.1 ht with rfl | ht
   ·rw [h1]; decide
   rcases List.mem_cons.1 ht with rfl | ht
   ·rw [h2]; decide
   ·exact ih (fun p hp => hl p (List.mem_cons_of_mem _ hp)) t ht
theorem kinds_P (p : Prog) : ∀ q ∈ rdP p, q.2.kind ≠ 0 := by
 intro q hq
 unfold rdP at hq
 obtain ⟨b, hb, hq⟩ := List.mem_flatMap.1 hq
 unfold rdB at hq
 simp only [List.mem_append, List.mem_cons, List.not_mem_nil, or_false, List.mem_flatMap] at hq
 rcases hq with ((((rfl | rfl | rfl) | ⟨x, hx, hq⟩) | hq) | rfl)
 ·simp only [rLab]; decide
 ·decide
 ·decide
 ·rcases hq with hq | rfl
  ·unfold rdI at hq
   (repeat' split at hq) <;> simp only [List.mem_cons, List.not_mem_nil, or_false] at hq <;> (repeat' (rcases hq with rfl | hq)) <;> first | (simp only [rReg, rSign, rNum, rWord, rSlot]; decide) | (rw [hq]; simp only [rReg, rSign, rNum, rWord, rSlot]; decide)
  ·decide
 ·unfold rdL at hq
  (repeat' split at hq) <;> simp only [List.mem_cons, List.not_mem_nil, or_false] at hq <;> (repeat' (rcases hq with rfl | hq)) <;> first | (simp only [rReg, rSign, rNum, rWord, rSlot, rLab]; decide) | (rw [hq]; simp only [rReg, rSign, rNum, rWord, rSlot, rLab]; decide)
 ·decide
theorem split_zz {gs : List Int} {l m : List Rd} (hl : ∀ p ∈ l, Item p) (hm : ∀ p ∈ m, Item p) (hn : (textG gs l 0 ++ [122, 122, 32] ++ textG gs m 0).length ≤ 100000) :
 ∃ ts us e, Lay l ts ∧ Lay m us ∧ e.kind = 0 ∧ split (events (textG gs l 0 ++ [122, 122, 32] ++ textG gs m 0)) = (ts ++ ⟨1, (textG gs l 0).length, [122, 122], 0⟩ :: (us ++ [e]), 0, 0) := by
 obtain ⟨ts, h1, h2⟩ := lay_text gs l 0 0 hl
 obtain ⟨us, h3, h4⟩ := lay_text gs m 0 ((textG gs l 0).length + 3) hm
 refine ⟨ts, us, endT ((textG gs l 0).length + 3 + (textG gs m 0).length), h1, h3, rfl, ?_⟩
 unfold events
 rw [if_neg (by omega)]
 have hw : Reads [122, 122] ⟨1, 0, [122, 122], 0⟩ := Reads.word (by simp) (by decide) (by simp)
 have e : textG gs l 0 ++ [122, 122, 32] ++ textG gs m 0 = textG gs l 0 ++ ([122, 122] ++ 32 :: textG gs m 0) := by simp
 have h5 := h4 []
 rw [List.append_nil, evs_nil] at h5
 rw [e, h2, hw.ok, evs_blank _ _ (by decide), Nat.zero_add]
 have e3 : (textG gs l 0).length + ([122, 122] : List UInt8).length + 1 = (textG gs l 0).length + 3 := rfl
 rw [e3, h5]
 have e2 : ts.map (fun t => (t, (0 : Int))) ++ ((⟨1, (textG gs l 0).length, [122, 122], 0⟩ : Tok), (0 : Int)) :: (us.map (fun t => (t, (0 : Int))) ++ [(endT ((textG gs l 0).length + 3 + (textG gs m 0).length), 0)]) = (ts ++ ⟨1, (textG gs l 0).length, [122, 122], 0⟩ :: us).map (fun t => (t, (0 : Int))) ++ [(endT ((textG gs l 0).length + 3 + (textG gs m 0).length), 0)] := by simp
 rw [e2, split_toks, split_cons, if_pos rfl]
 unfold Lx.ahead Lx.split
 simp
variable {K : Ctx} (hF : Fix pgF K)
include hF
theorem Parse_const {s : List UInt8} (hs : s.length < 200 ∧ ∀ c ∈ s, c.toNat ≠ 35) {ts : List Tok} (ht : split (evsF 200 s 0) = (ts, 0, 0)) {e : Int} {a : Nat} {c : Int} (hp : (PS.prog 30 ⟨ts, 0, 0⟩).map (fun r => (r.2.err, r.2.at_, if r.2.err = 0 then check r.1 else 1)) = some (e, a, c)) (hec : e ≠ 0 ∨ c ≠ 0) {st : St} (hv : VOk st) :
 Ok (K.go (.call n_parse_Parse [T s]) st) (ParsePost st [] (if e ≠ 0 then a else s.length) (if e = 0 then c else e)) := by
 have hsp : split (events s) = (ts, 0, 0) := by
  unfold events
  rw [if_neg (by omega), evsF_eq 200 s 0 hs.1 hs.2, ht]
 cases hr : PS.prog 30 ⟨ts, 0, 0⟩ with
 | none => rw [hr] at hp; cases hp
 | some r =>
   rw [hr] at hp
   simp only [Option.map_some, Option.some.injEq, Prod.mk.injEq] at hp
   obtain ⟨h1, h2, h3⟩ := hp
   have hl : ts.length ≤ 1000000 := by have := (split_toksOk hsp).1; omega
   have := Parse_out hF (by omega) hsp (by omega) hr hl hv
   rw [h1, h2] at this
   rw [h1] at h3
   refine this.mono fun q hq => ?_
   unfold outP outE at hq
   by_cases he : e = 0
   ·rw [if_pos he] at h3
    have hc : ¬ c = 0 := by rcases hec with k | k; exact absurd he k; exact k
    rw [h3, if_neg (fun h => hc h.2), if_neg (fun h => h he), if_neg hc, if_pos he] at hq
    rw [if_neg (fun h => h he), if_pos he]
    exact hq
   ·rw [if_neg (fun h => he h.1), if_pos he, if_neg he] at hq
    rw [if_pos he, if_neg he]
    exact hq
theorem ParsePlaces_ok {s : Small} (hs : s.Ok) {v v1 : Value} {st : St} (hR : RSmall (Bel st.next) st v s) (hn : s.blocks.length < 2 ^ 62) {gs : List Int} (hg : RSl (Bel st.next) st 1 (fun cs n => cs = [U n]) v1 gs) (hgb : ∀ n ∈ gs, 0 ≤ n ∧ n ≤ 255) {c : Int} (hc : 0 ≤ c ∧ c ≤ 65535) (hv : VOk st) : Ok (K.go (.call n_refinerylaw05_ParsePlaces [v, v1, .int .u16 c]) st) fun r => r.1 = B true := by
 refine refinerylaw05_ParsePlaces_of hF fun J hJ => ?_
 rw [refinerylaw05_ParsePlaces_eq]
 have hbx : ∀ s', sLbox v s' = .ok (v, s'.bump) := by obtain ⟨vb, rfl, _⟩ := hR; exact fun s' => rfl
 have hf3 : ∀ s', sField (some 3) 0 v s' = .ok (v, s') := by obtain ⟨vb, rfl, _⟩ := hR; exact fun s' => rfl
 have E0 : Ext st st.bump := (Ext.refl st).bump
 simp only [hbx, thn_ok]
 refine (Awake05_ok hF (hv.mono E0)).call fun s1 E1 => ?_
 have X1 := E0.trans E1
 have hA : ∀ {s'}, Ext st s' → ∀ id, Bel st.next id → id < s'.next := fun hE id h => Nat.lt_of_lt_of_le h hE.next
 simp only [sUn_not, Bool.not_true, thn_ok, condX_eq, cond_false, refinerylaw05_ParsePlaces_j0_eq hJ, hf3]
 refine (Light_ok hF (hA X1) (hR.mono (X1.agree fun _ h => h)) hn).call fun s2 E2 => ?_
 have X2 := X1.trans E2
 cases hl : s.light with
 | false => simp
 | true =>
   have hlen : ∀ s', sLen .slice v1 s' = .ok (I gs.length, s') := hg.len
   simp only [sUn_not, Bool.not_true, thn_ok, sG_eq, beq_self_eq_true, cond_true, hlen, sGtr, sPick_eq, Bool.false_eq_true, if_false, condX_eq]
   by_cases h40 : (40 : Int) < gs.length
   ·simp [h40]
   simp only [decide_eq_false h40, cond_false, refinerylaw05_ParsePlaces_j1_eq hJ, hf3, thn_ok]
   refine (Program_ok hF (X2.roOk hv.ro) hs hl (hA X2) (hR.mono (X2.agree fun _ h => h))).thn fun ⟨r1, s3⟩ ⟨vp, ids, e1, e2, e3, e4, e5⟩ => ?_
   simp only at e1 e2 e4 e5
   subst e1
   have X3 := X2.trans e5
   have hg4 := small_good hs hl
   have hcn := small_count hs hl
   have hck := small_check hs hl
   have hpne := small_ne hs hl
   have hrl := rdP_len s.prog
   simp only [thn_ok]
   refine TokText_ok hF (fun id hid => (e4 id hid).2) e2.read hg4 (by omega) (X3.roOk hv.ro) fun vt n0 s5 hn0 o5 E5 => ?_
   have X5 := X3.trans E5
   have hlt : ∀ s', sLen .slice vt s' = .ok (I (rdP s.prog).length, s') := (rsl_toks o5).len
   have c1 : ∀ s', sConv (.int .i64) (.int .u16 c) s' = .ok (I c, s') := fun s' => by simp [wrap_id (n := c) (by omega)]
   have hl0 : 0 < (rdP s.prog).length := by
    cases hp : s.prog with
    | nil => exact absurd hp hpne
    | cons b p => exact List.length_pos_iff.2 (by unfold rdP rdB; simp)
   obtain ⟨k, hk1, hk2⟩ : ∃ k : Nat, c.tmod ((rdP s.prog).length : Int) = k ∧ k < (rdP s.prog).length := by
    refine ⟨(c % ((rdP s.prog).length : Int)).toNat, ?_, ?_⟩
    ·rw [Int.tmod_eq_emod_of_nonneg hc.1]
     have := Int.emod_nonneg c (show ((rdP s.prog).length : Int) ≠ 0 by omega)
     omega
    ·have := Int.emod_nonneg c (show ((rdP s.prog).length : Int) ≠ 0 by omega)
     have := Int.emod_lt_of_pos c (show 0 < ((rdP s.prog).length : Int) by omega)
     omega
   have hs1 : ∀ s', Ext s5 s' → ∃ v', sSlice (.slice 1) vt none (some (I k)) none s' = .ok (v', s') ∧ RSl (Rng n0 s'.next) s' 1 RRd v' ((rdP s.prog).take k) := fun s' hE => toks_to (o5.mono hE) (by omega)
   have hs2 : ∀ s', Ext s5 s' → ∃ v', sSlice (.slice 1) vt (some (I k)) none none s' = .ok (v', s') ∧ RSl (Rng n0 s'.next) s' 1 RRd v' ((rdP s.prog).drop k) := fun s' hE => toks_from (o5.mono hE) (by omega)
   have hitems := items_P hg4
   have hkinds := kinds_P s.prog
   have hpl : ∀ ts, Lay ((rdP s.prog).take k) ts → ∃ p S, PS.prog 10000 ⟨ts ++ (((rdP s.prog).drop k).map (·.2) ++ [endT 0]), 0, 0⟩ = some (p, S) ∧ S.err = 0 := fun ts hts => by
    have hmem : ∀ b ∈ s.prog, b.instrs.length ≤ 4000 := fun b hb => by
     have := count_mem hb
     omega
    have hpl := len_le s.prog
    have hL : Lay (rdP s.prog) (ts ++ ((rdP s.prog).drop k).map (·.2)) := by
     have := lay_app hts (lay_refl ((rdP s.prog).drop k))
     rwa [List.take_append_drop] at this
    obtain ⟨S, h1, h2⟩ := PS.progL_lay (N := 4000) (e := endT 0) rfl s.prog [] _ 10000 [] (fun b hb => ⟨hg4 b hb, hmem b hb⟩) (by simp) hL (by omega)
    rw [List.append_assoc] at h1
    exact ⟨_, S, h1, h2⟩
   generalize rdP s.prog = l at *
   have hitk : ∀ p ∈ l.take k, Item p := fun p hp => hitems p (List.mem_of_mem_take hp)
   have hitd : ∀ p ∈ l.drop k, Item p := fun p hp => hitems p (List.mem_of_mem_drop hp)
   have hitl := items_len hitk
   have hitl2 := items_len hitd
   have htk : (l.take k).length + (l.drop k).length ≤ 2000 := by rw [List.length_take, List.length_drop]; omega
   have ht1 := textG_len (gs := gs) (i := 0) hitl
   have ht2 := textG_len (gs := gs) (i := 0) hitl2
   obtain ⟨v5, q1, q2⟩ := hs1 s5 (Ext.refl _)
   have hne0 : ((l.length : Nat) : Int) ≠ 0 := by omega
   simp only [c1, thn_ok, hlt, sRem _ _ _ hne0, hk1, q1]
   refine (Text_ok hF (fun id hid => hid.2) (hA X5) q2 (hg.mono (fun _ h => h) (X5.agree fun _ h => h) fun _ _ _ h => h) hgb (X5.roOk hv.ro) hitl (by omega) (by omega)).call fun s6 E6 => ?_
   have X6 := X5.trans E6
   obtain ⟨v6, u1, u2⟩ := hs2 s6 E6
   have ha : ∀ s', sBin .add (T (textG gs (l.take k) 0)) (T [122, 122, 32]) s' = .ok (T (textG gs (l.take k) 0 ++ [122, 122, 32]), s') := fun s' => sAdd_T _ _ _ (by simp only [List.length_cons, List.length_nil]; omega)
   simp only [thn_ok, T_bstr, ha, u1]
   refine (Text_ok hF (fun id hid => hid.2) (hA X6) u2 (hg.mono (fun _ h => h) (X6.agree fun _ h => h) fun _ _ _ h => h) hgb (X6.roOk hv.ro) hitl2 (by omega) (by omega)).call fun s7 E7 => ?_
   have X7 := X6.trans E7
   have hll : (textG gs (l.take k) 0 ++ [122, 122, 32] ++ textG gs (l.drop k) 0).length ≤ 100000 := by simp only [List.length_append, List.length_cons, List.length_nil]; omega
   have ha : ∀ s', sBin .add (T (textG gs (l.take k) 0 ++ [122, 122, 32])) (T (textG gs (l.drop k) 0)) s' = .ok (T (textG gs (l.take k) 0 ++ [122, 122, 32] ++ textG gs (l.drop k) 0), s') := fun s' => sAdd_T _ _ _ (by simp only [List.length_append, List.length_cons, List.length_nil]; omega)
   simp only [thn_ok, ha]
   obtain ⟨ts, us, e, y1, y2, y3, y4⟩ := split_zz hitk hitd hll
   obtain ⟨pp, SS, z1, z2⟩ := hpl ts y1
   obtain ⟨x, r1, hx⟩ : ∃ x r1, (l.drop k).map (·.2) ++ [endT 0] = x :: r1 := by
    cases hd : (l.drop k).map (·.2) with
    | nil => exact ⟨_, _, rfl⟩
    | cons x r => exact ⟨_, _, rfl⟩
   rw [hx] at z1
   obtain ⟨p2, S2, w1, w2, w3⟩ := PS.prog_zz (zz := ⟨1, (textG gs (l.take k) 0).length, [122, 122], 0⟩) rfl rfl (r2 := us ++ [e]) (lay_kinds y1 fun p hp => hkinds p (List.mem_of_mem_take hp)) z1 z2
   have hP := Parse_out hF hll y4 (by omega) w1 (by have := (split_toksOk y4).1; omega) (hv.mono X7)
   have ho : outP (p2, S2).1 (p2, S2).2.err = [] := by unfold outP; rw [if_neg (by simp only [w2]; intro h; exact absurd h.1 (by decide))]
   have ho2 : outE (p2, S2).1 (p2, S2).2.err = 5 := by unfold outE; simp only [w2]; rw [if_neg (by decide)]
   rw [ho, ho2, if_pos (by simp only [w2]; decide), show (p2, S2).2.at_ = (textG gs (l.take k) 0).length from w3] at hP
   refine hP.thn fun ⟨r1, s8⟩ ⟨vp8, is8, p1, p2, p3, p4⟩ => ?_
   simp only at p1 p2 p3 p4
   subst p1
   have E9 : Ext s8 s8.bump := (Ext.refl s8).bump
   have X9 := (X7.trans p4).trans E9
   have hu : ∀ {vq : Value} {s' : St} {is}, PProg s' vq [] is → ∀ s'', sUpd 1 0 (.agg #[.slice none 0 0]) (.agg #[vq]) s'' = .ok (.agg #[vq], s'') := fun hp s'' => by simp [Res.need, RepSl.cell hp]
   have hx1 : ∀ {a b c : Value} s', sExtract (.tuple #[a, b, c]) 0 s' = .ok (a, s') ∧ sExtract (.tuple #[a, b, c]) 1 s' = .ok (b, s') ∧ sExtract (.tuple #[a, b, c]) 2 s' = .ok (c, s') := fun s' => ⟨rfl, rfl, rfl⟩
   simp only [(hx1 _).1, (hx1 _).2.1, (hx1 _).2.2, thn_ok, sLnew_eq, hu p2]
   have hc1 := Parse_const hF (s := [64, 48, 58, 10, 37, 49, 32, 61, 32, 53, 10, 111, 117, 116, 32, 37, 49, 48, 48, 48, 48, 48, 10, 116, 114, 97, 112, 10]) (ts := [⟨3,0,[],0⟩, ⟨6,2,[58],0⟩, ⟨7,3,[],0⟩, ⟨2,4,[],1⟩, ⟨6,7,[61],0⟩, ⟨5,9,[],5⟩, ⟨7,10,[],0⟩, ⟨1,11,[111,117,116],0⟩, ⟨2,15,[],100000⟩, ⟨7,22,[],0⟩, ⟨1,23,[116,114,97,112],0⟩, ⟨7,27,[],0⟩, ⟨0,28,[],0⟩]) (by decide) (by decide +kernel) (e := 2) (a := 15) (c := 1) (by decide +kernel) (by decide) (hv.mono X9)
   refine hc1.thn fun ⟨r1, s10⟩ ⟨vp10, is10, p1, m2, m3, m4⟩ => ?_
   simp only at p1 m2 m3 m4
   subst p1
   have X11 := (X9.trans m4).trans (Ext.refl s10).bump
   simp only [(hx1 _).1, (hx1 _).2.1, (hx1 _).2.2, thn_ok, sLnew_eq, hu m2]
   have hc2 := Parse_const hF (s := [64, 48, 58, 10, 115, 116, 111, 114, 101, 32, 36, 49, 54, 44, 32, 37, 49, 10, 116, 114, 97, 112]) (ts := [⟨3,0,[],0⟩, ⟨6,2,[58],0⟩, ⟨7,3,[],0⟩, ⟨1,4,[115,116,111,114,101],0⟩, ⟨4,10,[],16⟩, ⟨6,13,[44],0⟩, ⟨2,15,[],1⟩, ⟨7,17,[],0⟩, ⟨1,18,[116,114,97,112],0⟩, ⟨0,22,[],0⟩]) (by decide) (by decide +kernel) (e := 2) (a := 10) (c := 1) (by decide +kernel) (by decide) (hv.mono X11)
   refine hc2.thn fun ⟨r1, s12⟩ ⟨vp12, is12, p1, k2, k3, k4⟩ => ?_
   simp only at p1 k2 k3 k4
   subst p1
   have X13 := (X11.trans k4).trans (Ext.refl s12).bump
   simp only [(hx1 _).1, (hx1 _).2.1, (hx1 _).2.2, thn_ok, sLnew_eq, hu k2]
   have hc3 := Parse_const hF (s := [64, 48, 58, 10, 106, 117, 109, 112, 32, 64, 49]) (ts := [⟨3,0,[],0⟩, ⟨6,2,[58],0⟩, ⟨7,3,[],0⟩, ⟨1,4,[106,117,109,112],0⟩, ⟨3,9,[],1⟩, ⟨0,11,[],0⟩]) (by decide) (by decide +kernel) (e := 0) (a := 0) (c := 9) (by decide +kernel) (by decide) (hv.mono X13)
   refine hc3.thn fun ⟨r1, s14⟩ ⟨vp14, is14, p1, n2, n3, n4⟩ => ?_
   simp only at p1 n2 n3 n4
   subst p1
   have hf0 : ∀ s', sField none 0 (.agg #[vp10]) s' = .ok (vp10, s') := fun s' => rfl
   have hr0 : ∀ s', sLref (.agg #[vp10]) s' = .ok (nothing, s') := fun s' => rfl
   have hl10 : ∀ s', sLen .slice vp10 s' = .ok (I 0, s') := RepSl.len m2
   simp only [(hx1 _).1, (hx1 _).2.1, (hx1 _).2.2, thn_ok, sLnew_eq, hu n2, sLen_T, sEql, decide_true, sG_eq, beq_self_eq_true, cond_true, sPick_eq, if_true, hr0, hf0, hl10]
   exact ⟨(B true, s14.bump), by simp, rfl⟩
theorem ParsePlaces_args {st : St} (hv : VOk st) (args : List Value) (h : WVs pg st [24, 25, 26] args) : Ok (K.go (.call n_refinerylaw05_ParsePlaces args) st) fun r => r.1 = .bool true := by
 match args, h with
 | [v0, v1, v2], ⟨h0, h1, h2, _⟩ =>
   obtain ⟨s, hR, hs, hn⟩ := wv_Small h0
   obtain ⟨gs, hg, hgb, _⟩ := wv_gaps h1
   obtain ⟨c, rfl, w⟩ := h2.int Tryd.underlying26
   refine ParsePlaces_ok hF hs hR hn hg hgb ?_ hv
   simpa [Lit.wf, IntKind.min, IntKind.max, IntKind.signed, IntKind.bits] using w
end Go.Proofs.YtdjfndijbnpkpaaDoor.Sh
