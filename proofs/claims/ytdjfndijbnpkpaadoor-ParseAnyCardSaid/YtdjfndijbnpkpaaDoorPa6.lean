/-
  Parse.
-/
import Derived.Test.YtdjfndijbnpkpaaDoorPa5
set_option linter.unusedVariables false
set_option linter.unusedSimpArgs false
set_option linter.unusedSectionVars false
set_option maxRecDepth 100000
namespace Go.AM.Lx
def TokOk (t : Tok) : Prop := t.kind ≠ 0 ∧ -9223372036854775808 ≤ t.n ∧ t.n ≤ 9223372036854775807
theorem number_bound (l : List UInt8) : -9223372036854775808 ≤ (number l).1 ∧ (number l).1 ≤ 9223372036854775807 := by
 unfold number
 cases h : numOf (l.take (numLen l)) with
 | none => simp
 | some v => exact (numOf_some h).2
theorem next_ok' (l : List UInt8) (a : Nat) (h : (next l a).2 ≠ 0) : TokOk (next l a).1 := by
 unfold next at *
 cases l with
 | nil => exact absurd rfl h
 | cons c r =>
   have n1 := number_bound (r.take (digs r))
   have n2 := number_bound (c :: r)
   have hk : regKind c ≠ 0 := by unfold regKind; (repeat' split) <;> decide
   simp only at *
   split
   ·exact ⟨(by simp), (by simp), (by simp)⟩
   ·split
    ·exact ⟨(by simp), (by simp), (by simp)⟩
    ·split
     ·split
      ·exact ⟨hk, (by simp), (by simp)⟩
      ·exact ⟨hk, n1.1, n1.2⟩
     ·split
      ·exact ⟨(by simp), (by simp), (by simp)⟩
      ·exact ⟨(by simp), n2.1, n2.2⟩
theorem split_form : ∀ (n : Nat) (l : List UInt8) (a : Nat), l.length ≤ n → (split (evs l a)).2.2 = 0 → ∃ ts, split (evs l a) = (ts ++ [endT (a + l.length)], 0, 0) ∧ ts.length ≤ l.length ∧ ∀ t ∈ ts, TokOk t := by
 intro n
 induction n with
 | zero =>
   intro l a hn h
   have : l = [] := List.length_eq_zero_iff.1 (by omega)
   subst this
   rw [evs_nil]
   exact ⟨[], rfl, Nat.le_refl _, by simp⟩
 | succ n ih =>
   intro l a hn h
   cases l with
   | nil =>
     rw [evs_nil]
     exact ⟨[], rfl, Nat.le_refl _, by simp⟩
   | cons c r =>
     simp only [List.length_cons] at hn
     by_cases c1 : c.toNat = 32
     ·rw [evs_blank _ _ c1] at h ⊢
      obtain ⟨ts, e, h1, h2⟩ := ih r (a + 1) (by omega) h
      refine ⟨ts, ?_, by simp; omega, h2⟩
      rw [e, List.length_cons]
      simp [Nat.add_comm, Nat.add_left_comm]
     ·by_cases c2 : c.toNat = 35
      ·rw [evs_note _ _ c2] at h ⊢
       have hl := congrArg List.length (List.takeWhile_append_dropWhile (p := fun c : UInt8 => decide (c.toNat ≠ 10)) (l := r))
       rw [List.length_append] at hl
       obtain ⟨ts, e, h1, h2⟩ := ih _ _ (by omega) h
       refine ⟨ts, ?_, by simp; omega, h2⟩
       rw [e, List.length_cons]
       congr 4
       omega
      ·have hk := next_le (c :: r) a
       simp only [List.length_cons] at hk
       by_cases hz : (next (c :: r) a).2 = 0
       ·rw [evs_bad c1 c2 hz] at h
        cases h
       ·rw [evs_tok c1 c2 hz] at h ⊢
        rw [split_cons, if_pos rfl] at h ⊢
        have hd : ((c :: r).drop (next (c :: r) a).2).length = (c :: r).length - (next (c :: r) a).2 := List.length_drop
        simp only [List.length_cons] at hd
        by_cases h3 : (split (evs ((c :: r).drop (next (c :: r) a).2) (a + (next (c :: r) a).2))).2.2 = 0
        ·obtain ⟨ts, e, h1, h2⟩ := ih _ _ (by omega) h3
         rw [if_pos h3, e]
         refine ⟨(next (c :: r) a).1 :: ts, ?_, by simp; omega, fun t ht => ?_⟩
         ·simp only [List.cons_append, hd, List.length_cons]
          congr 5
          omega
         ·rcases List.mem_cons.1 ht with rfl | ht
          ·exact next_ok' _ _ hz
          ·exact h2 t ht
        ·rw [if_neg h3] at h
         exact absurd h h3
theorem split_toksOk {s : List UInt8} {ts : List Tok} (h : split (events s) = (ts, 0, 0)) : ts.length ≤ 100001 ∧ (∀ (i : Nat) t, ts[i]? = some t → (t.kind = 0 ↔ i + 1 = ts.length)) ∧ (∀ t ∈ ts, -9223372036854775808 ≤ t.n ∧ t.n ≤ 9223372036854775807) ∧ 0 < ts.length := by
 unfold events at h
 split at h
 ·cases h
 ·rename_i hl
  obtain ⟨us, e, h1, h2⟩ := split_form s.length s 0 (Nat.le_refl _) (by rw [h])
  rw [e] at h
  cases h
  refine ⟨by simp; omega, fun i t hi => ?_, fun t ht => ?_, by simp⟩
  ·rw [List.getElem?_append] at hi
   split at hi
   ·rename_i hlt
    have := h2 t (List.mem_of_getElem? hi)
    refine ⟨fun hk => absurd hk this.1, fun he => ?_⟩
    simp at he; omega
   ·rename_i hge
    have hi' : i - us.length = 0 := by
     have := (List.getElem?_eq_some_iff.1 hi).1
     simp at this; omega
    rw [hi'] at hi
    cases hi
    refine ⟨fun _ => by simp; omega, fun _ => rfl⟩
  ·rcases List.mem_append.1 ht with ht | ht
   ·exact (h2 t ht).2
   ·rw [List.mem_singleton.1 ht]
    exact ⟨(by simp [endT]), (by simp [endT])⟩
end Go.AM.Lx
namespace Go.Proofs.YtdjfndijbnpkpaaDoor.Sh
open Go Go.AM Go.Proofs Go.AM.Lx
structure SplitR (st : St) (x : List Tok × Nat × Int) (v : Value) (s : St) (ids : List Nat) : Prop where
 ext : Ext st s
 toks : RepSl 4 RTok s v x.1 ids
 nd : ids.Nodup
 fresh : ∀ id ∈ ids, st.next ≤ id ∧ id < s.next
variable {K : Ctx} (hF : Fix pgF K)
include hF
theorem Split_thn {s : List UInt8} (hsh : Short s) {st st1 : St} (hv : VOk st) {R : Type} {f : Value × St → Res R} {Q : R → Prop} (h : ∀ v s' ids, SplitR st (split (events s)) v s' ids → Ok (f (.tuple #[v, I (split (events s)).2.1, I (split (events s)).2.2], s')) Q) :
 Ok (Res.thn st1 (K.go (.call n_lex_Split [T s]) st) f) Q :=
 (Split_ok hF hsh hv).thn fun ⟨a, s'⟩ ⟨v, ids, e, h1, h2, h3, h4⟩ => by
   simp only at e h1 h2 h4
   subst e
   exact h v s' ids ⟨h1, h2, h3, h4⟩
def ParsePost (st : St) (p : Prog) (a e : Int) (r : Value × St) : Prop :=
 ∃ vp ids, r.1 = .tuple #[.agg #[vp], I a, I e] ∧ PProg r.2 vp p ids ∧ Mine st.next r.2 ids ∧ Ext st r.2
theorem Parse_all {s : List UInt8} (hsh : Short s) {st : St} (hv : VOk st) {a e : Int} {q : Prog} (hlex : (split (events s)).2.2 ≠ 0 → q = [] ∧ a = (split (events s)).2.1 ∧ e = (split (events s)).2.2)
 (hpar : (split (events s)).2.2 = 0 → ∃ f p S, f ≤ 100000000 ∧ PS.prog f ⟨(split (events s)).1, 0, 0⟩ = some (p, S) ∧ (S.err ≠ 0 → q = [] ∧ a = S.at_ ∧ e = S.err) ∧ (S.err = 0 → count p < 2 ^ 62 ∧ (∀ b ∈ p, b.phis = []) ∧ (check p ≠ 0 → q = [] ∧ a = s.length ∧ e = check p) ∧ (check p = 0 → q = p ∧ a = 0 ∧ e = 0))) :
 Ok (K.go (.call n_parse_Parse [T s]) st) (ParsePost st q a e) := by
 refine parse_Parse_of hF fun J hJ => ?_
 rw [parse_Parse_eq]
 have E1 : Ext st st.bump := (Ext.refl st).bump
 have hb0 : ∀ s', sBuild [.slice none 0 0] [] s' = .ok (.agg #[.slice none 0 0], s') := fun s' => rfl
 have hu0 : ∀ s', sUpd 1 0 (.agg #[.slice none 0 0]) (.agg #[.slice none 0 0]) s' = .ok (.agg #[.slice none 0 0], s') := fun s' => by simp [Res.need]
 have hf0 : ∀ v s', sField (some 1) 0 (.agg #[v]) s' = .ok (.agg #[v], s') := fun v s' => rfl
 simp only [sLnew_eq, thn_ok]
 refine Split_thn hF hsh (hv.mono E1) fun vl s1 ids h1 => ?_
 have X1 := E1.trans h1.ext
 simp only [sExtract_eq, List.getElem?_toArray, List.getElem?_cons_zero, List.getElem?_cons_succ, Res.of_some, Res.bind_ok, thn_ok, sNeq]
 by_cases c : (split (events s)).2.2 = 0
 ·obtain ⟨f, p, S, hf, hp, hbad, hgood⟩ := hpar c
  obtain ⟨t1, t2, t3, t4⟩ : (split (events s)).1.length ≤ 100001 ∧ _ := split_toksOk (s := s) (ts := (split (events s)).1) (by
   have := split_zero (events s) c
   exact this)
  generalize hx : split (events s) = x at *
  have hbd : ∀ s', sBuild [.slice none 0 0, I 0, I 0, I 0] [(0, 1, vl)] s' = .ok (.agg #[vl, I 0, I 0, I 0], s') := fun s' => by
   rcases h1.toks with ⟨_, _, c, rfl⟩ | ⟨_, _, _, rfl, _⟩ <;> rfl
  have hbx : sBox (.agg #[vl, I 0, I 0, I 0]) s1 = .ok (P s1.next 0, s1.alloc (.cells [vl, I 0, I 0, I 0])) := rfl
  have E2 : Ext s1 (s1.alloc (.cells [vl, I 0, I 0, I 0])) := (Ext.refl s1).alloc _
  have g2 : (s1.alloc (.cells [vl, I 0, I 0, I 0])).get s1.next = some (.cells [vl, I 0, I 0, I 0]) := by rw [get_alloc, if_pos rfl]
  have n2 : (s1.alloc (.cells [vl, I 0, I 0, I 0])).next = s1.next + 1 := rfl
  generalize (s1.alloc (.cells [vl, I 0, I 0, I 0])) = s2 at *
  have v1 := (hv.mono E1).mono h1.ext
  have v2 := v1.mono E2
  have hT : Toks s2 s1.next vl x.1 := {
   at_ := fun i t hi => by
    obtain ⟨b, cs, is, k1, k2, k3, k4, ⟨rfl, rfl⟩, k6, k7, k8⟩ := h1.toks.at hi
    have hb := h1.fresh b k2
    refine ⟨b, i * 4, by omega, by omega, k1, fun s' hK => ?_⟩
    have hg : s'.get b = s1.get b := (hK.get b (by omega) (by omega)).trans (E2.get b (by omega))
    exact ⟨k4 s' hg, fun k y hy => k8 s' k y hg hy⟩
   last := t2
   small := by omega
   num := t3
   lt := by omega
   ro := by rw [E2.ro]; exact v1.ro
   cell := h1.toks.cell
   tup := h1.toks.tup
   vars := v2
   old := fun p hp => by have := pvars_lt p hp; have := v1.next; omega }
  have hR : RD s2 s2 s1.next vl x.1 ⟨x.1, 0, 0⟩ := ⟨.refl _ _, 0, g2, rfl, t4⟩
  simp only [decide_eq_true c, Bool.not_true, condX_eq, cond_false, parse_Parse_j0_eq hJ, hbd, hbx, thn_ok]
  refine (prog_call hF hT hf hR hp).thn fun r ⟨vp, is, e1, e2, e3, e4, e5⟩ => ?_
  rw [e1]
  obtain ⟨r1, s3⟩ := r
  simp only at e1 e2 e3 e4 e5 ⊢
  have hl3 := e5.err
  have hlt := hT.lt
  have hcell : cellOk vp = true := RepSl.cell e2
  have hup : ∀ v s', cellOk v = true → sUpd 1 0 (.agg #[.slice none 0 0]) (.agg #[v]) s' = .ok (.agg #[v], s') := fun v s' h => by simp [Res.need, h]
  have l3' : s3.bump.load1 s1.next 3 = .ok (I S.err) := (e5.mono hT (Ext.refl s3).bump).err
  obtain ⟨pi, pg1, pg2⟩ := (e5.mono hT (Ext.refl s3).bump).pos
  have l2' : s3.bump.load1 s1.next 2 = .ok (I S.at_) := load1_eq pg1 rfl
  have X3 : Ext st s3.bump := by
   refine ⟨?_, ?_, fun id hid => ?_⟩
   ·have := X1.next; have := e4.next; simp; omega
   ·show s3.ro = _; rw [e4.ro, E2.ro]; exact X1.ro
   ·have := X1.next
    have := e4.next
    rw [get_bump, if_neg (by omega), e4.get id (by omega) (by omega), E2.get id (by omega)]
    exact X1.get id hid
  have m3 : Mine st.next s3.bump is := ⟨e3.nd, fun id hid => by have := e3.at_ id hid; have := X1.next; simp; omega⟩
  have p3 : PProg s3.bump vp p is := e2.frame fun id hid => by rw [get_bump, if_neg (by have := (e3.at_ id hid).2; omega)]
  simp only [sLnew_eq, thn_ok, hup vp _ hcell, sNilc_P', sOff_eq, Nat.zero_add, sLoad1, l3', Res.bind_ok, sNeq]
  by_cases d : S.err = 0
  ·obtain ⟨g1, g2', g3, g4⟩ := hgood d
   simp only [decide_eq_true d, Bool.not_true, condX_eq, cond_false, parse_Parse_j1_eq hJ, hf0, thn_ok]
   refine (Check_ok hF (A := fun id => id ∈ is) (st := s3.bump) (fun id hid => (m3.at_ id hid).2) p3.read g1 (fun b hb ff hff => by rw [g2' b hb] at hff; cases hff) (X3.roOk hv.ro)).call fun s4 E4 => ?_
   have p4 : PProg s4 vp p is := p3.frame fun id hid => E4.get id (m3.at_ id hid).2
   have m4 : Mine st.next s4 is := m3.mono E4.next
   by_cases e : check p = 0
   ·obtain ⟨rfl, rfl, rfl⟩ := g4 e
    simp only [sNeq, decide_eq_true e, Bool.not_true, thn_ok, condX_eq, cond_false, parse_Parse_j2_eq hJ, hf0, hup vp _ hcell, Res.bind_ok]
    exact ⟨_, rfl, vp, is, rfl, p4, m4, X3.trans E4⟩
   ·obtain ⟨rfl, rfl, rfl⟩ := g3 e
    simp only [sNeq, decide_eq_false e, Bool.not_false, thn_ok, condX_eq, cond_true, hb0, sLen_T, hu0, hf0, Res.bind_ok]
    exact ⟨_, rfl, .slice none 0 0, [], rfl, RepSl.nil _, ⟨List.nodup_nil, by simp⟩, X3.trans E4⟩
  ·obtain ⟨rfl, rfl, rfl⟩ := hbad d
   have hsty : ∀ (b : Nat) (lk : Value) (o : Nat) (x : Int), s3.bump.load1 s1.next o = .ok (I x) → sStays (List.take 1 [s3.bump]) b lk (fun s => s.load1 s1.next o >>= fun v => Res.ok (v, s)) (I x) = true := fun b lk o x h => by
    unfold sStays
    rw [Bool.or_eq_true]
    refine .inr ?_
    simp [h]
   simp only [decide_eq_false d, Bool.not_false, condX_eq, cond_true, hb0, thn_ok, hu0]
   simp only [l2', l3', Res.bind_ok, thn_ok, hsty _ _ _ _ l2', hsty _ _ _ _ l3', Res.need_true, hf0]
   exact ⟨_, rfl, .slice none 0 0, [], rfl, RepSl.nil _, ⟨List.nodup_nil, by simp⟩, X3⟩
 ·obtain ⟨rfl, rfl, rfl⟩ := hlex c
  simp only [decide_eq_false c, Bool.not_false, condX_eq, cond_true, hb0, thn_ok, hu0, hf0, Res.bind_ok]
  exact ⟨_, rfl, .slice none 0 0, [], rfl, RepSl.nil _, ⟨List.nodup_nil, by simp⟩, X1⟩
end Go.Proofs.YtdjfndijbnpkpaaDoor.Sh
