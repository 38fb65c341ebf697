/-
  The lexer's functions: Split.
-/
import Derived.Test.YtefdkodjpcabmaaDoorLx3
import Derived.Test.YtefdkodjpcabmaaDoorRng
set_option linter.unusedVariables false
set_option linter.unusedSimpArgs false
set_option linter.unusedSectionVars false
set_option maxRecDepth 100000
namespace Go.AM.Lx
theorem evs_len : ∀ (n : Nat) (l : List UInt8) (a : Nat), l.length ≤ n → (evs l a).length ≤ l.length + 1 := by
 intro n
 induction n with
 | zero =>
   intro l a h
   have : l = [] := List.length_eq_zero_iff.1 (by omega)
   subst this
   rw [evs_nil]; simp
 | succ n ih =>
   intro l a h
   cases l with
   | nil => rw [evs_nil]; simp
   | cons c r =>
     simp only [List.length_cons] at h ⊢
     by_cases c1 : c.toNat = 32
     ·rw [evs_blank r a c1]
      have := ih r (a + 1) (by omega)
      omega
     ·by_cases c2 : c.toNat = 35
      ·rw [evs_note r a c2]
       have h2 := congrArg List.length (List.takeWhile_append_dropWhile (p := fun c : UInt8 => decide (c.toNat ≠ 10)) (l := r))
       rw [List.length_append] at h2
       have := ih (r.dropWhile fun c => decide (c.toNat ≠ 10)) (a + 1 + (r.takeWhile fun c => decide (c.toNat ≠ 10)).length) (by omega)
       omega
      ·by_cases hz : (next (c :: r) a).2 = 0
       ·rw [evs_bad c1 c2 hz]; simp
       ·rw [evs_tok c1 c2 hz]
        have h2 : ((c :: r).drop (next (c :: r) a).2).length ≤ r.length := by rw [List.length_drop]; simp only [List.length_cons]; omega
        have := ih ((c :: r).drop (next (c :: r) a).2) (a + (next (c :: r) a).2) (by omega)
        simp only [List.length_cons]
        omega
theorem events_len (s : List UInt8) : (events s).length ≤ 100001 := by
 unfold events
 split
 ·simp
 ·have := evs_len s.length s 0 (Nat.le_refl _)
  omega
def ahead (ts : List Tok) (x : List Tok × Nat × Int) : List Tok × Nat × Int := if x.2.2 = 0 then (ts ++ x.1, 0, 0) else x
theorem split_cons (t : Tok) (e : Int) (l : List Ev) : split ((t, e) :: l) = if e = 0 then (if (split l).2.2 = 0 then (t :: (split l).1, 0, 0) else split l) else ([], t.at_, e) := rfl
theorem ahead_cons (ts : List Tok) (t : Tok) (l : List Ev) : ahead ts (split ((t, 0) :: l)) = ahead (ts ++ [t]) (split l) := by
 rw [split_cons, if_pos rfl]
 generalize split l = x
 unfold ahead
 by_cases h : x.2.2 = 0
 ·simp [h]
 ·simp [h]
theorem ahead_err (ts : List Tok) (t : Tok) (e : Int) (he : e ≠ 0) (l : List Ev) : ahead ts (split ((t, e) :: l)) = ([], t.at_, e) := by
 rw [split_cons, if_neg he]
 simp [ahead, he]
theorem ahead_nil (ts : List Tok) : ahead ts (split []) = (ts, 0, 0) := by simp [split, ahead]
theorem split_zero : ∀ (l : List Ev), (split l).2.2 = 0 → split l = ((split l).1, 0, 0) := by
 intro l
 induction l with
 | nil => intro _; rfl
 | cons a l ih =>
   obtain ⟨t, e⟩ := a
   intro h
   rw [split_cons] at h ⊢
   by_cases he : e = 0
   ·rw [if_pos he] at h ⊢
    by_cases h2 : (split l).2.2 = 0
    ·rw [if_pos h2]
    ·rw [if_neg h2] at h
     exact absurd h h2
   ·rw [if_neg he] at h
    exact absurd h he
theorem ahead_none (l : List Ev) : ahead [] (split l) = split l := by
 unfold ahead
 by_cases h : (split l).2.2 = 0
 ·rw [if_pos h, split_zero l h]
  rfl
 ·rw [if_neg h]
end Go.AM.Lx
namespace Go.Proofs.YtefdkodjpcabmaaDoor.Sh
open Go Go.AM Go.Proofs Go.AM.Lx
noncomputable def spA : ACode := posC lex_Split_c.body [1, 1, 0, 1, 0, 1, 0]
noncomputable def spB : ACode := posC lex_Split_c.body [1, 1, 0, 1, 0, 1, 1]
def spE (v2 v3 v4 v5 v9 : Value) : Env := envT [(2, v2), (3, v3), (4, v4), (5, v5), (6, nothing), (7, nothing), (9, v9)]
theorem spA_eq (K : Ctx) (v2 v3 v4 v5 v9 : Value) (t : Tok) (e : Int) (st : St) : codeC K spA (putL (spE v2 v3 v4 v5 v9) [10, 11] [vTok t, I e]) st =
 .ok (.normal, (7, I e) :: (6, vTok t) :: (6, .agg #[U 0, I 0, .string (bstr []), I 0]) :: (11, I e) :: (10, vTok t) :: spE v2 v3 v4 v5 v9, st.bump) := by kernel_rfl
theorem spB_eq (K : Ctx) (J : JT (AExit × St)) (v2 v3 v4 v5 v9 : Value) (t : Tok) (e : Int) (st : St) : atR K J spB ((7, I e) :: (6, vTok t) :: (6, .agg #[U 0, I 0, .string (bstr []), I 0]) :: (11, I e) :: (10, vTok t) :: spE v2 v3 v4 v5 v9) st =
 lex_Split_jr1101011_0 J v2 v3 v4 v5 (vTok t) (I e) st := by kernel_rfl
structure SP0 (st0 st : St) (b L bx : Nat) (s : List UInt8) : Prop where
 ext : Ext st0 st
 vars : VOk st
 kb : st0.next ≤ b
 kL : b + 5 ≤ L
 lt : L < st.next
 kbx : b + 4 ≤ bx
 lbx : bx < L
 gx : st.get bx = some (.cells [T s])
def RTok : Rep Tok := fun _ cs x is => cs = cTok x ∧ is = []
theorem RTok.framed : Framed RTok := ⟨fun h _ => h⟩
structure SPr (st0 st : St) (b L bx : Nat) (s : List UInt8) (v9 v : Value) (ts : List Tok) (ids : List Nat) : Prop extends SP0 st0 st b L bx s where
 g0 : st.get b = some (.cells [.slice none 0 0])
 g1 : st.get (b + 1) = some (.cells [I 0])
 g2 : st.get (b + 2) = some (.cells [I 0])
 g3 : st.get (b + 3) = some (.cells [v])
 gL : st.get L = some (.loop (spE (P b 0) (P (b + 1) 0) (P (b + 2) 0) (P (b + 3) 0) v9) [10, 11] spA spB .ready .normal)
 own : RepSl 4 RTok st v ts ids
 nd : ids.Nodup
 away : ∀ id ∈ ids, L < id ∧ id < st.next
structure SPd (st0 st : St) (b L bx : Nat) (s : List UInt8) (v9 : Value) (a : Nat) (e : Int) : Prop extends SP0 st0 st b L bx s where
 g0 : st.get b = some (.cells [.slice none 0 0])
 g1 : st.get (b + 1) = some (.cells [I a])
 g2 : st.get (b + 2) = some (.cells [I e])
 gL : st.get L = some (.loop (spE (P b 0) (P (b + 1) 0) (P (b + 2) 0) (P (b + 3) 0) v9) [10, 11] spA spB .done .ret)
theorem SP0.mono {st0 st st' : St} {b L bx : Nat} {s : List UInt8} (h : SP0 st0 st b L bx s) (hE : Ext st st') : SP0 st0 st' b L bx s where
 ext := h.ext.trans hE
 vars := h.vars.mono hE
 kb := h.kb
 kL := h.kL
 lt := Nat.lt_of_lt_of_le h.lt hE.next
 kbx := h.kbx
 lbx := h.lbx
 gx := by rw [hE.get _ (Nat.lt_trans h.lbx h.lt)]; exact h.gx
theorem SPr.mono {st0 st st' : St} {b L bx : Nat} {s : List UInt8} {v9 v : Value} {ts : List Tok} {ids : List Nat} (h : SPr st0 st b L bx s v9 v ts ids) (hE : Ext st st') : SPr st0 st' b L bx s v9 v ts ids := by
 have h1 := h.kL; have h2 := h.lt
 exact { h.toSP0.mono hE with
  g0 := by rw [hE.get _ (by omega)]; exact h.g0
  g1 := by rw [hE.get _ (by omega)]; exact h.g1
  g2 := by rw [hE.get _ (by omega)]; exact h.g2
  g3 := by rw [hE.get _ (by omega)]; exact h.g3
  gL := by rw [hE.get _ (by omega)]; exact h.gL
  own := h.own.frame RTok.framed fun id hid => hE.get _ (h.away id hid).2
  nd := h.nd
  away := fun id hid => ⟨(h.away id hid).1, Nat.lt_of_lt_of_le (h.away id hid).2 hE.next⟩ }
theorem SPd.mono {st0 st st' : St} {b L bx : Nat} {s : List UInt8} {v9 : Value} {a : Nat} {e : Int} (h : SPd st0 st b L bx s v9 a e) (hE : Ext st st') : SPd st0 st' b L bx s v9 a e := by
 have h1 := h.kL; have h2 := h.lt
 exact { h.toSP0.mono hE with
  g0 := by rw [hE.get _ (by omega)]; exact h.g0
  g1 := by rw [hE.get _ (by omega)]; exact h.g1
  g2 := by rw [hE.get _ (by omega)]; exact h.g2
  gL := by rw [hE.get _ (by omega)]; exact h.gL }
def SPs (st0 : St) (b L bx : Nat) (s : List UInt8) (v9 : Value) (x : List Tok × Nat × Int) (l : List Ev) (st : St) : Prop :=
 (∃ v ts ids, SPr st0 st b L bx s v9 v ts ids ∧ ts.length + l.length ≤ 100001 ∧ AM.Lx.ahead ts (split l) = x) ∨ (l = [] ∧ x.2.2 ≠ 0 ∧ x.1 = [] ∧ SPd st0 st b L bx s v9 x.2.1 x.2.2)
theorem sRange_any {R : Type} {K : Ctx} {f : Value} {st : St} {o : AObj} {k : AExit → St → Res R} {t : Task} {Q : R → Prop} (ht : taskOf f [.func (.yield st.next) #[] #[]] = .ok t) (hc : t.isCall = true)
 (h : Ok (K.go t (st.alloc o)) fun p => ∃ e ps a b s pend, p.2.get st.next = some (.loop e ps a b s pend) ∧ (s != .busy) = true ∧ Ok (k pend (p.2.put st.next .dead)) Q) : Ok (sRange K f st o k) Q := by
 unfold sRange
 rw [ht, Res.bind_ok, hc, Res.need_true, Res.bind_ok]
 refine h.bind fun p ⟨e, ps, a, b, s, pend, h1, h0, h2⟩ => ?_
 rw [h1]
 simp only [h0, Res.need_true, Res.bind_ok]
 exact h2
theorem sStore_rep {α : Type} {R : Rep α} {v : Value} {l : List α} {ids : List Nat} {st0 st : St} {s b o : Nat} (h : RepSl s R st0 v l ids) : sStore 1 (P b o) v st = (st.storeN b o [v] >>= fun s => .ok (nothing, s)) := by
 rcases h with ⟨_, _, c, rfl⟩ | ⟨b, css, idss, rfl, _⟩ <;> simp [Res.need]
variable {K : Ctx} (hF : Fix pgF K)
include hF
theorem Split_sees {st0 : St} {b L bx : Nat} {s : List UInt8} {v9 : Value} {x : List Tok × Nat × Int} (hro : st0.ro ≤ st0.next) (hv0 : VOk st0) : Sees K (.func (.yield L) #[] #[]) bx s (SPs st0 b L bx s v9 x) where
 mono := fun l st st' h hE => h.imp (fun ⟨v, ts, ids, a, b⟩ => ⟨v, ts, ids, a.mono hE, b⟩) (fun ⟨h1, h2, h3, h4⟩ => ⟨h1, h2, h3, h4.mono hE⟩)
 vars := fun l st h => by rcases h with ⟨v, ts, ids, a, _⟩ | ⟨_, _, _, a⟩ <;> exact a.vars
 text := fun l st h => by rcases h with ⟨v, ts, ids, a, _⟩ | ⟨_, _, _, a⟩ <;> exact a.gx
 step := fun (t, e) rest st h => by
  rcases h with ⟨v, ts, ids, h, hlen, hx⟩ | ⟨h, _⟩
  rotate_left
  ·cases h
  have q : sCall K (.func (.yield L) #[] #[]) [vTok t, I e] st = K.go (.round L [vTok t, I e]) st := by simp [sCall, taskOf]
  show Ok (sCall K (.func (.yield L) #[] #[]) [vTok t, I e] st) _
  rw [q]
  have k1 := h.kb; have k2 := h.kL; have kl := h.lt; have hn := h.ext.next; have k3 := h.kbx; have k4 := h.lbx
  have hgb : st.bump.get L = some (.loop (spE (P b 0) (P (b + 1) 0) (P (b + 2) 0) (P (b + 3) 0) v9) [10, 11] spA spB .ready .normal) := by rw [get_bump, if_neg (by omega)]; exact h.gL
  refine round_of hF h.gL rfl (by rw [h.ext.ro]; omega) (spA_eq K _ _ _ _ _ t e st) hgb fun J hJ => ?_
  rw [spB_eq, lex_Split_jr1101011_0_eq hJ]
  generalize hs1 : (st.bump).put L (.loop (spE (P b 0) (P (b + 1) 0) (P (b + 2) 0) (P (b + 3) 0) v9) [10, 11] spA spB .busy .normal) = s1
  have hX : Ext st0 s1 := by rw [← hs1]; exact (h.ext.bump).put (by omega) _
  have n1 : s1.next = st.next + 1 := by rw [← hs1]; rfl
  have old : ∀ id, id < st.next → id ≠ L → s1.get id = st.get id := fun id h1 h2 => by rw [← hs1, get_put, if_neg h2, get_bump, if_neg (by omega)]
  have gL : s1.get L = some (.loop (spE (P b 0) (P (b + 1) 0) (P (b + 2) 0) (P (b + 3) 0) v9) [10, 11] spA spB .busy .normal) := by rw [← hs1, get_put, if_pos rfl]
  have r1 : s1.ro = st0.ro := hX.ro
  clear hs1
  by_cases he : e = 0
  ·subst he
   have g3 : s1.get (b + 3) = some (.cells [v]) := by rw [old _ (by omega) (by omega)]; exact h.g3
   have hld : s1.load1 (b + 3) 0 = .ok v := load1_eq g3 rfl
   have own1 : RepSl 4 RTok s1 v ts ids := h.own.frame RTok.framed fun id hid => by have := h.away id hid; exact old id this.2 (by omega)
   simp only [List.length_cons] at hlen
   obtain ⟨v', s2, ids', hap, own2, nd2, in2, fr, nx2, ro2⟩ := own1.push (bytes := 40) (x := t) (cs := cTok t) (is := []) RTok.framed (by decide) ⟨rfl, rfl⟩ rfl (by simp [cTok]) (fun id hid => by rw [List.append_nil] at hid; have := h.away id hid; omega) (fun id hid => by have := h.away id hid; omega) (by simpa using h.nd) (by omega)
   have hlit : sLit 4 1 [U 0, I 0, .string (bstr []), I 0] [(0, 4, vTok t)] s1 = .ok (Sl s1.next 0 1 4, s1.alloc (.cells (cTok t))) := by
    rfl
   have ni : ∀ id, id ≤ L → id ∉ ids := fun id hid hm => by have := h.away id hm; omega
   have g3' : s2.get (b + 3) = some (.cells [v]) := by rw [fr _ (by omega) (ni _ (by omega))]; exact g3
   have hst : s2.storeN (b + 3) 0 [v'] = .ok (s2.put (b + 3) (.cells [v'])) := by
    have hr2 : s2.ro ≤ b + 3 := by rw [ro2]; omega
    simp [g3', Res.need, hr2, own2.cell]
   simp only [sNeq, decide_true, Bool.not_true, thn_ok, condX_eq, cond_false, lex_Split_jr1101011_1_eq hJ, sLoad1, hld, Res.bind_ok, sField_tok, hlit, hap, sStore_rep own2, hst]
   have gL2 : (s2.put (b + 3) (.cells [v'])).get L = some (.loop (spE (P b 0) (P (b + 1) 0) (P (b + 2) 0) (P (b + 3) 0) v9) [10, 11] spA spB .busy .normal) := by
    rw [get_put, if_neg (by omega), fr _ (by omega) (ni _ (by omega))]; exact gL
   refine ⟨_, rfl, _, _, _, _, _, _, gL2, true, rfl, .inl ⟨v', ts ++ [t], ids', ?_, by simp; omega, by rw [← hx, ahead_cons]; rfl⟩⟩
   generalize hs3 : (s2.put (b + 3) (.cells [v'])).put L (.loop (spE (P b 0) (P (b + 1) 0) (P (b + 2) 0) (P (b + 3) 0) v9) [10, 11] spA spB .ready .normal) = s3
   show SPr st0 s3 b L bx s v9 v' (ts ++ [t]) ids'
   have keep : ∀ id, id < st.next → id ≠ L → id ≠ b + 3 → id ∉ ids → s3.get id = st.get id := fun id h1 h2 h3 h4 => by
    rw [← hs3, get_put, if_neg h2, get_put, if_neg h3, fr _ (by omega) h4, old _ h1 h2]
   have n3 : s3.next = s2.next := by rw [← hs3]; rfl
   have out : ∀ id ∈ ids', L < id ∧ id < s3.next := fun id hid => by
    rcases in2 id hid with h | h | h
    ·have := (‹SPr st0 st b L bx s v9 v ts ids›).away id h; omega
    ·cases h
    ·omega
   have E3 : Ext st0 s3 := ⟨by omega, by rw [← hs3]; show s2.ro = _; omega, fun id hid => by
    rw [keep id (by omega) (by omega) (by omega) (ni _ (by omega))]; exact h.ext.get _ hid⟩
   have hv9 := h.vars
   exact {
    ext := E3
    vars := ⟨by have := hv9.next; omega, by rw [E3.ro]; omega, fun p hp => by
     have h1 := pvars_lt p hp
     have h2 := hv0.next
     rw [E3.get _ (by omega)]; exact hv0.vars p hp⟩
    kb := k1, kL := k2, lt := by omega, kbx := k3, lbx := k4
    gx := by rw [keep _ (by omega) (by omega) (by omega) (ni _ (by omega))]; exact h.gx
    g0 := by rw [keep _ (by omega) (by omega) (by omega) (ni _ (by omega))]; exact h.g0
    g1 := by rw [keep _ (by omega) (by omega) (by omega) (ni _ (by omega))]; exact h.g1
    g2 := by rw [keep _ (by omega) (by omega) (by omega) (ni _ (by omega))]; exact h.g2
    g3 := by rw [← hs3, get_put, if_neg (by omega), get_put, if_pos rfl]
    gL := by rw [← hs3, get_put, if_pos rfl]
    own := own2.frame RTok.framed fun id hid => by have := out id hid; rw [← hs3, get_put, if_neg (by omega), get_put, if_neg (by omega)]
    nd := nd2
    away := out }
  ·have h0 : s1.get b = some (.cells [.slice none 0 0]) := by rw [old _ (by omega) (by omega)]; exact h.g0
   have h1 : s1.get (b + 1) = some (.cells [I 0]) := by rw [old _ (by omega) (by omega)]; exact h.g1
   have h2 : s1.get (b + 2) = some (.cells [I 0]) := by rw [old _ (by omega) (by omega)]; exact h.g2
   have hst1 : s1.storeN b 0 [.slice none 0 0] = .ok (s1.put b (.cells [.slice none 0 0])) := by
    have : s1.ro ≤ b := by omega
    simp [h0, Res.need, this]
   have hst2 : (s1.put b (.cells [.slice none 0 0])).storeN (b + 1) 0 [I t.at_] = .ok ((s1.put b (.cells [.slice none 0 0])).put (b + 1) (.cells [I t.at_])) := by
    have : s1.ro ≤ b + 1 := by omega
    simp [h1, Res.need, this]
   have hst3 : ((s1.put b (.cells [.slice none 0 0])).put (b + 1) (.cells [I t.at_])).storeN (b + 2) 0 [I e] = .ok (((s1.put b (.cells [.slice none 0 0])).put (b + 1) (.cells [I t.at_])).put (b + 2) (.cells [I e])) := by
    have : s1.ro ≤ b + 2 := by omega
    simp [h2, Res.need, this]
   have hsty : sStays (List.take 1 [s1]) (s1.put b (.cells [.slice none 0 0])).next nothing (fun s => Res.ok (I t.at_, s)) (I t.at_) = true := sStays_same (sameVal_int _ _)
   have gL2 : (((s1.put b (.cells [.slice none 0 0])).put (b + 1) (.cells [I t.at_])).put (b + 2) (.cells [I e])).get L = some (.loop (spE (P b 0) (P (b + 1) 0) (P (b + 2) 0) (P (b + 3) 0) v9) [10, 11] spA spB .busy .normal) := by
    rw [get_put, if_neg (by omega), get_put, if_neg (by omega), get_put, if_neg (by omega)]; exact gL
   generalize hs2 : ((s1.put b (.cells [.slice none 0 0])).put (b + 1) (.cells [I t.at_])).put (b + 2) (.cells [I e]) = s2 at hst3 gL2
   have fin : ∃ e4 ps4 as4 bd4 s4 pd4, s2.get L = some (.loop e4 ps4 as4 bd4 s4 pd4) ∧ ∃ b_1, (B false : Value) = B b_1 ∧ SPs st0 b L bx s v9 x (if b_1 then rest else []) (s2.put L (.loop e4 ps4 as4 bd4 .done .ret)) := by
    have hx' : x = ([], t.at_, e) := by rw [← hx, ahead_err _ _ _ he]
    refine ⟨_, _, _, _, _, _, gL2, false, rfl, .inr ⟨rfl, by rw [hx']; exact he, by rw [hx'], ?_⟩⟩
    rw [hx']
    generalize hs3 : s2.put L (.loop (spE (P b 0) (P (b + 1) 0) (P (b + 2) 0) (P (b + 3) 0) v9) [10, 11] spA spB .done .ret) = s3
    have n3 : s3.next = s1.next := by rw [← hs3, ← hs2]; rfl
    have keep : ∀ id, id < st.next → id ≠ L → id ≠ b → id ≠ b + 1 → id ≠ b + 2 → s3.get id = st.get id := fun id h1 h2 h3 h4 h5 => by
     rw [← hs3, ← hs2, get_put, if_neg h2, get_put, if_neg h5, get_put, if_neg h4, get_put, if_neg h3, old _ h1 h2]
    have E3 : Ext st0 s3 := ⟨by omega, by rw [← hs3, ← hs2]; exact r1, fun id hid => by
     rw [keep id (by omega) (by omega) (by omega) (by omega) (by omega)]; exact h.ext.get _ hid⟩
    have hv9 := h.vars
    exact {
     ext := E3
     vars := hv0.mono E3
     kb := k1, kL := k2, lt := by omega, kbx := k3, lbx := k4
     gx := by rw [keep _ (by omega) (by omega) (by omega) (by omega) (by omega)]; exact h.gx
     g0 := by rw [← hs3, ← hs2, get_put, if_neg (by omega), get_put, if_neg (by omega), get_put, if_neg (by omega), get_put, if_pos rfl]
     g1 := by rw [← hs3, ← hs2, get_put, if_neg (by omega), get_put, if_neg (by omega), get_put, if_pos rfl]
     g2 := by rw [← hs3, ← hs2, get_put, if_neg (by omega), get_put, if_pos rfl]
     gL := by rw [← hs3, get_put, if_pos rfl] }
   have hst1' : sStore 1 (P b 0) (.slice none 0 0) s1 = .ok (nothing, s1.put b (.cells [.slice none 0 0])) := by rw [sStore_slice, hst1]; rfl
   simp only [sNeq, decide_eq_false he, Bool.not_false, thn_ok, condX_eq, cond_true, hst1', sLref_tok, sField_at, hsty, Res.need_true, Res.bind_ok, sStore_int, hst2, hst3, decide_true]
   exact ⟨(AExit.ret, s2), rfl, fin⟩
def SplitPost (st : St) (x : List Tok × Nat × Int) (r : Value × St) : Prop :=
 ∃ v ids, r.1 = .tuple #[v, I x.2.1, I x.2.2] ∧ Ext st r.2 ∧ RepSl 4 RTok r.2 v x.1 ids ∧ ids.Nodup ∧ ∀ id ∈ ids, st.next ≤ id ∧ id < r.2.next
theorem Split_ok {s : List UInt8} (hsh : Short s) {st : St} (hv : VOk st) : Ok (K.go (.call n_lex_Split [T s]) st) (SplitPost st (split (events s))) := by
 refine lex_Split_of hF fun J hJ => ?_
 rw [lex_Split_eq]
 have hro := hv.ro
 generalize hQ : SplitPost st (split (events s)) = Q
 have q1 : sNew [.slice none 0 0] st = .ok (P st.next 0, st.alloc (.cells [.slice none 0 0])) := rfl
 generalize ha1 : st.alloc (.cells [.slice none 0 0]) = a1 at q1
 have n1 : a1.next = st.next + 1 := by rw [← ha1]; rfl
 have E1 : Ext st a1 := by rw [← ha1]; simp
 have g1 : a1.get st.next = some (.cells [.slice none 0 0]) := by rw [← ha1, get_alloc, if_pos rfl]
 have q2 : sNew [I 0] a1 = .ok (P a1.next 0, a1.alloc (.cells [I 0])) := rfl
 generalize ha2 : a1.alloc (.cells [I 0]) = a2 at q2
 have n2 : a2.next = a1.next + 1 := by rw [← ha2]; rfl
 have E2 : Ext a1 a2 := by rw [← ha2]; simp
 have g2 : a2.get a1.next = some (.cells [I 0]) := by rw [← ha2, get_alloc, if_pos rfl]
 have q3 : sNew [I 0] a2 = .ok (P a2.next 0, a2.alloc (.cells [I 0])) := rfl
 generalize ha3 : a2.alloc (.cells [I 0]) = a3 at q3
 have n3 : a3.next = a2.next + 1 := by rw [← ha3]; rfl
 have E3 : Ext a2 a3 := by rw [← ha3]; simp
 have g3 : a3.get a2.next = some (.cells [I 0]) := by rw [← ha3, get_alloc, if_pos rfl]
 have q4 : sNew [.slice none 0 0] a3 = .ok (P a3.next 0, a3.alloc (.cells [.slice none 0 0])) := rfl
 generalize ha4 : a3.alloc (.cells [.slice none 0 0]) = a4 at q4
 have n4 : a4.next = a3.next + 1 := by rw [← ha4]; rfl
 have E4 : Ext a3 a4 := by rw [← ha4]; simp
 have g4 : a4.get a3.next = some (.cells [.slice none 0 0]) := by rw [← ha4, get_alloc, if_pos rfl]
 clear ha1 ha2 ha3 ha4
 simp only [q1, q2, q3, q4, thn_ok]
 have f5 : Ok (K.go (.call n_lex_Tokens [T s]) a4) fun r => r = (.func (.func n_lex_Tokens_1) #[] #[P a4.next 0], a4.alloc (.cells [T s])) := by
  refine lex_Tokens_of hF fun J hJ => ?_
  rw [lex_Tokens_eq]
  simp
 refine f5.thn fun r hr => ?_
 subst hr
 simp only
 rw [lex_Split_j0_eq hJ]
 have E5 : Ext a4 (a4.alloc (.cells [T s])) := by simp
 have g5 : (a4.alloc (.cells [T s])).get a4.next = some (.cells [T s]) := by rw [get_alloc, if_pos rfl]
 have n5 : (a4.alloc (.cells [T s])).next = a4.next + 1 := rfl
 generalize (a4.alloc (.cells [T s])) = a5 at *
 have hcall : taskOf (.func (.func n_lex_Tokens_1) #[] #[P a4.next 0]) [.func (.yield a5.next) #[] #[]] = .ok (.call n_lex_Tokens_1 [.func (.yield a5.next) #[] #[], P a4.next 0]) := by simp [taskOf]
 refine sRange_any hcall rfl ?_
 generalize ho : AObj.loop _ _ _ _ _ _ = o
 have gL : (a5.alloc o).get a5.next = some o := by rw [get_alloc, if_pos rfl]
 have E6 : Ext a5 (a5.alloc o) := by simp
 have n6 : (a5.alloc o).next = a5.next + 1 := rfl
 generalize (a5.alloc o) = a6 at *
 have EE : Ext st a6 := ((((E1.trans E2).trans E3).trans E4).trans E5).trans E6
 have b1 : a1.next = st.next + 1 := n1
 have b2 : a2.next = st.next + 1 + 1 := by omega
 have b3 : a3.next = st.next + 3 := by omega
 have b4 : a4.next = st.next + 4 := by omega
 have b5 : a5.next = st.next + 5 := by omega
 have e1 : a2.next = st.next + 2 := by omega
 have init : SPs st st.next a5.next a4.next s (.func (.func n_lex_Tokens_1) #[] #[P a4.next 0]) (split (events s)) (events s) a6 := by
  refine .inl ⟨.slice none 0 0, [], [], ?_, by simpa using events_len s, ahead_none _⟩
  exact {
   ext := EE
   vars := hv.mono EE
   kb := Nat.le_refl _, kL := by omega, lt := by omega, kbx := by omega, lbx := by omega
   gx := by rw [E6.get _ (by omega)]; exact g5
   g0 := by rw [E6.get _ (by omega), E5.get _ (by omega), E4.get _ (by omega), E3.get _ (by omega), E2.get _ (by omega)]; exact g1
   g1 := by rw [← b1, E6.get _ (by omega), E5.get _ (by omega), E4.get _ (by omega), E3.get _ (by omega)]; exact g2
   g2 := by rw [← e1, E6.get _ (by omega), E5.get _ (by omega), E4.get _ (by omega)]; exact g3
   g3 := by rw [← b3, E6.get _ (by omega), E5.get _ (by omega)]; exact g4
   gL := by rw [gL, ← ho, ← b1, ← e1, ← b3]; rfl
   own := RepSl.nil _
   nd := List.nodup_nil
   away := by simp }
 refine (Tokens1_ok hF (Split_sees hF hro hv) hsh init).mono fun r ⟨_, hr⟩ => ?_
 rcases hr with ⟨v, ts, ids, h, hlen, hx⟩ | ⟨_, h1, h2, h⟩
 ·refine ⟨_, _, _, _, _, _, h.gL, rfl, ?_⟩
  rw [b1, e1, b3, lex_Split_x0_n, lex_Split_j1_eq hJ]
  have hL := h.lt
  rw [ahead_nil] at hx
  have ni : ∀ id, id ≤ a5.next → id ∉ ids := fun id hid hm => by have := h.away id hm; omega
  have hr2 : r.2.ro = st.ro := h.ext.ro
  have hn2 := h.ext.next
  generalize hs1 : r.2.put a5.next .dead = s1
  have old : ∀ id, id ≠ a5.next → s1.get id = r.2.get id := fun id h => by rw [← hs1, get_put, if_neg h]
  have c0 : s1.get st.next = some (.cells [.slice none 0 0]) := by rw [old _ (by omega)]; exact h.g0
  have c1 : s1.get (st.next + 1) = some (.cells [I 0]) := by rw [old _ (by omega)]; exact h.g1
  have c2 : s1.get (st.next + 2) = some (.cells [I 0]) := by rw [old _ (by omega)]; exact h.g2
  have c3 : s1.get (st.next + 3) = some (.cells [v]) := by rw [old _ (by omega)]; exact h.g3
  have hr1 : s1.ro ≤ st.next := by rw [← hs1]; show r.2.ro ≤ _; omega
  have nn1 : s1.next = r.2.next := by rw [← hs1]; rfl
  have hld : s1.load1 (st.next + 3) 0 = .ok v := load1_eq c3 rfl
  have t1 : s1.storeN st.next 0 [v] = .ok (s1.put st.next (.cells [v])) := by simp [c0, Res.need, hr1, h.own.cell]
  generalize hs2 : s1.put st.next (.cells [v]) = s2 at t1
  have hr2 : s2.ro ≤ st.next := by rw [← hs2]; exact hr1
  have t2 : s2.storeN (st.next + 1) 0 [I 0] = .ok (s2.put (st.next + 1) (.cells [I 0])) := by
   have c1' : s2.get (st.next + 1) = some (.cells [I 0]) := by rw [← hs2, get_put, if_neg (by omega)]; exact c1
   have : s2.ro ≤ st.next + 1 := by omega
   simp [c1', Res.need, this]
  generalize hs3 : s2.put (st.next + 1) (.cells [I 0]) = s3 at t2
  have hr3 : s3.ro ≤ st.next := by rw [← hs3]; exact hr2
  have t3 : s3.storeN (st.next + 2) 0 [I 0] = .ok (s3.put (st.next + 2) (.cells [I 0])) := by
   have c2' : s3.get (st.next + 2) = some (.cells [I 0]) := by rw [← hs3, get_put, if_neg (by omega), ← hs2, get_put, if_neg (by omega)]; exact c2
   have : s3.ro ≤ st.next + 2 := by omega
   simp [c2', Res.need, this]
  generalize hs4 : s3.put (st.next + 2) (.cells [I 0]) = s4 at t3
  have l0 : s4.load1 st.next 0 = .ok v := load1_eq (xs := [v]) (by rw [← hs4, get_put, if_neg (by omega), ← hs3, get_put, if_neg (by omega), ← hs2, get_put, if_pos rfl]) rfl
  have l1 : s4.load1 (st.next + 1) 0 = .ok (I 0) := load1_eq (xs := [I 0]) (by rw [← hs4, get_put, if_neg (by omega), ← hs3, get_put, if_pos rfl]) rfl
  have l2 : s4.load1 (st.next + 2) 0 = .ok (I 0) := load1_eq (xs := [I 0]) (by rw [← hs4, get_put, if_pos rfl]) rfl
  have n4' : s4.next = r.2.next := by rw [← hs4, ← hs3, ← hs2, ← hs1]; rfl
  have keep : ∀ id, id ≠ a5.next → id ≠ st.next → id ≠ st.next + 1 → id ≠ st.next + 2 → s4.get id = r.2.get id := fun id h1 h2 h3 h4 => by
   rw [← hs4, get_put, if_neg h4, ← hs3, get_put, if_neg h3, ← hs2, get_put, if_neg h2, old _ h1]
  have EF : Ext st s4 := ⟨by omega, by rw [← hs4, ← hs3, ← hs2, ← hs1]; exact h.ext.ro, fun id hid => by rw [keep id (by omega) (by omega) (by omega) (by omega)]; exact h.ext.get _ hid⟩
  simp only [sLoad1, hld, Res.bind_ok, thn_ok, sStore_rep h.own, t1, sStore_int, decide_true, Res.need_true, t2, t3, l0, l1, l2]
  rw [← hQ, ← hx]
  refine ⟨(oneOf [v, I 0, I 0], s4), rfl, v, ids, rfl, EF, h.own.frame RTok.framed fun id hid => ?_, h.nd, fun id hid => ?_⟩
  ·have := h.away id hid
   exact keep id (by omega) (by omega) (by omega) (by omega)
  ·have := h.away id hid
   show st.next ≤ id ∧ id < s4.next
   omega
 ·refine ⟨_, _, _, _, _, _, h.gL, rfl, ?_⟩
  rw [b1, e1, b3, lex_Split_x0_r]
  have hL := h.lt
  generalize hs1 : r.2.put a5.next .dead = s1
  have old : ∀ id, id ≠ a5.next → s1.get id = r.2.get id := fun id h => by rw [← hs1, get_put, if_neg h]
  have l0 : s1.load1 st.next 0 = .ok (.slice none 0 0) := load1_eq (by rw [old _ (by omega)]; exact h.g0) rfl
  have l1 : s1.load1 (st.next + 1) 0 = .ok (I _) := load1_eq (by rw [old _ (by omega)]; exact h.g1) rfl
  have l2 : s1.load1 (st.next + 2) 0 = .ok (I _) := load1_eq (by rw [old _ (by omega)]; exact h.g2) rfl
  have EF : Ext st s1 := by rw [← hs1]; exact h.ext.put (by omega) _
  simp only [sLoad1, Res.bind_ok, l0, l1, l2]
  rw [← hQ]
  exact ⟨(oneOf [.slice none 0 0, I _, I _], s1), rfl, .slice none 0 0, [], rfl, EF, by rw [h2]; exact RepSl.nil _, List.nodup_nil, by simp⟩
end Go.Proofs.YtefdkodjpcabmaaDoor.Sh
