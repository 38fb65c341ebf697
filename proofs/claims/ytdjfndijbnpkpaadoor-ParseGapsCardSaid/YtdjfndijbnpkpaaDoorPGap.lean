/-
  Tokens laid out otherwise are read alike.
-/
import Derived.Test.YtdjfndijbnpkpaaDoorPSim
set_option linter.unusedVariables false
set_option linter.unusedSimpArgs false
set_option linter.unusedSectionVars false
set_option linter.unnecessarySimpa false
set_option maxRecDepth 100000
namespace Go.Proofs.YtdjfndijbnpkpaaDoor.Sh.PS
open Go Go.AM Go.Proofs Go.AM.Lx
def Gx (ls : List Tok) (s1 s2 : PS) : Prop := s1.err = s2.err ∧ (s1.err = 0 → ∃ l ts e, Lay l ts ∧ e.kind = 0 ∧ e.text = [] ∧ e.n = 0 ∧ s1.rest = l.map (·.2) ++ [endT 0] ∧ s2.rest = ls ++ (ts ++ [e]))
def Gs (s1 s2 : PS) : Prop := Gx [] s1 s2
def Ge (s1 s2 : PS) : Prop := ∃ ls, (∀ t ∈ ls, t.kind = 7) ∧ Gx ls s1 s2
theorem Gs.ge {s1 s2 : PS} (h : Gs s1 s2) : Ge s1 s2 := ⟨[], by simp, h⟩
theorem Gs.cases {s1 s2 : PS} (h : Gs s1 s2) (h0 : s1.err = 0) : s2.err = 0 ∧ ∃ t1 t2 u1 u2, s1.rest = t1 :: u1 ∧ s2.rest = t2 :: u2 ∧ t1.kind = t2.kind ∧ (t1.kind ≠ 7 → t1.text = t2.text ∧ t1.n = t2.n ∧ (t1.kind ≠ 0 → Gs s1.adv s2.adv)) ∧ (t1.kind = 7 → Ge s1.adv s2.adv) := by
 obtain ⟨he, hr⟩ := h
 refine ⟨by rw [← he]; exact h0, ?_⟩
 obtain ⟨l, ts, e, hl, k0, k1, k2, e1, e2⟩ := hr h0
 rw [List.nil_append] at e2
 cases hl with
 | nil => exact ⟨endT 0, e, [], [], e1, e2, k0.symm, fun _ => ⟨k1.symm, k2.symm, fun hne => absurd rfl hne⟩, fun h7 => by cases h7⟩
 | @cons p l t ts hs hl =>
   have hg : Gs s1.adv s2.adv := ⟨he, fun _ => ⟨l, ts, e, hl, k0, k1, k2, by show s1.rest.tail = _; rw [e1]; rfl, by show s2.rest.tail = _; rw [e2]; rfl⟩⟩
   exact ⟨p.2, t, _, _, by rw [e1]; rfl, by rw [e2]; rfl, hs.1.symm, fun _ => ⟨hs.2.1.symm, hs.2.2.symm, fun _ => hg⟩, fun _ => hg.ge⟩
 | @dbl p l t u ts hp h1 h2 hl =>
   refine ⟨p.2, t, _, _, by rw [e1]; rfl, by rw [e2]; rfl, by rw [hp, h1], fun hne => absurd hp hne, fun _ => ⟨[u], by simpa using h2, he, fun _ => ⟨l, ts, e, hl, k0, k1, k2, by show s1.rest.tail = _; rw [e1]; rfl, by show s2.rest.tail = _; rw [e2]; rfl⟩⟩⟩
theorem is_eq {s : PS} {t : Tok} {u : List Tok} (h : s.rest = t :: u) (he : s.err = 0) (k : Int) (x : List UInt8) : s.is k x = (decide (t.kind = k) && (decide (x = []) || decide (t.text = x))) := by
 unfold is hd
 rw [h, he]
 simp
theorem is_err0 {s : PS} (he : s.err ≠ 0) (k : Int) (x : List UInt8) : s.is k x = false := by
 unfold is
 rw [decide_eq_false he]
 rfl
theorem gs_is {s1 s2 : PS} (h : Gs s1 s2) {k : Int} {x : List UInt8} (hk : k ≠ 7 ∨ x = []) : s2.is k x = s1.is k x := by
 by_cases h0 : s1.err = 0
 ·obtain ⟨h0', t1, t2, u1, u2, e1, e2, hkk, h7, _⟩ := h.cases h0
  rw [is_eq e1 h0, is_eq e2 h0', hkk]
  by_cases c : t1.kind = 7
  ·rcases hk with hk | rfl
   ·rw [← hkk, c, decide_eq_false (p := (7 : Int) = k) (fun e => hk e.symm)]; rfl
   ·simp
  ·rw [(h7 c).1]
 ·rw [is_err0 h0, is_err0 (by rw [← h.1]; exact h0)]
theorem gs_n {s1 s2 : PS} (h : Gs s1 s2) {k : Int} {x : List UInt8} (hk : k ≠ 7) (hi : s1.is k x = true) : s2.hd.n = s1.hd.n ∧ s2.hd.text = s1.hd.text := by
 have h0 := is_err hi
 obtain ⟨h0', t1, t2, u1, u2, e1, e2, hkk, h7, _⟩ := h.cases h0
 have hne : t1.kind ≠ 7 := by
  rw [is_eq e1 h0] at hi
  simp only [Bool.and_eq_true, decide_eq_true_eq] at hi
  omega
 unfold hd
 rw [e1, e2]
 exact ⟨(h7 hne).2.1.symm, (h7 hne).1.symm⟩
theorem gs_adv {s1 s2 : PS} (h : Gs s1 s2) {k : Int} {x : List UInt8} (h0 : k ≠ 0) (hk : k ≠ 7) (hi : s1.is k x = true) : Gs s1.adv s2.adv := by
 have he := is_err hi
 obtain ⟨_, t1, t2, u1, u2, e1, e2, hkk, h7, _⟩ := h.cases he
 rw [is_eq e1 he] at hi
 simp only [Bool.and_eq_true, decide_eq_true_eq] at hi
 exact (h7 (by omega)).2.2 (by omega)
theorem gs_fail {s1 s2 : PS} (h : Gs s1 s2) {e : Int} (he : e ≠ 0) : Gs (s1.fail e) (s2.fail e) := by
 unfold fail
 rw [← h.1]
 split
 ·exact ⟨rfl, fun h0 => absurd h0 he⟩
 ·exact h
theorem gs_take {s1 s2 : PS} (h : Gs s1 s2) {k : Int} {x : List UInt8} (hk : k ≠ 7) : Gs (s1.take k x).2 (s2.take k x).2 := by
 unfold take
 rw [gs_is h (.inl hk)]
 cases c : s1.is k x with
 | true =>
   simp only [if_true]
   split
   ·rename_i h0; exact gs_adv h h0 hk c
   ·exact h
 | false => exact gs_fail h (by decide)
theorem ge_eol {s1 s2 : PS} (h : Gs s1 s2) : Ge s1.eol s2.eol := by
 unfold eol take
 rw [gs_is h (.inr rfl)]
 cases c : s1.is 7 [] with
 | true =>
   have he := is_err c
   obtain ⟨_, t1, t2, u1, u2, e1, e2, hkk, _, h7⟩ := h.cases he
   rw [is_eq e1 he] at c
   simp only [Bool.and_eq_true, decide_eq_true_eq] at c
   simp only [if_true, if_pos (show (7 : Int) ≠ 0 by decide)]
   exact h7 c.1
 | false => exact (gs_fail h (by decide)).ge
theorem take_no {s : PS} {k : Int} {x : List UInt8} (c : s.is k x = false) : (s.take k x).2.err ≠ 0 := by
 unfold take
 rw [c]
 simp only [Bool.false_eq_true, if_false]
 unfold fail
 by_cases h : s.err = 0
 ·rw [if_pos h]; exact (by decide : (5 : Int) ≠ 0)
 ·rw [if_neg h]; exact h
theorem gs_below {s1 s2 : PS} (h : Gs s1 s2) {k m : Int} (hk : k ≠ 7) : (s2.below k m).1 = (s1.below k m).1 ∧ Gs (s1.below k m).2 (s2.below k m).2 := by
 have hc : (s2.is k [] && decide (m ≤ s2.hd.n)) = (s1.is k [] && decide (m ≤ s1.hd.n)) := by
  rw [gs_is h (.inl hk)]
  cases c : s1.is k [] with
  | true => rw [(gs_n h hk c).1]
  | false => rfl
 have key : ∀ u1 u2, Gs u1 u2 → Gs (u1.take k []).2 (u2.take k []).2 := fun u1 u2 hu => gs_take hu hk
 unfold below
 rw [hc]
 simp only
 have hg : Gs ((if (s1.is k [] && decide (m ≤ s1.hd.n)) = true then s1.fail 2 else s1).take k []).2 ((if (s1.is k [] && decide (m ≤ s1.hd.n)) = true then s2.fail 2 else s2).take k []).2 := by
  split
  ·exact key _ _ (gs_fail h (by decide))
  ·exact key _ _ h
 refine ⟨?_, hg⟩
 rw [← hg.1]
 have hh : ((if (s1.is k [] && decide (m ≤ s1.hd.n)) = true then s1.fail 2 else s1).take k []).2.err = 0 → s2.hd.n = s1.hd.n := fun h0 => by
  have hi : s1.is k [] = true := by
   cases c : s1.is k [] with
   | true => rfl
   | false =>
     rw [c] at h0
     exact absurd h0 (take_no c)
  exact (gs_n h hk hi).1
 by_cases hz : ((if (s1.is k [] && decide (m ≤ s1.hd.n)) = true then s1.fail 2 else s1).take k []).2.err = 0
 ·rw [if_pos hz, if_pos hz, hh hz]
 ·rw [if_neg hz, if_neg hz]
theorem gs_word {s1 s2 : PS} (h : Gs s1 s2) : s2.word = s1.word := by
 unfold word
 rw [gs_is h (.inl (by decide))]
 cases c : s1.is 1 [] with
 | true => simp only [if_true]; exact (gs_n h (by decide) c).2
 | false => rfl
theorem gs_advw {s1 s2 : PS} (h : Gs s1 s2) {w : List UInt8} (hw : s1.word = w) (hne : w ≠ []) : Gs s1.adv s2.adv := by
 have : s1.is 1 [] = true := by
  cases c : s1.is 1 [] with
  | true => rfl
  | false =>
    unfold word at hw
    rw [c] at hw
    exact absurd hw.symm hne
 exact gs_adv h (by decide) (by decide) this
theorem gs_reg {s1 s2 : PS} (h : Gs s1 s2) : s2.reg.1 = s1.reg.1 ∧ Gs s1.reg.2 s2.reg.2 := gs_below h (by decide)
theorem gs_label {s1 s2 : PS} (h : Gs s1 s2) : s2.label.1 = s1.label.1 ∧ Gs s1.label.2 s2.label.2 := gs_below h (by decide)
theorem gs_slot {s1 s2 : PS} (h : Gs s1 s2) : s2.slot.1 = s1.slot.1 ∧ Gs s1.slot.2 s2.slot.2 := gs_below h (by decide)
theorem gs_sign {s1 s2 : PS} (h : Gs s1 s2) (c : UInt8) : Gs (s1.sign c) (s2.sign c) := gs_take h (by decide)
theorem gs_last {s1 s2 : PS} (h : Gs s1 s2) : s2.last.1 = s1.last.1 ∧ Gs s1.last.2 s2.last.2 := by
 unfold last
 rw [gs_word h]
 by_cases c1 : s1.word = wJump
 ·simp only [if_pos c1]
  obtain ⟨a1, a2⟩ := gs_label (gs_advw h c1 (by decide))
  rw [a1]
  exact ⟨rfl, a2⟩
 simp only [if_neg c1]
 by_cases c2 : s1.word = wBr
 ·simp only [if_pos c2]
  obtain ⟨a1, a2⟩ := gs_reg (gs_advw h c2 (by decide))
  obtain ⟨b1, b2⟩ := gs_label (gs_sign a2 44)
  obtain ⟨c1, c2⟩ := gs_label (gs_sign b2 44)
  rw [a1, b1, c1]
  exact ⟨rfl, c2⟩
 simp only [if_neg c2]
 by_cases c3 : s1.word = wRet
 ·simp only [if_pos c3]
  obtain ⟨a1, a2⟩ := gs_reg (gs_advw h c3 (by decide))
  rw [a1]
  exact ⟨rfl, a2⟩
 simp only [if_neg c3]
 by_cases c4 : s1.word = wTrap
 ·simp only [if_pos c4]
  exact ⟨trivial, gs_advw h c4 (by decide)⟩
 ·simp only [if_neg c4]
  exact ⟨trivial, h⟩
theorem gs_right {s1 s2 : PS} (h : Gs s1 s2) : s2.right.1 = s1.right.1 ∧ Gs s1.right.2 s2.right.2 := by
 unfold right
 rw [gs_word h, gs_is h (k := 5) (.inl (by decide)), gs_is h (k := 2) (.inl (by decide))]
 by_cases c1 : s1.is 5 [] = true
 ·simp only [if_pos c1]
  rw [(gs_n h (by decide) c1).1]
  exact ⟨rfl, gs_adv h (by decide) (by decide) c1⟩
 simp only [if_neg c1]
 by_cases c2 : s1.is 2 [] = true
 ·simp only [if_pos c2]
  obtain ⟨a1, a2⟩ := gs_reg h
  rw [a1]
  exact ⟨rfl, a2⟩
 simp only [if_neg c2]
 cases hf : findOp s1.word with
 | some o =>
   simp only
   obtain ⟨a1, a2⟩ := gs_reg (gs_advw h rfl (findOp_ne hf))
   obtain ⟨b1, b2⟩ := gs_reg (gs_sign a2 44)
   rw [a1, b1]
   exact ⟨rfl, b2⟩
 | none =>
   simp only
   by_cases c3 : s1.word = wIn
   ·simp only [if_pos c3]
    exact ⟨trivial, gs_advw h c3 (by decide)⟩
   simp only [if_neg c3]
   by_cases c4 : s1.word = wLoad
   ·simp only [if_pos c4]
    obtain ⟨a1, a2⟩ := gs_slot (gs_advw h c4 (by decide))
    rw [a1]
    exact ⟨rfl, a2⟩
   simp only [if_neg c4]
   by_cases c5 : s1.word = wGet
   ·simp only [if_pos c5]
    obtain ⟨a1, a2⟩ := gs_reg (gs_advw h c5 (by decide))
    rw [a1]
    exact ⟨rfl, a2⟩
   simp only [if_neg c5]
   exact ⟨trivial, gs_fail h (by decide)⟩
theorem gs_instr {s1 s2 : PS} (h : Gs s1 s2) : s2.instr.1 = s1.instr.1 ∧ Gs s1.instr.2 s2.instr.2 := by
 unfold instr
 rw [gs_word h]
 by_cases c1 : s1.word = wOut
 ·simp only [if_pos c1]
  obtain ⟨a1, a2⟩ := gs_reg (gs_advw h c1 (by decide))
  rw [a1]
  exact ⟨rfl, a2⟩
 simp only [if_neg c1]
 by_cases c2 : s1.word = wStore
 ·simp only [if_pos c2]
  obtain ⟨a1, a2⟩ := gs_slot (gs_advw h c2 (by decide))
  obtain ⟨b1, b2⟩ := gs_reg (gs_sign a2 44)
  rw [a1, b1]
  exact ⟨rfl, b2⟩
 simp only [if_neg c2]
 by_cases c3 : s1.word = wPut
 ·simp only [if_pos c3]
  obtain ⟨a1, a2⟩ := gs_reg (gs_advw h c3 (by decide))
  obtain ⟨b1, b2⟩ := gs_reg (gs_sign a2 44)
  rw [a1, b1]
  exact ⟨rfl, b2⟩
 simp only [if_neg c3]
 obtain ⟨a1, a2⟩ := gs_reg h
 obtain ⟨b1, b2⟩ := gs_right (gs_sign a2 61)
 rw [a1, b1, ← b2.1]
 exact ⟨rfl, b2⟩
theorem lay_drop {l : List Rd} {ts : List Tok} (h : Lay l ts) {e : Tok} (he : e.kind = 0) : ∃ l' ts', Lay l' ts' ∧ (l.map (·.2) ++ [endT 0]).dropWhile (fun t => decide (t.kind = 7)) = l'.map (·.2) ++ [endT 0] ∧ (ts ++ [e]).dropWhile (fun t => decide (t.kind = 7)) = ts' ++ [e] := by
 induction h with
 | nil => exact ⟨[], [], .nil, by simp [endT], by simp [he]⟩
 | @cons p l t ts hs hl ih =>
   by_cases c : p.2.kind = 7
   ·obtain ⟨l', ts', i1, i2, i3⟩ := ih
    refine ⟨l', ts', i1, ?_, ?_⟩
    ·rw [← i2]; simp [c]
    ·rw [← i3]; simp [hs.1, c]
   ·refine ⟨p :: l, t :: ts, .cons hs hl, ?_, ?_⟩
    ·simp [c]
    ·simp [hs.1, c]
 | @dbl p l t u ts hp h1 h2 hl ih =>
   obtain ⟨l', ts', i1, i2, i3⟩ := ih
   refine ⟨l', ts', i1, ?_, ?_⟩
   ·rw [← i2]; simp [hp]
   ·rw [← i3]; simp [h1, h2]
theorem ge_lines {s1 s2 : PS} (h : Ge s1 s2) : Gs s1.lines s2.lines := by
 obtain ⟨ls, hls, he, hr⟩ := h
 unfold lines
 by_cases h0 : s1.err = 0
 ·have h0' : s2.err = 0 := by rw [← he]; exact h0
  rw [if_pos h0, if_pos h0']
  obtain ⟨l, ts, e, hl, k0, k1, k2, e1, e2⟩ := hr h0
  obtain ⟨l', ts', i1, i2, i3⟩ := lay_drop hl k0
  refine ⟨he, fun _ => ⟨l', ts', e, i1, k0, k1, k2, ?_, ?_⟩⟩
  ·show s1.rest.dropWhile _ = _
   rw [e1, i2]
  ·show s2.rest.dropWhile _ = _
   rw [e2, List.nil_append, ← i3]
   clear e2 hr
   induction ls with
   | nil => rfl
   | cons t ls ih =>
     have := hls t (by simp)
     rw [List.cons_append, List.dropWhile_cons, if_pos (by simpa using this)]
     exact ih fun q hq => hls q (by simp [hq])
 ·rw [if_neg h0, if_neg (by rw [← he]; exact h0)]
  exact ⟨he, fun h => absurd h h0⟩
theorem gs_bloop : ∀ (f : Nat) (s1 s2 : PS) (l : List Instr) r, Ge s1 s2 → bloop f s1 l = some r → ∃ t, bloop f s2 l = some (r.1, r.2.1, t) ∧ Gs r.2.2 t := by
 intro f
 induction f with
 | zero => intro s1 s2 l r _ h; cases h
 | succ f ih =>
   intro s1 s2 l r hg h
   rw [bloop_succ] at h
   rw [bloop_succ]
   have he : s1.err = s2.err := by obtain ⟨_, _, he, _⟩ := hg; exact he
   rw [← he]
   split at h
   ·obtain ⟨a1, a2⟩ := gs_last (ge_lines hg)
    rw [a1]
    split at h
    ·rename_i h0 c
     cases h
     rw [if_pos h0, if_pos c]
     exact ⟨_, rfl, a2⟩
    ·rename_i h0 c
     obtain ⟨b1, b2⟩ := gs_instr a2
     rw [if_pos h0, if_neg c, b1]
     exact ih _ _ _ _ (ge_eol b2) h
   ·rename_i h0
    cases h
    rw [if_neg h0]
    exact ⟨_, rfl, he, fun h => absurd h h0⟩
theorem gs_block {f : Nat} {s1 s2 : PS} {r} (hg : Gs s1 s2) (h : block f s1 = some r) : ∃ t, block f s2 = some (r.1, t) ∧ Ge r.2 t := by
 unfold block at h ⊢
 obtain ⟨a1, a2⟩ := gs_label hg
 split at h
 ·rename_i l e s' hb
  cases h
  obtain ⟨t, h1, h2⟩ := gs_bloop f _ (s2.label.2.sign 58).eol [] _ (ge_eol (gs_sign a2 58)) hb
  rw [h1]
  simp only
  rw [a1]
  refine ⟨_, rfl, ?_⟩
  have hi : t.is 0 [] = s'.is 0 [] := gs_is h2 (.inr rfl)
  rw [hi]
  split
  ·exact h2.ge
  ·exact ge_eol h2
 ·cases h
theorem gs_progL : ∀ (f : Nat) (s1 s2 : PS) (l : Prog) r, Gs s1 s2 → progL f s1 l = some r → ∃ t, progL f s2 l = some (r.1, t) ∧ t.err = r.2.err := by
 intro f
 induction f with
 | zero => intro s1 s2 l r _ h; cases h
 | succ f ih =>
   intro s1 s2 l r hg h
   rw [progL_succ] at h
   rw [progL_succ, gs_is hg (.inr rfl)]
   split at h
   ·split at h
    ·rename_i c _ b s' hb
     obtain ⟨t, h1, h2⟩ := gs_block hg hb
     rw [if_pos c, h1]
     exact ih _ _ _ _ (ge_lines h2) h
    ·cases h
   ·rename_i c
    cases h
    rw [if_neg c]
    exact ⟨_, rfl, (gs_take (k := 0) (x := []) hg (by decide)).1.symm⟩
theorem prog_gaps {l : List Rd} {ts : List Tok} {e : Tok} (h : Lay l ts) (h0 : e.kind = 0) (h1 : e.text = []) (h2 : e.n = 0) {f : Nat} {r} (hr : prog f ⟨l.map (·.2) ++ [endT 0], 0, 0⟩ = some r) : ∃ t, prog f ⟨ts ++ [e], 0, 0⟩ = some (r.1, t) ∧ t.err = r.2.err :=
 gs_progL f (lines ⟨l.map (·.2) ++ [endT 0], 0, 0⟩) (lines ⟨ts ++ [e], 0, 0⟩) [] _ (ge_lines (Gs.ge ⟨rfl, fun _ => ⟨l, ts, e, h, h0, h1, h2, rfl, rfl⟩⟩)) hr
end Go.Proofs.YtdjfndijbnpkpaaDoor.Sh.PS
