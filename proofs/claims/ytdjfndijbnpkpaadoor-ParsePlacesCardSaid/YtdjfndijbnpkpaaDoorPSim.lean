/-
  The parser takes steps: it goes on to later tokens, and keeps its first error; tokens laid out otherwise are read alike; a token that no place takes is an error, there.
-/
import Derived.Test.YtdjfndijbnpkpaaDoorPTxt
set_option linter.unusedVariables false
set_option linter.unusedSimpArgs false
set_option linter.unusedSectionVars false
set_option linter.unnecessarySimpa false
set_option maxRecDepth 100000
namespace Go.Proofs.YtdjfndijbnpkpaaDoor.Sh.PS
open Go Go.AM Go.Proofs Go.AM.Lx
structure Stp (s s' : PS) : Prop where
 suf : s'.rest <:+ s.rest
 keep : s.err ≠ 0 → s'.err = s.err ∧ s'.at_ = s.at_
 at_ : ∀ B, (∀ t ∈ s.rest, t.at_ ≤ B) → s.at_ ≤ B → s'.at_ ≤ B
theorem Stp.refl (s : PS) : Stp s s := ⟨List.suffix_refl _, fun _ => ⟨rfl, rfl⟩, fun _ _ h => h⟩
theorem Stp.trans {a b c : PS} (h : Stp a b) (k : Stp b c) : Stp a c where
 suf := k.suf.trans h.suf
 keep := fun he => by
  obtain ⟨h1, h2⟩ := h.keep he
  obtain ⟨k1, k2⟩ := k.keep (by rw [h1]; exact he)
  exact ⟨k1.trans h1, k2.trans h2⟩
 at_ := fun B hB h0 => k.at_ B (fun t ht => hB t (h.suf.subset ht)) (h.at_ B hB h0)
theorem Stp.ok {a b : PS} (h : Stp a b) (hb : b.err = 0) : a.err = 0 := Classical.byContradiction fun hne => hne ((h.keep hne).1.symm.trans hb)
theorem Stp.len {a b : PS} (h : Stp a b) : b.rest.length ≤ a.rest.length := h.suf.length_le
theorem stp_fail (e : Int) (s : PS) : Stp s (s.fail e) := by
 unfold fail
 split
 ·rename_i h
  refine ⟨List.suffix_refl _, fun hne => absurd h hne, fun B hB h0 => ?_⟩
  show s.hd.at_ ≤ B
  unfold hd
  cases hr : s.rest with
  | nil => exact Nat.zero_le _
  | cons t r => exact hB t (by rw [hr]; simp)
 ·exact Stp.refl s
theorem is_err {k : Int} {x : List UInt8} {s : PS} (h : s.is k x = true) : s.err = 0 := by
 unfold is at h
 simp only [Bool.and_eq_true, decide_eq_true_eq] at h
 exact h.1
theorem stp_adv {s : PS} (h : s.err = 0) : Stp s s.adv := ⟨List.tail_suffix _, fun hne => absurd h hne, fun _ _ h => h⟩
theorem stp_take (k : Int) (x : List UInt8) (s : PS) : Stp s (s.take k x).2 := by
 unfold take
 split
 ·rename_i h
  simp only
  split
  ·exact stp_adv (is_err h)
  ·exact Stp.refl s
 ·exact stp_fail 5 s
theorem stp_lines (s : PS) : Stp s s.lines := by
 unfold lines
 split
 ·rename_i h
  exact ⟨List.dropWhile_suffix _, fun hne => absurd h hne, fun _ _ h => h⟩
 ·exact Stp.refl s
theorem stp_below (k m : Int) (s : PS) : Stp s (s.below k m).2 := by
 unfold below
 simp only
 split
 ·exact (stp_fail 2 s).trans (stp_take k [] _)
 ·exact stp_take k [] s
theorem stp_reg (s : PS) : Stp s s.reg.2 := stp_below _ _ s
theorem stp_label (s : PS) : Stp s s.label.2 := stp_below _ _ s
theorem stp_slot (s : PS) : Stp s s.slot.2 := stp_below _ _ s
theorem stp_sign (c : UInt8) (s : PS) : Stp s (s.sign c) := stp_take _ _ s
theorem stp_eol (s : PS) : Stp s s.eol := stp_take _ _ s
theorem word_err {s : PS} (h : s.word ≠ []) : s.err = 0 := by
 unfold word at h
 split at h
 ·rename_i h1; exact is_err h1
 ·exact absurd rfl h
theorem stp_advw {s : PS} {w : List UInt8} (h : s.word = w) (hw : w ≠ []) : Stp s s.adv := stp_adv (word_err (by rw [h]; exact hw))
theorem stp_last (s : PS) : Stp s s.last.2 := by
 unfold last
 split
 ·rename_i h; exact (stp_advw h (by decide)).trans (stp_label _)
 ·split
  ·rename_i h; exact ((((stp_advw h (by decide)).trans (stp_reg _)).trans (stp_sign _ _)).trans (stp_label _)).trans ((stp_sign _ _).trans (stp_label _))
  ·split
   ·rename_i h; exact (stp_advw h (by decide)).trans (stp_reg _)
   ·split
    ·rename_i h; exact stp_advw h (by decide)
    ·exact Stp.refl s
theorem findOp_ne {w : List UInt8} {o : Nat} (h : findOp w = some o) : w ≠ [] := by
 rintro rfl
 have : findOp [] = none := by decide
 rw [this] at h
 cases h
theorem stp_right (s : PS) : Stp s s.right.2 := by
 unfold right
 split
 ·rename_i h; exact stp_adv (is_err h)
 ·split
  ·exact stp_reg s
  ·split
   ·rename_i h; exact ((stp_advw rfl (findOp_ne h)).trans (stp_reg _)).trans ((stp_sign _ _).trans (stp_reg _))
   ·split
    ·rename_i h; exact stp_advw h (by decide)
    ·split
     ·rename_i h; exact (stp_advw h (by decide)).trans (stp_slot _)
     ·split
      ·rename_i h; exact (stp_advw h (by decide)).trans (stp_reg _)
      ·exact stp_fail 5 s
theorem stp_instr (s : PS) : Stp s s.instr.2 := by
 unfold instr
 split
 ·rename_i h; exact (stp_advw h (by decide)).trans (stp_reg _)
 ·split
  ·rename_i h; exact ((stp_advw h (by decide)).trans (stp_slot _)).trans ((stp_sign _ _).trans (stp_reg _))
  ·split
   ·rename_i h; exact ((stp_advw h (by decide)).trans (stp_reg _)).trans ((stp_sign _ _).trans (stp_reg _))
   ·exact ((stp_reg _).trans (stp_sign _ _)).trans (stp_right _)
theorem bloop_succ (f : Nat) (s : PS) (l : List Instr) : bloop (f + 1) s l = if s.err = 0 then (if s.lines.last.1.2 then some (l, s.lines.last.1.1, s.lines.last.2) else bloop f s.lines.last.2.instr.2.eol (l ++ [s.lines.last.2.instr.1])) else some (l, ⟨0, 0, 0, 0⟩, s) := rfl
theorem progL_succ (f : Nat) (s : PS) (l : Prog) : progL (f + 1) s l = if s.is 3 [] then (match block f s with | some (b, s') => progL f s'.lines (l ++ [b]) | none => none) else some (l, (s.take 0 []).2) := rfl
theorem bloop_stp : ∀ (f : Nat) (s : PS) (l : List Instr) r, bloop f s l = some r → Stp s r.2.2 := by
 intro f
 induction f with
 | zero => intro s l r h; cases h
 | succ f ih =>
   intro s l r h
   rw [bloop_succ] at h
   split at h
   ·split at h
    ·cases h; exact (stp_lines s).trans (stp_last _)
    ·exact (((stp_lines s).trans (stp_last _)).trans ((stp_instr _).trans (stp_eol _))).trans (ih _ _ _ h)
   ·cases h; exact Stp.refl s
theorem block_stp {f : Nat} {s : PS} {r} (h : block f s = some r) : Stp s r.2 := by
 unfold block at h
 split at h
 ·rename_i l e s' hb
  have h1 := ((stp_label s).trans (stp_sign 58 _)).trans ((stp_eol _).trans (bloop_stp _ _ _ _ hb))
  cases h
  simp only
  split
  ·exact h1
  ·exact h1.trans (stp_eol _)
 ·cases h
theorem progL_stp : ∀ (f : Nat) (s : PS) (l : Prog) r, progL f s l = some r → Stp s r.2 := by
 intro f
 induction f with
 | zero => intro s l r h; cases h
 | succ f ih =>
   intro s l r h
   rw [progL_succ] at h
   split at h
   ·split at h
    ·rename_i b s' hb
     exact ((block_stp hb).trans (stp_lines _)).trans (ih _ _ _ h)
    ·cases h
   ·cases h; exact stp_take 0 [] s
section
variable {zz : Tok} (hk : zz.kind = 1) (hx : zz.text = [122, 122])
def Zs (zz : Tok) (s : PS) : Prop := s.err = 0 ∧ ∃ r, s.rest = zz :: r
def Fs (zz : Tok) (s : PS) : Prop := s.err = 5 ∧ s.at_ = zz.at_
def Ps (zz : Tok) (s1 s2 : PS) : Prop := s1.err = 0 ∧ s2.err = 0 ∧ ∃ pre x r1 r2, (∀ t ∈ pre, t.kind ≠ 0) ∧ s1.rest = pre ++ x :: r1 ∧ s2.rest = pre ++ zz :: r2
def PF (zz : Tok) (s1 s2 : PS) : Prop := Ps zz s1 s2 ∨ Fs zz s2
theorem Fs.stp {s s' : PS} (h : Fs zz s) (k : Stp s s') : Fs zz s' := by
 obtain ⟨h1, h2⟩ := k.keep (by rw [h.1]; decide)
 exact ⟨h1.trans h.1, h2.trans h.2⟩
theorem Fs.is {s : PS} (h : Fs zz s) (k : Int) (x : List UInt8) : s.is k x = false := by
 unfold PS.is
 rw [h.1]
 rfl
include hk hx
theorem zs_is {s : PS} (h : Zs zz s) {k : Int} (x : List UInt8) (h1 : k ≠ 1) : s.is k x = false := by
 obtain ⟨h0, r, hr⟩ := h
 unfold is hd
 rw [hr]
 simp only [hk]
 rw [decide_eq_false (p := (1 : Int) = k) (fun e => h1 e.symm)]
 simp
theorem zs_take {s : PS} (h : Zs zz s) {k : Int} (x : List UInt8) (h1 : k ≠ 1) : Fs zz (s.take k x).2 := by
 unfold take
 rw [zs_is hk hx h x h1]
 obtain ⟨h0, r, hr⟩ := h
 simp only [Bool.false_eq_true, if_false]
 unfold fail
 rw [if_pos h0]
 refine ⟨rfl, ?_⟩
 show s.hd.at_ = _
 unfold hd
 rw [hr]
theorem zs_below {s : PS} (h : Zs zz s) {k : Int} (m : Int) (h1 : k ≠ 1) : Fs zz (s.below k m).2 := by
 unfold below
 rw [zs_is hk hx h [] h1]
 simp only [Bool.false_and, Bool.false_eq_true, if_false]
 exact zs_take hk hx h [] h1
theorem zs_word {s : PS} (h : Zs zz s) : s.word = [122, 122] := by
 obtain ⟨h0, r, hr⟩ := h
 obtain ⟨rest, a, e⟩ := s
 simp only at h0 hr
 subst h0
 subst hr
 rw [word_ok hk, hx]
theorem zs_last {s : PS} (h : Zs zz s) : s.last = ((⟨0, 0, 0, 0⟩, false), s) := by
 unfold last
 rw [zs_word hk hx h, if_neg (by decide), if_neg (by decide), if_neg (by decide), if_neg (by decide)]
theorem zs_right {s : PS} (h : Zs zz s) : Fs zz s.right.2 := by
 have hf : findOp [122, 122] = none := by decide
 unfold right
 rw [zs_is hk hx h [] (by decide), if_neg (by decide), zs_is hk hx h [] (by decide), if_neg (by decide), zs_word hk hx h, hf]
 simp only
 rw [if_neg (by decide), if_neg (by decide), if_neg (by decide)]
 have := zs_take hk hx h (k := 0) [] (by decide)
 unfold take at this
 rw [zs_is hk hx h [] (by decide)] at this
 exact this
theorem zs_instr {s : PS} (h : Zs zz s) : Fs zz s.instr.2 := by
 unfold instr
 rw [zs_word hk hx h, if_neg (by decide), if_neg (by decide), if_neg (by decide)]
 exact (zs_below hk hx h _ (by decide) : Fs zz s.reg.2).stp ((stp_sign _ _).trans (stp_right _))
omit hk hx
theorem Ps.cases {s1 s2 : PS} (h : Ps zz s1 s2) : Zs zz s2 ∨ (∃ t u1 u2, s1 = ⟨t :: u1, s1.at_, 0⟩ ∧ s2 = ⟨t :: u2, s2.at_, 0⟩ ∧ t.kind ≠ 0 ∧ Ps zz s1.adv s2.adv) := by
 obtain ⟨h1, h2, pre, x, r1, r2, hp, e1, e2⟩ := h
 cases pre with
 | nil => exact .inl ⟨h2, r2, e2⟩
 | cons t pre =>
   obtain ⟨a1, b1, c1⟩ := s1
   obtain ⟨a2, b2, c2⟩ := s2
   simp only at h1 h2 e1 e2
   subst h1 h2 e1 e2
   exact .inr ⟨t, _, _, rfl, rfl, hp t (by simp), rfl, rfl, pre, x, r1, r2, fun q hq => hp q (by simp [hq]), rfl, rfl⟩
include hk hx
theorem pf_take {s1 s2 : PS} (h : PF zz s1 s2) {k : Int} {x : List UInt8} (h0 : k ≠ 0) (h1 : k ≠ 1) (he : (s1.take k x).2.err = 0) : PF zz (s1.take k x).2 (s2.take k x).2 := by
 rcases h with h | h
 ·rcases h.cases with hz | ⟨t, u1, u2, e1, e2, ht, ha⟩
  ·exact .inr (zs_take hk hx hz x h1)
  ·have hi : s2.is k x = s1.is k x := by rw [e1, e2]; rfl
   unfold take at he ⊢
   rw [hi]
   cases c : s1.is k x with
   | true =>
     simp only [if_true, if_pos h0]
     exact .inl ha
   | false =>
     rw [c] at he
     simp only [Bool.false_eq_true, if_false] at he
     rw [e1] at he
     cases he
 ·exact .inr (h.stp (stp_take _ _ _))
theorem pf_below {s1 s2 : PS} (h : PF zz s1 s2) {k m : Int} (h0 : k ≠ 0) (h1 : k ≠ 1) (he : (s1.below k m).2.err = 0) : PF zz (s1.below k m).2 (s2.below k m).2 := by
 rcases h with h | h
 ·rcases h.cases with hz | ⟨t, u1, u2, e1, e2, ht, ha⟩
  ·exact .inr (zs_below hk hx hz m h1)
  ·have hi : s2.is k [] = s1.is k [] := by rw [e1, e2]; rfl
   have hh : s2.hd = s1.hd := by rw [e1, e2]; rfl
   unfold below at he ⊢
   rw [hi, hh]
   simp only at he ⊢
   cases c : s1.is k [] && decide (m ≤ s1.hd.n) with
   | true =>
     rw [c] at he
     simp only [if_true] at he
     have := (stp_take k [] (s1.fail 2)).ok he
     rw [e1] at this
     cases this
   | false =>
     rw [c] at he
     simp only [Bool.false_eq_true, if_false] at he ⊢
     exact pf_take hk hx (.inl h) h0 h1 he
 ·exact .inr (h.stp (stp_below _ _ _))
theorem pf_reg {s1 s2 : PS} (h : PF zz s1 s2) (he : s1.reg.2.err = 0) : PF zz s1.reg.2 s2.reg.2 := pf_below hk hx h (by decide) (by decide) he
theorem pf_label {s1 s2 : PS} (h : PF zz s1 s2) (he : s1.label.2.err = 0) : PF zz s1.label.2 s2.label.2 := pf_below hk hx h (by decide) (by decide) he
theorem pf_slot {s1 s2 : PS} (h : PF zz s1 s2) (he : s1.slot.2.err = 0) : PF zz s1.slot.2 s2.slot.2 := pf_below hk hx h (by decide) (by decide) he
theorem pf_sign {s1 s2 : PS} (h : PF zz s1 s2) {c : UInt8} (he : (s1.sign c).err = 0) : PF zz (s1.sign c) (s2.sign c) := pf_take hk hx h (by decide) (by decide) he
theorem pf_eol {s1 s2 : PS} (h : PF zz s1 s2) (he : s1.eol.err = 0) : PF zz s1.eol s2.eol := pf_take hk hx h (by decide) (by decide) he
theorem pf_reg2 {s1 s2 : PS} (h : PF zz s1 s2) (he : ((s1.reg.2).sign 44).reg.2.err = 0) : PF zz ((s1.reg.2).sign 44).reg.2 ((s2.reg.2).sign 44).reg.2 := by
 have h1 := (stp_reg _).ok he
 have h2 := (stp_sign _ _).ok h1
 exact pf_reg hk hx (pf_sign hk hx (pf_reg hk hx h h2) h1) he
theorem pf_last {s1 s2 : PS} (h : Ps zz s1 s2) (hz : ¬ Zs zz s2) (he : s1.last.2.err = 0) : s2.last.1.2 = s1.last.1.2 ∧ PF zz s1.last.2 s2.last.2 := by
 rcases h.cases with hz' | ⟨t, u1, u2, e1, e2, ht, ha⟩
 ·exact absurd hz' hz
 have hw : s2.word = s1.word := by rw [e1, e2]; rfl
 unfold last at he ⊢
 rw [hw]
 by_cases c1 : s1.word = wJump
 ·simp only [if_pos c1] at he ⊢
  exact ⟨trivial, pf_label hk hx (.inl ha) he⟩
 simp only [if_neg c1] at he ⊢
 by_cases c2 : s1.word = wBr
 ·simp only [if_pos c2] at he ⊢
  have h1 := (stp_label _).ok he
  have h2 := (stp_sign _ _).ok h1
  have h3 := (stp_label _).ok h2
  have h4 := (stp_sign _ _).ok h3
  exact ⟨trivial, pf_label hk hx (pf_sign hk hx (pf_label hk hx (pf_sign hk hx (pf_reg hk hx (.inl ha) h4) h3) h2) h1) he⟩
 simp only [if_neg c2] at he ⊢
 by_cases c3 : s1.word = wRet
 ·simp only [if_pos c3] at he ⊢
  exact ⟨trivial, pf_reg hk hx (.inl ha) he⟩
 simp only [if_neg c3] at he ⊢
 by_cases c4 : s1.word = wTrap
 ·simp only [if_pos c4] at he ⊢
  exact ⟨trivial, .inl ha⟩
 simp only [if_neg c4] at he ⊢
 exact ⟨trivial, .inl h⟩
theorem pf_right {s1 s2 : PS} (h : PF zz s1 s2) (he : s1.right.2.err = 0) : PF zz s1.right.2 s2.right.2 := by
 rcases h with h | h
 ·rcases h.cases with hz | ⟨t, u1, u2, e1, e2, ht, ha⟩
  ·exact .inr (zs_right hk hx hz)
  ·have hw : s2.word = s1.word := by rw [e1, e2]; rfl
   have hi : ∀ k, s2.is k [] = s1.is k [] := fun k => by rw [e1, e2]; rfl
   unfold right at he ⊢
   rw [hw, hi, hi]
   by_cases c1 : s1.is 5 [] = true
   ·simp only [if_pos c1]
    exact .inl ha
   simp only [if_neg c1] at he ⊢
   by_cases c2 : s1.is 2 [] = true
   ·simp only [if_pos c2] at he ⊢
    exact pf_reg hk hx (.inl h) he
   simp only [if_neg c2] at he ⊢
   cases hf : findOp s1.word with
   | some o =>
     simp only [hf] at he ⊢
     exact pf_reg2 hk hx (.inl ha) he
   | none =>
     simp only [hf] at he ⊢
     by_cases c3 : s1.word = wIn
     ·simp only [if_pos c3]
      exact .inl ha
     simp only [if_neg c3] at he ⊢
     by_cases c4 : s1.word = wLoad
     ·simp only [if_pos c4] at he ⊢
      exact pf_slot hk hx (.inl ha) he
     simp only [if_neg c4] at he ⊢
     by_cases c5 : s1.word = wGet
     ·simp only [if_pos c5] at he ⊢
      exact pf_reg hk hx (.inl ha) he
     simp only [if_neg c5] at he
     rw [e1] at he
     cases he
 ·exact .inr (h.stp (stp_right _))
theorem pf_instr {s1 s2 : PS} (h : PF zz s1 s2) (he : s1.instr.2.err = 0) : PF zz s1.instr.2 s2.instr.2 := by
 rcases h with h | h
 ·rcases h.cases with hz | ⟨t, u1, u2, e1, e2, ht, ha⟩
  ·exact .inr (zs_instr hk hx hz)
  ·have hw : s2.word = s1.word := by rw [e1, e2]; rfl
   unfold instr at he ⊢
   rw [hw]
   by_cases c1 : s1.word = wOut
   ·simp only [if_pos c1] at he ⊢
    exact pf_reg hk hx (.inl ha) he
   simp only [if_neg c1] at he ⊢
   by_cases c2 : s1.word = wStore
   ·simp only [if_pos c2] at he ⊢
    have h1 := (stp_reg _).ok he
    have h2 := (stp_sign _ _).ok h1
    exact pf_reg hk hx (pf_sign hk hx (pf_slot hk hx (.inl ha) h2) h1) he
   simp only [if_neg c2] at he ⊢
   by_cases c3 : s1.word = wPut
   ·simp only [if_pos c3] at he ⊢
    exact pf_reg2 hk hx (.inl ha) he
   simp only [if_neg c3] at he ⊢
   have h1 := (stp_right _).ok he
   have h2 := (stp_sign _ _).ok h1
   exact pf_right hk hx (pf_sign hk hx (pf_reg hk hx (.inl h) h2) h1) he
 ·exact .inr (h.stp (stp_instr _))
theorem ps_lines {s1 s2 : PS} (h : Ps zz s1 s2) : Ps zz s1.lines s2.lines ∨ Zs zz s2.lines := by
 obtain ⟨h1, h2, pre, x, r1, r2, hp, e1, e2⟩ := h
 unfold lines
 rw [if_pos h1, if_pos h2, e1, e2]
 clear e1 e2
 induction pre with
 | nil =>
   refine .inr ⟨h2, r2, ?_⟩
   simp [hk]
 | cons t pre ih =>
   by_cases c : t.kind = 7
   ·have e : ∀ l : List Tok, (t :: pre ++ l).dropWhile (fun t => decide (t.kind = 7)) = (pre ++ l).dropWhile (fun t => decide (t.kind = 7)) := fun l => by simp [c]
    rw [e, e]
    exact ih fun q hq => hp q (by simp [hq])
   ·have e : ∀ l : List Tok, (t :: pre ++ l).dropWhile (fun t => decide (t.kind = 7)) = t :: pre ++ l := fun l => by simp [c]
    rw [e, e]
    exact .inl ⟨h1, h2, t :: pre, x, r1, r2, hp, rfl, rfl⟩
theorem pf_bloop : ∀ (f : Nat) (s1 s2 : PS) (l1 l2 : List Instr) r1, PF zz s1 s2 → bloop f s1 l1 = some r1 → r1.2.2.err = 0 → ∃ r2, bloop (f + 1) s2 l2 = some r2 ∧ PF zz r1.2.2 r2.2.2 := by
 intro f
 induction f with
 | zero => intro s1 s2 l1 l2 r1 _ h; cases h
 | succ f ih =>
   intro s1 s2 l1 l2 r1 hp h he
   have hs := bloop_stp _ _ _ _ h
   have h10 := hs.ok he
   rw [bloop_succ, if_pos h10] at h
   rw [bloop_succ]
   rcases hp with hp | hf
   ·rw [if_pos hp.2.1]
    have zcase : Zs zz s2.lines → ∃ r2, (if s2.lines.last.1.2 = true then some (l2, s2.lines.last.1.1, s2.lines.last.2) else bloop (f + 1) s2.lines.last.2.instr.2.eol (l2 ++ [s2.lines.last.2.instr.1])) = some r2 ∧ PF zz r1.2.2 r2.2.2 := fun hz => by
     rw [zs_last hk hx hz]
     simp only [Bool.false_eq_true, if_false]
     have hf := (zs_instr hk hx hz).stp (stp_eol _)
     refine ⟨(l2 ++ [s2.lines.instr.1], ⟨0, 0, 0, 0⟩, s2.lines.instr.2.eol), ?_, .inr hf⟩
     rw [bloop_succ, if_neg (by rw [hf.1]; decide)]
    rcases ps_lines hk hx hp with hl | hz
    ·by_cases hz : Zs zz s2.lines
     ·exact zcase hz
     ·split at h
      ·rename_i c
       cases h
       obtain ⟨q1, q2⟩ := pf_last hk hx hl hz he
       rw [q1, if_pos c]
       exact ⟨_, rfl, q2⟩
      ·rename_i c
       have g1 := (bloop_stp _ _ _ _ h).ok he
       have g2 := (stp_eol _).ok g1
       have g3 := (stp_instr _).ok g2
       obtain ⟨q1, q2⟩ := pf_last hk hx hl hz g3
       rw [q1, if_neg c]
       exact ih _ _ _ _ _ (pf_eol hk hx (pf_instr hk hx q2 g2) g1) h he
    ·exact zcase hz
   ·rw [if_neg (by rw [hf.1]; decide)]
    exact ⟨_, rfl, .inr hf⟩
theorem pf_block {f : Nat} {s1 s2 : PS} {r1} (hp : PF zz s1 s2) (h : block f s1 = some r1) (he : r1.2.err = 0) : ∃ r2, block (f + 1) s2 = some r2 ∧ PF zz r1.2 r2.2 := by
 unfold block at h ⊢
 split at h
 ·rename_i l e s' hb
  cases h
  simp only at he ⊢
  have hz : s'.err = 0 := by
   split at he
   ·exact he
   ·exact (stp_eol _).ok he
  have g1 := (bloop_stp _ _ _ _ hb).ok hz
  have g2 := (stp_eol _).ok g1
  have g3 := (stp_sign _ _).ok g2
  obtain ⟨r2, k1, k2⟩ := pf_bloop hk hx f _ (s2.label.2.sign 58).eol [] [] _ (pf_eol hk hx (pf_sign hk hx (pf_label hk hx hp g3) g2) g1) hb hz
  rw [k1]
  refine ⟨_, rfl, ?_⟩
  simp only at k2 ⊢
  rcases k2 with k2 | k2
  ·rcases k2.cases with hz | ⟨t, u1, u2, e1, e2, ht, ha⟩
   ·rw [zs_is hk hx hz [] (by decide)]
    exact .inr (zs_take hk hx hz [] (by decide))
   ·have hi : r2.2.2.is 0 [] = s'.is 0 [] := by rw [e1, e2]; rfl
    rw [hi]
    split
    ·exact .inl k2
    ·rename_i c
     rw [if_neg c] at he
     exact pf_eol hk hx (.inl k2) he
  ·rw [k2.is 0 []]
   exact .inr (k2.stp (stp_eol _))
 ·cases h
theorem pf_progL : ∀ (f : Nat) (s1 s2 : PS) (l1 l2 : Prog) r1, Ps zz s1 s2 ∨ Zs zz s2 ∨ Fs zz s2 → progL f s1 l1 = some r1 → r1.2.err = 0 → ∃ r2, progL (f + 1) s2 l2 = some r2 ∧ Fs zz r2.2 := by
 intro f
 induction f with
 | zero => intro s1 s2 l1 l2 r1 _ h; cases h
 | succ f ih =>
   intro s1 s2 l1 l2 r1 hp h he
   have zcase : Zs zz s2 → ∃ r2, progL (f + 1 + 1) s2 l2 = some r2 ∧ Fs zz r2.2 := fun hz => by
    rw [progL_succ, zs_is hk hx hz [] (by decide), if_neg (by decide)]
    exact ⟨_, rfl, zs_take hk hx hz [] (by decide)⟩
   rcases hp with hp | hz | hf
   ·rcases hp.cases with hz | ⟨t, u1, u2, e1, e2, ht, ha⟩
    ·exact zcase hz
    ·have hi : s2.is 3 [] = s1.is 3 [] := by rw [e1, e2]; rfl
     rw [progL_succ] at h
     rw [progL_succ, hi]
     by_cases c3 : s1.is 3 [] = true
     ·rw [if_pos c3] at h ⊢
      split at h
      ·rename_i b s' hb
       have g1 := (progL_stp _ _ _ _ h).ok he
       have g2 := (stp_lines _).ok g1
       obtain ⟨r2, k1, k2⟩ := pf_block hk hx (.inl hp) hb g2
       rw [k1]
       refine ih _ _ _ _ _ ?_ h he
       rcases k2 with k2 | k2
       ·rcases ps_lines hk hx k2 with k | k
        ·exact .inl k
        ·exact .inr (.inl k)
       ·exact .inr (.inr (k2.stp (stp_lines _)))
      ·cases h
     ·rw [if_neg c3] at h
      cases h
      simp only at he
      unfold take at he
      have : s1.is 0 [] = false := by rw [e1]; exact is_no ht
      rw [this] at he
      simp only [Bool.false_eq_true, if_false] at he
      rw [e1] at he
      cases he
   ·exact zcase hz
   ·rw [progL_succ, hf.is 3 [], if_neg (by decide)]
    exact ⟨_, rfl, hf.stp (stp_take _ _ _)⟩
theorem prog_zz {f : Nat} {pre r1 r2 : List Tok} {x : Tok} (hp : ∀ t ∈ pre, t.kind ≠ 0) {q} (h : prog f ⟨pre ++ x :: r1, 0, 0⟩ = some q) (he : q.2.err = 0) : ∃ p S, prog (f + 1) ⟨pre ++ zz :: r2, 0, 0⟩ = some (p, S) ∧ S.err = 5 ∧ S.at_ = zz.at_ := by
 have h0 : Ps zz ⟨pre ++ x :: r1, 0, 0⟩ ⟨pre ++ zz :: r2, 0, 0⟩ := ⟨rfl, rfl, pre, x, r1, r2, hp, rfl, rfl⟩
 obtain ⟨r, k1, k2⟩ := pf_progL hk hx f _ (lines ⟨pre ++ zz :: r2, 0, 0⟩) [] [] q (by
  rcases ps_lines hk hx h0 with k | k
  ·exact .inl k
  ·exact .inr (.inl k)) h he
 exact ⟨r.1, r.2, k1, k2⟩
end
end Go.Proofs.YtdjfndijbnpkpaaDoor.Sh.PS
