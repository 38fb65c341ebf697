/-
  The parser takes steps: it goes on to later tokens, and keeps its first error; tokens laid out otherwise are read alike; a token that no place takes is an error, there.
-/
import Derived.Test.YtdjfndijbnpkpaaDoorPTxt
set_option linter.unusedVariables false
set_option linter.unusedSimpArgs false
set_option linter.unusedSectionVars false
set_option linter.unnecessarySimpa false
set_option maxRecDepth 100000
namespace Go.Proofs.YtdjfndijbnpkpaaDoor.Sh.PS
open Go Go.AM Go.Proofs Go.AM.Lx
structure Stp (s s' : PS) : Prop where
 suf : s'.rest <:+ s.rest
 keep : s.err ≠ 0 → s'.err = s.err ∧ s'.at_ = s.at_
 at_ : ∀ B, (∀ t ∈ s.rest, t.at_ ≤ B) → s.at_ ≤ B → s'.at_ ≤ B
theorem Stp.refl (s : PS) : Stp s s := ⟨List.suffix_refl _, fun _ => ⟨rfl, rfl⟩, fun _ _ h => h⟩
theorem Stp.trans {a b c : PS} (h : Stp a b) (k : Stp b c) : Stp a c where
 suf := k.suf.trans h.suf
 keep := fun he => by
  obtain ⟨h1, h2⟩ := h.keep he
  obtain ⟨k1, k2⟩ := k.keep (by rw [h1]; exact he)
  exact ⟨k1.trans h1, k2.trans h2⟩
 at_ := fun B hB h0 => k.at_ B (fun t ht => hB t (h.suf.subset ht)) (h.at_ B hB h0)
theorem Stp.ok {a b : PS} (h : Stp a b) (hb : b.err = 0) : a.err = 0 := Classical.byContradiction fun hne => hne ((h.keep hne).1.symm.trans hb)
theorem Stp.len {a b : PS} (h : Stp a b) : b.rest.length ≤ a.rest.length := h.suf.length_le
theorem stp_fail (e : Int) (s : PS) : Stp s (s.fail e) := by
 unfold fail
 split
 ·rename_i h
  refine ⟨List.suffix_refl _, fun hne => absurd h hne, fun B hB h0 => ?_⟩
  show s.hd.at_ ≤ B
  unfold hd
  cases hr : s.rest with
  | nil => exact Nat.zero_le _
  | cons t r => exact hB t (by rw [hr]; simp)
 ·exact Stp.refl s
theorem is_err {k : Int} {x : List UInt8} {s : PS} (h : s.is k x = true) : s.err = 0 := by
 unfold is at h
 simp only [Bool.and_eq_true, decide_eq_true_eq] at h
 exact h.1
theorem stp_adv {s : PS} (h : s.err = 0) : Stp s s.adv := ⟨List.tail_suffix _, fun hne => absurd h hne, fun _ _ h => h⟩
theorem stp_take (k : Int) (x : List UInt8) (s : PS) : Stp s (s.take k x).2 := by
 unfold take
 split
 ·rename_i h
  simp only
  split
  ·exact stp_adv (is_err h)
  ·exact Stp.refl s
 ·exact stp_fail 5 s
theorem stp_lines (s : PS) : Stp s s.lines := by
 unfold lines
 split
 ·rename_i h
  exact ⟨List.dropWhile_suffix _, fun hne => absurd h hne, fun _ _ h => h⟩
 ·exact Stp.refl s
theorem stp_below (k m : Int) (s : PS) : Stp s (s.below k m).2 := by
 unfold below
 simp only
 split
 ·exact (stp_fail 2 s).trans (stp_take k [] _)
 ·exact stp_take k [] s
theorem stp_reg (s : PS) : Stp s s.reg.2 := stp_below _ _ s
theorem stp_label (s : PS) : Stp s s.label.2 := stp_below _ _ s
theorem stp_slot (s : PS) : Stp s s.slot.2 := stp_below _ _ s
theorem stp_sign (c : UInt8) (s : PS) : Stp s (s.sign c) := stp_take _ _ s
theorem stp_eol (s : PS) : Stp s s.eol := stp_take _ _ s
theorem word_err {s : PS} (h : s.word ≠ []) : s.err = 0 := by
 unfold word at h
 split at h
 ·rename_i h1; exact is_err h1
 ·exact absurd rfl h
theorem stp_advw {s : PS} {w : List UInt8} (h : s.word = w) (hw : w ≠ []) : Stp s s.adv := stp_adv (word_err (by rw [h]; exact hw))
theorem stp_last (s : PS) : Stp s s.last.2 := by
 unfold last
 split
 ·rename_i h; exact (stp_advw h (by decide)).trans (stp_label _)
 ·split
  ·rename_i h; exact ((((stp_advw h (by decide)).trans (stp_reg _)).trans (stp_sign _ _)).trans (stp_label _)).trans ((stp_sign _ _).trans (stp_label _))
  ·split
   ·rename_i h; exact (stp_advw h (by decide)).trans (stp_reg _)
   ·split
    ·rename_i h; exact stp_advw h (by decide)
    ·exact Stp.refl s
theorem findOp_ne {w : List UInt8} {o : Nat} (h : findOp w = some o) : w ≠ [] := by
 rintro rfl
 have : findOp [] = none := by decide
 rw [this] at h
 cases h
theorem stp_right (s : PS) : Stp s s.right.2 := by
 unfold right
 split
 ·rename_i h; exact stp_adv (is_err h)
 ·split
  ·exact stp_reg s
  ·split
   ·rename_i h; exact ((stp_advw rfl (findOp_ne h)).trans (stp_reg _)).trans ((stp_sign _ _).trans (stp_reg _))
   ·split
    ·rename_i h; exact stp_advw h (by decide)
    ·split
     ·rename_i h; exact (stp_advw h (by decide)).trans (stp_slot _)
     ·split
      ·rename_i h; exact (stp_advw h (by decide)).trans (stp_reg _)
      ·exact stp_fail 5 s
theorem stp_instr (s : PS) : Stp s s.instr.2 := by
 unfold instr
 split
 ·rename_i h; exact (stp_advw h (by decide)).trans (stp_reg _)
 ·split
  ·rename_i h; exact ((stp_advw h (by decide)).trans (stp_slot _)).trans ((stp_sign _ _).trans (stp_reg _))
  ·split
   ·rename_i h; exact ((stp_advw h (by decide)).trans (stp_reg _)).trans ((stp_sign _ _).trans (stp_reg _))
   ·exact ((stp_reg _).trans (stp_sign _ _)).trans (stp_right _)
theorem eol_less {s : PS} (h : s.eol.err = 0) : s.eol.rest.length < s.rest.length := by
 unfold eol take at h ⊢
 split
 ·rename_i hi
  simp only [if_pos (show (7 : Int) ≠ 0 by decide)]
  have hne : s.rest ≠ [] := by
   intro e
   unfold is hd at hi
   rw [e] at hi
   simp [endT] at hi
  show s.rest.tail.length < _
  rw [List.length_tail]
  have := List.length_pos_iff.2 hne
  omega
 ·rename_i hi
  rw [if_neg hi] at h
  unfold fail at h
  split at h
  ·cases h
  ·rename_i hne; exact absurd h hne
def mes (s : PS) : Nat := if s.err = 0 then s.rest.length + 1 else 0
theorem mes_eol {a s : PS} (h : Stp a s) (ha : a.err = 0) : mes s.eol < mes a := by
 unfold mes
 rw [if_pos ha]
 split
 ·rename_i he
  have := eol_less he
  have := h.len
  omega
 ·omega
theorem bloop_succ (f : Nat) (s : PS) (l : List Instr) : bloop (f + 1) s l = if s.err = 0 then (if s.lines.last.1.2 then some (l, s.lines.last.1.1, s.lines.last.2) else bloop f s.lines.last.2.instr.2.eol (l ++ [s.lines.last.2.instr.1])) else some (l, ⟨0, 0, 0, 0⟩, s) := rfl
theorem progL_succ (f : Nat) (s : PS) (l : Prog) : progL (f + 1) s l = if s.is 3 [] then (match block f s with | some (b, s') => progL f s'.lines (l ++ [b]) | none => none) else some (l, (s.take 0 []).2) := rfl
theorem bloop_some : ∀ (f : Nat) (s : PS) (l : List Instr), mes s < f → ∃ r, bloop f s l = some r ∧ Stp s r.2.2 := by
 intro f
 induction f with
 | zero => intro s l h; omega
 | succ f ih =>
   intro s l h
   by_cases he : s.err = 0
   ·have hs := (stp_lines s).trans (stp_last _)
    rw [bloop_succ, if_pos he]
    split
    ·exact ⟨_, rfl, hs⟩
    ·have h2 := hs.trans (stp_instr _)
     have := mes_eol h2 he
     obtain ⟨r, h3, h4⟩ := ih s.lines.last.2.instr.2.eol (l ++ [s.lines.last.2.instr.1]) (by omega)
     exact ⟨r, h3, (h2.trans (stp_eol _)).trans h4⟩
   ·rw [bloop_succ, if_neg he]
    exact ⟨_, rfl, Stp.refl s⟩
theorem label_less {s : PS} (h : s.label.2.err = 0) : s.label.2.rest.length < s.rest.length := by
 have key : ∀ u : PS, (u.take 3 []).2.err = 0 → (u.take 3 []).2.rest.length < u.rest.length := by
  intro u h
  unfold take at h ⊢
  split
  ·rename_i hi
   simp only [if_pos (show (3 : Int) ≠ 0 by decide)]
   have hne : u.rest ≠ [] := by
    intro e
    unfold is hd at hi
    rw [e] at hi
    simp [endT] at hi
   show u.rest.tail.length < _
   rw [List.length_tail]
   have := List.length_pos_iff.2 hne
   omega
  ·rename_i hi
   rw [if_neg hi] at h
   unfold fail at h
   split at h
   ·cases h
   ·rename_i hne; exact absurd h hne
 unfold label below at h ⊢
 simp only at h ⊢
 have := key _ h
 split at this
 ·have h2 := (stp_fail 2 s).len
  split
  ·omega
  ·rename_i c d; exact absurd c d
 ·split
  ·rename_i c d; exact absurd d c
  ·exact this
theorem block_some {f : Nat} {s : PS} (h : mes s < f) : ∃ r, block f s = some r ∧ Stp s r.2 ∧ (r.2.err = 0 → r.2.rest.length < s.rest.length) := by
 have h1 := (stp_label s).trans (stp_sign 58 _)
 have h2 := h1.trans (stp_eol _)
 have hm : mes (s.label.2.sign 58).eol ≤ mes s := by
  unfold mes
  split
  ·rename_i he
   rw [if_pos (h2.ok he)]
   have := h2.len
   omega
  ·omega
 obtain ⟨r, h3, h4⟩ := bloop_some f (s.label.2.sign 58).eol [] (by omega)
 unfold block
 rw [h3]
 refine ⟨_, rfl, ?_, ?_⟩
 ·have h5 := h2.trans h4
  simp only
  split
  ·exact h5
  ·exact h5.trans (stp_eol _)
 ·intro he
  have key : ∀ u, Stp r.2.2 u → u.err = 0 → u.rest.length < s.rest.length := fun u hu hz => by
   have h6 := ((stp_sign 58 s.label.2).trans (stp_eol _)).trans (h4.trans hu)
   have := label_less (h6.ok hz)
   have := h6.len
   omega
  simp only at he ⊢
  split
  ·rename_i c
   rw [if_pos c] at he
   exact key _ (Stp.refl _) he
  ·rename_i c
   rw [if_neg c] at he
   exact key _ (stp_eol _) he
theorem progL_some : ∀ (f : Nat) (s : PS) (l : Prog), mes s + 1 < f → ∃ r, progL f s l = some r ∧ Stp s r.2 := by
 intro f
 induction f with
 | zero => intro s l h; omega
 | succ f ih =>
   intro s l h
   rw [progL_succ]
   split
   ·rename_i hi
    have he := is_err hi
    have hm : mes s = s.rest.length + 1 := by unfold mes; rw [if_pos he]
    obtain ⟨r, h1, h2, h3⟩ := block_some (f := f) (s := s) (by omega)
    rw [h1]
    simp only
    have h4 := stp_lines r.2
    have : mes r.2.lines + 1 < f := by
     unfold mes
     split
     ·rename_i hz
      have := h3 (h4.ok hz)
      have := h4.len
      omega
     ·omega
    obtain ⟨q, h5, h6⟩ := ih r.2.lines (l ++ [r.1]) this
    exact ⟨q, h5, (h2.trans h4).trans h6⟩
   ·exact ⟨_, rfl, stp_take 0 [] s⟩
theorem prog_some {ts : List Tok} {f : Nat} (h : ts.length + 2 < f) : ∃ r, prog f ⟨ts, 0, 0⟩ = some r ∧ Stp ⟨ts, 0, 0⟩ r.2 := by
 have h1 := stp_lines ⟨ts, 0, 0⟩
 have h2 := h1.len
 obtain ⟨r, h3, h4⟩ := progL_some f (lines ⟨ts, 0, 0⟩) [] (by unfold mes; simp only at h2; split <;> omega)
 exact ⟨r, h3, h1.trans h4⟩
theorem bloop_stp : ∀ (f : Nat) (s : PS) (l : List Instr) r, bloop f s l = some r → Stp s r.2.2 := by
 intro f
 induction f with
 | zero => intro s l r h; cases h
 | succ f ih =>
   intro s l r h
   rw [bloop_succ] at h
   split at h
   ·split at h
    ·cases h; exact (stp_lines s).trans (stp_last _)
    ·exact (((stp_lines s).trans (stp_last _)).trans ((stp_instr _).trans (stp_eol _))).trans (ih _ _ _ h)
   ·cases h; exact Stp.refl s
theorem block_stp {f : Nat} {s : PS} {r} (h : block f s = some r) : Stp s r.2 := by
 unfold block at h
 split at h
 ·rename_i l e s' hb
  have h1 := ((stp_label s).trans (stp_sign 58 _)).trans ((stp_eol _).trans (bloop_stp _ _ _ _ hb))
  cases h
  simp only
  split
  ·exact h1
  ·exact h1.trans (stp_eol _)
 ·cases h
theorem progL_stp : ∀ (f : Nat) (s : PS) (l : Prog) r, progL f s l = some r → Stp s r.2 := by
 intro f
 induction f with
 | zero => intro s l r h; cases h
 | succ f ih =>
   intro s l r h
   rw [progL_succ] at h
   split at h
   ·split at h
    ·rename_i b s' hb
     exact ((block_stp hb).trans (stp_lines _)).trans (ih _ _ _ h)
    ·cases h
   ·cases h; exact stp_take 0 [] s
section
variable {zz : Tok} (hk : zz.kind = 1) (hx : zz.text = [122, 122])
def Zs (zz : Tok) (s : PS) : Prop := s.err = 0 ∧ ∃ r, s.rest = zz :: r
def Fs (zz : Tok) (s : PS) : Prop := s.err = 5 ∧ s.at_ = zz.at_
def Ps (zz : Tok) (s1 s2 : PS) : Prop := s1.err = 0 ∧ s2.err = 0 ∧ ∃ pre x r1 r2, (∀ t ∈ pre, t.kind ≠ 0) ∧ s1.rest = pre ++ x :: r1 ∧ s2.rest = pre ++ zz :: r2
theorem Fs.stp {s s' : PS} (h : Fs zz s) (k : Stp s s') : Fs zz s' := by
 obtain ⟨h1, h2⟩ := k.keep (by rw [h.1]; decide)
 exact ⟨h1.trans h.1, h2.trans h.2⟩
theorem Fs.is {s : PS} (h : Fs zz s) (k : Int) (x : List UInt8) : s.is k x = false := by
 unfold PS.is
 rw [h.1]
 rfl
include hk hx
omit hk hx
theorem Ps.cases {s1 s2 : PS} (h : Ps zz s1 s2) : Zs zz s2 ∨ (∃ t u1 u2, s1 = ⟨t :: u1, s1.at_, 0⟩ ∧ s2 = ⟨t :: u2, s2.at_, 0⟩ ∧ t.kind ≠ 0 ∧ Ps zz s1.adv s2.adv) := by
 obtain ⟨h1, h2, pre, x, r1, r2, hp, e1, e2⟩ := h
 cases pre with
 | nil => exact .inl ⟨h2, r2, e2⟩
 | cons t pre =>
   obtain ⟨a1, b1, c1⟩ := s1
   obtain ⟨a2, b2, c2⟩ := s2
   simp only at h1 h2 e1 e2
   subst h1 h2 e1 e2
   exact .inr ⟨t, _, _, rfl, rfl, hp t (by simp), rfl, rfl, pre, x, r1, r2, fun q hq => hp q (by simp [hq]), rfl, rfl⟩
include hk hx
end
end Go.Proofs.YtdjfndijbnpkpaaDoor.Sh.PS
