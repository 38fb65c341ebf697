/-
  What is read has no more tokens than were there; what is so of all that is read.
-/
import Derived.Test.YtdjfndijbnpkpaaDoorPGap
set_option linter.unusedVariables false
set_option linter.unusedSimpArgs false
set_option linter.unusedSectionVars false
set_option linter.unnecessarySimpa false
set_option maxRecDepth 100000
namespace Go.Proofs.YtdjfndijbnpkpaaDoor.Sh.PS
open Go Go.AM Go.Proofs Go.AM.Lx
theorem is_ne {k : Int} {x : List UInt8} {s : PS} (h : s.is k x = true) (h0 : k ≠ 0) : s.rest ≠ [] := by
 intro e
 unfold is hd at h
 rw [e] at h
 simp only [Bool.and_eq_true, decide_eq_true_eq] at h
 exact h0 h.2.1.symm
theorem adv_len {k : Int} {x : List UInt8} {s : PS} (h : s.is k x = true) (h0 : k ≠ 0) : s.adv.rest.length + 1 = s.rest.length := by
 have := List.length_pos_iff.2 (is_ne h h0)
 show s.rest.tail.length + 1 = _
 rw [List.length_tail]
 omega
theorem take_len {k : Int} {x : List UInt8} {s : PS} (h0 : k ≠ 0) (he : (s.take k x).2.err = 0) : (s.take k x).2.rest.length + 1 = s.rest.length := by
 cases c : s.is k x with
 | true =>
   unfold take
   rw [c]
   simp only [if_true, if_pos h0]
   exact adv_len c h0
 | false => exact absurd he (take_no c)
theorem below_len {k m : Int} {s : PS} (h0 : k ≠ 0) (he : (s.below k m).2.err = 0) : (s.below k m).2.rest.length + 1 = s.rest.length := by
 unfold below at he ⊢
 simp only at he ⊢
 by_cases c : (s.is k [] && decide (m ≤ s.hd.n)) = true
 ·rw [if_pos c] at he
  exfalso
  have h1 : s.is k [] = true := by simp only [Bool.and_eq_true] at c; exact c.1
  have := (stp_take k [] (s.fail 2)).ok he
  unfold fail at this
  rw [if_pos (is_err h1)] at this
  cases this
 ·rw [if_neg c] at he ⊢
  exact take_len h0 he
theorem reg_len {s : PS} (he : s.reg.2.err = 0) : s.reg.2.rest.length + 1 = s.rest.length := below_len (by decide) he
theorem lab_len {s : PS} (he : s.label.2.err = 0) : s.label.2.rest.length + 1 = s.rest.length := below_len (by decide) he
theorem slot_len {s : PS} (he : s.slot.2.err = 0) : s.slot.2.rest.length + 1 = s.rest.length := below_len (by decide) he
theorem sign_len {c : UInt8} {s : PS} (he : (s.sign c).err = 0) : (s.sign c).rest.length + 1 = s.rest.length := take_len (by decide) he
theorem eol_len {s : PS} (he : s.eol.err = 0) : s.eol.rest.length + 1 = s.rest.length := take_len (by decide) he
theorem word_is {s : PS} {w : List UInt8} (h : s.word = w) (hw : w ≠ []) : s.is 1 [] = true := by
 cases c : s.is 1 [] with
 | true => rfl
 | false =>
   unfold word at h
   rw [c] at h
   exact absurd h.symm hw
theorem advw_len {s : PS} {w : List UInt8} (h : s.word = w) (hw : w ≠ []) : s.adv.rest.length + 1 = s.rest.length := adv_len (word_is h hw) (by decide)
theorem reg2_len {s : PS} (he : ((s.reg.2).sign 44).reg.2.err = 0) : ((s.reg.2).sign 44).reg.2.rest.length + 3 = s.rest.length := by
 have h1 := (stp_reg _).ok he
 have h2 := (stp_sign _ _).ok h1
 have := reg_len he
 have := sign_len h1
 have := reg_len h2
 omega
theorem last_len {s : PS} (hb : s.last.1.2 = true) (he : s.last.2.err = 0) : (rdL s.last.1.1).length + s.last.2.rest.length = s.rest.length := by
 unfold last at hb he ⊢
 by_cases c1 : s.word = wJump
 ·simp only [if_pos c1] at he ⊢
  have := advw_len c1 (by decide)
  have := lab_len he
  simp only [rdL, if_true, List.length_cons, List.length_nil]
  omega
 simp only [if_neg c1] at hb he ⊢
 by_cases c2 : s.word = wBr
 ·simp only [if_pos c2] at he ⊢
  have h1 := (stp_label _).ok he
  have h2 := (stp_sign _ _).ok h1
  have h3 := (stp_label _).ok h2
  have h4 := (stp_sign _ _).ok h3
  have := advw_len c2 (by decide)
  have := lab_len he
  have := sign_len h1
  have := lab_len h2
  have := sign_len h3
  have := reg_len h4
  simp only [rdL, if_neg (show ¬ (1 : Int) = 0 by decide), if_true, List.length_cons, List.length_nil]
  omega
 simp only [if_neg c2] at hb he ⊢
 by_cases c3 : s.word = wRet
 ·simp only [if_pos c3] at he ⊢
  have := advw_len c3 (by decide)
  have := reg_len he
  simp only [rdL, if_neg (show ¬ (2 : Int) = 0 by decide), if_neg (show ¬ (2 : Int) = 1 by decide), if_true, List.length_cons, List.length_nil]
  omega
 simp only [if_neg c3] at hb he ⊢
 by_cases c4 : s.word = wTrap
 ·simp only [if_pos c4] at he ⊢
  have := advw_len c4 (by decide)
  simp only [rdL, if_neg (show ¬ (3 : Int) = 0 by decide), if_neg (show ¬ (3 : Int) = 1 by decide), if_neg (show ¬ (3 : Int) = 2 by decide), List.length_cons, List.length_nil]
  omega
 ·simp only [if_neg c4] at hb
  cases hb
theorem right_len {s : PS} (he : s.right.2.err = 0) (d : Int) : (rdI { s.right.1 with dst := d }).length + s.right.2.rest.length = s.rest.length + 2 := by
 unfold right at he ⊢
 by_cases c1 : s.is 5 [] = true
 ·simp only [if_pos c1] at he ⊢
  have := adv_len c1 (by decide)
  simp [rdI]
  omega
 simp only [if_neg c1] at he ⊢
 by_cases c2 : s.is 2 [] = true
 ·simp only [if_pos c2] at he ⊢
  have := reg_len he
  simp [rdI]
  omega
 simp only [if_neg c2] at he ⊢
 cases hf : findOp s.word with
 | some o =>
   simp only [hf] at he ⊢
   have := advw_len rfl (findOp_ne hf)
   have := reg2_len he
   simp [rdI]
   omega
 | none =>
   simp only [hf] at he ⊢
   by_cases c3 : s.word = wIn
   ·simp only [if_pos c3] at he ⊢
    have := advw_len c3 (by decide)
    simp [rdI]
    omega
   simp only [if_neg c3] at he ⊢
   by_cases c4 : s.word = wLoad
   ·simp only [if_pos c4] at he ⊢
    have := advw_len c4 (by decide)
    have := slot_len he
    simp [rdI]
    omega
   simp only [if_neg c4] at he ⊢
   by_cases c5 : s.word = wGet
   ·simp only [if_pos c5] at he ⊢
    have := advw_len c5 (by decide)
    have := reg_len he
    simp [rdI]
    omega
   simp only [if_neg c5] at he
   exfalso
   unfold fail at he
   by_cases h : s.err = 0
   ·rw [if_pos h] at he; cases he
   ·rw [if_neg h] at he; exact h he
theorem instr_len {s : PS} (he : s.instr.2.err = 0) : (rdI s.instr.1).length + s.instr.2.rest.length = s.rest.length := by
 unfold instr at he ⊢
 by_cases c1 : s.word = wOut
 ·simp only [if_pos c1] at he ⊢
  have := advw_len c1 (by decide)
  have := reg_len he
  simp [rdI]
  omega
 simp only [if_neg c1] at he ⊢
 by_cases c2 : s.word = wStore
 ·simp only [if_pos c2] at he ⊢
  have h1 := (stp_reg _).ok he
  have h2 := (stp_sign _ _).ok h1
  have := advw_len c2 (by decide)
  have := reg_len he
  have := sign_len h1
  have := slot_len h2
  simp [rdI]
  omega
 simp only [if_neg c2] at he ⊢
 by_cases c3 : s.word = wPut
 ·simp only [if_pos c3] at he ⊢
  have := advw_len c3 (by decide)
  have := reg2_len he
  simp [rdI]
  omega
 simp only [if_neg c3] at he ⊢
 have h1 := (stp_right _).ok he
 have h2 := (stp_sign _ _).ok h1
 have hr := right_len he s.reg.1
 have := sign_len h1
 have := reg_len h2
 rw [if_pos he]
 simp only at hr ⊢
 omega
def rdIs (l : List Instr) : List Rd := l.flatMap fun x => rdI x ++ [rLine]
theorem rdIs_snoc (l : List Instr) (x : Instr) : (rdIs (l ++ [x])).length = (rdIs l).length + ((rdI x).length + 1) := by
 unfold rdIs
 rw [List.flatMap_append, List.length_append]
 simp
theorem last_same {s : PS} (h : ¬ s.last.1.2 = true) : s.last.2 = s := by
 unfold last at h ⊢
 by_cases c1 : s.word = wJump
 ·simp only [if_pos c1] at h; exact absurd trivial h
 simp only [if_neg c1] at h ⊢
 by_cases c2 : s.word = wBr
 ·simp only [if_pos c2] at h; exact absurd trivial h
 simp only [if_neg c2] at h ⊢
 by_cases c3 : s.word = wRet
 ·simp only [if_pos c3] at h; exact absurd trivial h
 simp only [if_neg c3] at h ⊢
 by_cases c4 : s.word = wTrap
 ·simp only [if_pos c4] at h; exact absurd trivial h
 ·simp only [if_neg c4]
theorem bloop_len : ∀ (f : Nat) (s : PS) (l : List Instr) r, bloop f s l = some r → r.2.2.err = 0 → (rdIs r.1).length + (rdL r.2.1).length + r.2.2.rest.length ≤ (rdIs l).length + s.rest.length := by
 intro f
 induction f with
 | zero => intro s l r h; cases h
 | succ f ih =>
   intro s l r h he
   have h0 := (bloop_stp _ _ _ _ h).ok he
   rw [bloop_succ, if_pos h0] at h
   have h1 := (stp_lines s).len
   by_cases c : s.lines.last.1.2 = true
   ·rw [if_pos c] at h
    cases h
    have := last_len c he
    simp only
    omega
   ·rw [if_neg c, last_same c] at h
    have h2 := ih _ _ _ h he
    have h3 := (bloop_stp _ _ _ _ h).ok he
    have h4 := eol_len h3
    have h5 := instr_len ((stp_eol _).ok h3)
    rw [rdIs_snoc] at h2
    omega
theorem block_len {f : Nat} {s : PS} {r} (h : block f s = some r) (he : r.2.err = 0) : (rdB r.1).length + r.2.rest.length ≤ s.rest.length ∨ r.2.is 0 [] = true ∧ (rdB r.1).length + r.2.rest.length ≤ s.rest.length + 1 := by
 unfold block at h
 split at h
 ·rename_i l e s' hb
  cases h
  simp only at he ⊢
  have key : s'.err = 0 → (rdB ⟨s.label.1, [], l, e⟩).length + s'.rest.length ≤ s.rest.length + 1 := fun hz => by
   have g1 := (bloop_stp _ _ _ _ hb).ok hz
   have g2 := (stp_eol _).ok g1
   have g3 := (stp_sign _ _).ok g2
   have := bloop_len _ _ _ _ hb hz
   have := eol_len g1
   have := sign_len g2
   have := lab_len g3
   simp only [rdIs, List.flatMap_nil, List.length_nil] at *
   simp only [rdB, List.length_append, List.length_cons, List.length_nil]
   omega
  by_cases c : s'.is 0 [] = true
  ·rw [if_pos c] at he ⊢
   exact .inr ⟨c, key he⟩
  ·rw [if_neg c] at he ⊢
   have := key ((stp_eol _).ok he)
   have := eol_len he
   exact .inl (by omega)
 ·cases h
theorem rdP_snoc (l : Prog) (b : Block) : (rdP (l ++ [b])).length = (rdP l).length + (rdB b).length := by
 unfold rdP
 rw [List.flatMap_append, List.length_append]
 simp
theorem progL_len : ∀ (f : Nat) (s : PS) (l : Prog) r, progL f s l = some r → r.2.err = 0 → (rdP r.1).length ≤ (rdP l).length + s.rest.length + 1 := by
 intro f
 induction f with
 | zero => intro s l r h; cases h
 | succ f ih =>
   intro s l r h he
   rw [progL_succ] at h
   by_cases c : s.is 3 [] = true
   ·rw [if_pos c] at h
    split at h
    ·rename_i b s' hb
     have h1 := (progL_stp _ _ _ _ h).ok he
     have h2 := (stp_lines _).ok h1
     have h3 := (stp_lines s').len
     rcases block_len hb h2 with k | ⟨k1, k2⟩
     ·have := ih _ _ _ h he
      rw [rdP_snoc] at this
      simp only at k
      omega
     ·simp only at k1 k2
      cases f with
      | zero => cases h
      | succ f =>
        have hz : s'.lines.is 3 [] = false := by
         have hk := k1
         unfold is hd at hk ⊢
         unfold lines
         rw [if_pos h2]
         cases hr : s'.rest with
         | nil => simp [endT]
         | cons t u =>
           rw [hr] at hk
           simp only [Bool.and_eq_true, decide_eq_true_eq] at hk
           simp [hk.2.1]
        rw [progL_succ, hz, if_neg (by decide)] at h
        cases h
        rw [rdP_snoc]
        omega
    ·cases h
   ·rw [if_neg c] at h
    cases h
    simp only
    omega
theorem prog_len {f : Nat} {ts : List Tok} {r} (h : prog f ⟨ts, 0, 0⟩ = some r) (he : r.2.err = 0) : (rdP r.1).length ≤ ts.length + 1 := by
 have h1 := progL_len _ _ _ _ h he
 have h2 := (stp_lines ⟨ts, 0, 0⟩).len
 simp only [rdP, List.flatMap_nil, List.length_nil] at h1 h2 ⊢
 omega
def IB (x : Instr) : Prop := 0 ≤ x.kind ∧ 0 ≤ x.op ∧ fitN x.n
theorem right_base {s : PS} (h : fitN s.hd.n) (d : Int) : IB { s.right.1 with dst := d } := by
 have h0 : fitN 0 := by unfold fitN; omega
 unfold right
 by_cases c1 : s.is 5 [] = true
 ·simp only [if_pos c1]
  exact ⟨(by (try dsimp only); omega), (by (try dsimp only); omega), h⟩
 simp only [if_neg c1]
 by_cases c2 : s.is 2 [] = true
 ·simp only [if_pos c2]
  exact ⟨(by (try dsimp only); omega), (by (try dsimp only); omega), h0⟩
 simp only [if_neg c2]
 cases hf : findOp s.word with
 | some o => exact ⟨(by (try dsimp only); omega), Int.natCast_nonneg o, h0⟩
 | none =>
   simp only
   by_cases c3 : s.word = wIn
   ·simp only [if_pos c3]; exact ⟨(by (try dsimp only); omega), (by (try dsimp only); omega), h0⟩
   simp only [if_neg c3]
   by_cases c4 : s.word = wLoad
   ·simp only [if_pos c4]; exact ⟨(by (try dsimp only); omega), (by (try dsimp only); omega), h0⟩
   simp only [if_neg c4]
   by_cases c5 : s.word = wGet
   ·simp only [if_pos c5]; exact ⟨(by (try dsimp only); omega), (by (try dsimp only); omega), h0⟩
   ·simp only [if_neg c5]; exact ⟨(by (try dsimp only); omega), (by (try dsimp only); omega), h0⟩
def TF (s : PS) : Prop := ∀ t ∈ s.rest, fitN t.n
theorem TF.stp {s s' : PS} (h : TF s) (k : Stp s s') : TF s' := fun t ht => h t (k.suf.subset ht)
theorem TF.hd {s : PS} (h : TF s) : fitN s.hd.n := by
 unfold PS.hd
 cases hr : s.rest with
 | nil => exact ⟨by decide, by decide⟩
 | cons t r => exact h t (by rw [hr]; simp)
theorem instr_base {s : PS} (h : TF s) : IB s.instr.1 := by
 have h0 : fitN 0 := by unfold fitN; omega
 unfold instr
 by_cases c1 : s.word = wOut
 ·simp only [if_pos c1]; exact ⟨(by (try dsimp only); omega), (by (try dsimp only); omega), h0⟩
 simp only [if_neg c1]
 by_cases c2 : s.word = wStore
 ·simp only [if_pos c2]; exact ⟨(by (try dsimp only); omega), (by (try dsimp only); omega), h0⟩
 simp only [if_neg c2]
 by_cases c3 : s.word = wPut
 ·simp only [if_pos c3]; exact ⟨(by (try dsimp only); omega), (by (try dsimp only); omega), h0⟩
 simp only [if_neg c3]
 split
 ·exact right_base ((h.stp ((stp_reg _).trans (stp_sign 61 _))).hd) _
 ·exact ⟨(by (try dsimp only); omega), (by (try dsimp only); omega), h0⟩
theorem last_base (s : PS) : 0 ≤ s.last.1.1.kind := by
 unfold last
 by_cases c1 : s.word = wJump
 ·simp only [if_pos c1]; decide
 simp only [if_neg c1]
 by_cases c2 : s.word = wBr
 ·simp only [if_pos c2]; decide
 simp only [if_neg c2]
 by_cases c3 : s.word = wRet
 ·simp only [if_pos c3]; decide
 simp only [if_neg c3]
 by_cases c4 : s.word = wTrap
 ·simp only [if_pos c4]; decide
 ·simp only [if_neg c4]; decide
theorem bloop_base : ∀ (f : Nat) (s : PS) (l : List Instr) r, bloop f s l = some r → TF s → (∀ x ∈ l, IB x) → (∀ x ∈ r.1, IB x) ∧ 0 ≤ r.2.1.kind := by
 intro f
 induction f with
 | zero => intro s l r h; cases h
 | succ f ih =>
   intro s l r h ht hl
   rw [bloop_succ] at h
   split at h
   ·split at h
    ·cases h
     exact ⟨hl, last_base _⟩
    ·have h1 := (stp_lines s).trans (stp_last _)
     refine ih _ _ _ h (ht.stp (h1.trans ((stp_instr _).trans (stp_eol _)))) fun x hx => ?_
     rcases List.mem_append.1 hx with hx | hx
     ·exact hl x hx
     ·rw [List.mem_singleton.1 hx]
      exact instr_base (ht.stp h1)
   ·cases h
    exact ⟨hl, (by (try dsimp only); omega)⟩
theorem progL_base : ∀ (f : Nat) (s : PS) (l : Prog) r, progL f s l = some r → TF s → (∀ b ∈ l, b.Base) → ∀ b ∈ r.1, b.Base := by
 intro f
 induction f with
 | zero => intro s l r h; cases h
 | succ f ih =>
   intro s l r h ht hl
   rw [progL_succ] at h
   split at h
   ·split at h
    ·rename_i b s' hb
     refine ih _ _ _ h (ht.stp ((block_stp hb).trans (stp_lines _))) fun c hc => ?_
     rcases List.mem_append.1 hc with hc | hc
     ·exact hl c hc
     ·rw [List.mem_singleton.1 hc]
      unfold block at hb
      split at hb
      ·rename_i l e s'' hbl
       cases hb
       obtain ⟨k1, k2⟩ := bloop_base _ _ _ _ hbl (ht.stp (((stp_label _).trans (stp_sign _ _)).trans (stp_eol _))) (by simp)
       exact ⟨rfl, k1, k2⟩
      ·cases hb
    ·cases h
   ·cases h
    exact hl
theorem prog_base {f : Nat} {ts : List Tok} {r} (h : prog f ⟨ts, 0, 0⟩ = some r) (ht : ∀ t ∈ ts, fitN t.n) : ∀ b ∈ r.1, b.Base :=
 progL_base _ _ _ _ h (TF.stp (s := ⟨ts, 0, 0⟩) ht (stp_lines _)) (by simp)
theorem count_rd (p : Prog) (hb : ∀ b ∈ p, b.phis = []) : count p ≤ (rdP p).length := by
 unfold rdP count
 induction p with
 | nil => simp
 | cons b p ih =>
   rw [List.flatMap_cons, List.length_append, List.map_cons, List.sum_cons]
   have hi : b.instrs.length ≤ (b.instrs.flatMap fun x => rdI x ++ [rLine]).length := by
    induction b.instrs with
    | nil => simp
    | cons x l ih => rw [List.flatMap_cons, List.length_append, List.length_append]; simp only [List.length_cons, List.length_nil]; omega
   have hp : (rdB b).length = 3 + (b.instrs.flatMap fun x => rdI x ++ [rLine]).length + (rdL b.last).length + 1 := by simp [rdB]; omega
   have hz : b.phis = [] := hb b (by simp)
   have := ih fun c hc => hb c (by simp [hc])
   rw [hz]
   simp only [List.length_nil]
   omega
end Go.Proofs.YtdjfndijbnpkpaaDoor.Sh.PS
namespace Go.Proofs.YtdjfndijbnpkpaaDoor.Sh
open Go Go.AM Go.Proofs Go.AM.Lx
theorem PS.progL_phis : ∀ (f : Nat) (s : PS) (l : Prog) r, PS.progL f s l = some r → (∀ b ∈ l, b.phis = []) → ∀ b ∈ r.1, b.phis = [] := by
 intro f
 induction f with
 | zero => intro s l r h; cases h
 | succ f ih =>
   intro s l r h hl
   rw [PS.progL_succ] at h
   split at h
   ·split at h
    ·rename_i b s' hb
     refine ih _ _ _ h fun c hc => ?_
     rcases List.mem_append.1 hc with hc | hc
     ·exact hl c hc
     ·rw [List.mem_singleton.1 hc]
      unfold PS.block at hb
      split at hb
      ·cases hb; rfl
      ·cases hb
    ·cases h
   ·cases h
    exact hl
theorem PS.prog_phis {f : Nat} {ts : List Tok} {r} (h : PS.prog f ⟨ts, 0, 0⟩ = some r) : ∀ b ∈ r.1, b.phis = [] := PS.progL_phis _ _ _ _ h (by simp)
def outP (p : Prog) (e : Int) : Prog := if e = 0 ∧ check p = 0 then p else []
def outE (p : Prog) (e : Int) : Int := if e = 0 then check p else e
theorem split_lay2 {gs : List Int} {l : List Rd} (h : ∀ p ∈ l, Item p) (hl : (textG gs l 0).length ≤ 100000) : ∃ ts, Lay l ts ∧ split (events (textG gs l 0)) = (ts ++ [endT (textG gs l 0).length], 0, 0) := by
 obtain ⟨ts, h1, h2⟩ := lay_text gs l 0 0 h
 refine ⟨ts, h1, ?_⟩
 unfold events
 rw [if_neg (by omega)]
 have := h2 []
 rw [List.append_nil, evs_nil, Nat.zero_add] at this
 rw [this, split_toks, split_cons, if_pos rfl]
 unfold Lx.ahead Lx.split
 rfl
variable {K : Ctx} (hF : Fix pgF K)
include hF
theorem Parse_out {s : List UInt8} (hs : s.length ≤ 100000) {ts : List Tok} (hsp : split (events s) = (ts, 0, 0)) {f : Nat} (hf : f ≤ 100000000) {r} (hr : PS.prog f ⟨ts, 0, 0⟩ = some r) (hts : ts.length ≤ 1000000) {st : St} (hv : VOk st) :
 Ok (K.go (.call n_parse_Parse [T s]) st) (ParsePost st (outP r.1 r.2.err) (if r.2.err ≠ 0 then r.2.at_ else if check r.1 = 0 then 0 else s.length) (outE r.1 r.2.err)) := by
 refine Parse_all hF (by unfold Short; omega) hv (fun hne => by rw [hsp] at hne; exact absurd rfl hne) fun _ => ?_
 rw [hsp]
 have hph := PS.prog_phis hr
 refine ⟨f, r.1, r.2, hf, hr, fun hne => ?_, fun h0 => ⟨?_, hph, fun hc => ?_, fun hc => ?_⟩⟩
 ·unfold outP outE
  rw [if_neg (fun h => hne h.1), if_pos hne, if_neg hne]
  exact ⟨rfl, rfl, rfl⟩
 ·have h1 := PS.prog_len hr h0
  have h2 := PS.count_rd r.1 hph
  omega
 ·unfold outP outE
  rw [if_neg (fun h => hc h.2), if_neg (fun h => h h0), if_neg hc, if_pos h0]
  exact ⟨rfl, rfl, rfl⟩
 ·unfold outP outE
  rw [if_pos ⟨h0, hc⟩, if_neg (fun h => h h0), if_pos hc, if_pos h0, hc]
  exact ⟨rfl, rfl, rfl⟩
end Go.Proofs.YtdjfndijbnpkpaaDoor.Sh
