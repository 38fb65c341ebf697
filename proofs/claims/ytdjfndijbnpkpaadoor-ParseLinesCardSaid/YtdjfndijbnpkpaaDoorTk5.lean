/-
  Plain programs, laid out as tokens: they are read.
-/
import Derived.Test.YtdjfndijbnpkpaaDoorTk4
set_option linter.unusedVariables false
set_option linter.unusedSimpArgs false
set_option linter.unusedSectionVars false
set_option maxRecDepth 100000
namespace Go.Proofs.YtdjfndijbnpkpaaDoor.Sh
open Go Go.AM Go.Proofs Go.AM.Lx

structure Instr.Good (x : Instr) : Prop where
  kind : 0 ≤ x.kind ∧ x.kind < 9
  op : 0 ≤ x.op ∧ x.op < 12
  only : x = x.only
  dst : 0 ≤ x.dst ∧ x.dst < 100000
  a : 0 ≤ x.a ∧ x.a < 100000
  b : 0 ≤ x.b ∧ x.b < 100000
  slot : 0 ≤ x.slot ∧ x.slot < 16
  n : fitN x.n
theorem good_of {x : Instr} (hc : x.check = 0) (hk : 0 ≤ x.kind) (ho : 0 ≤ x.op) (hn : fitN x.n) : x.Good := by
  unfold Instr.check at hc
  split at hc
  · cases hc
  · rename_i h1
    split at hc
    · cases hc
    · rename_i h2
      split at hc
      · cases hc
      · rename_i h3
        have h2 : x = x.only := Classical.byContradiction h2
        have hop : x.op < 12 := by
          by_cases k2 : x.kind = 2
          · omega
          · have : x.op = 0 := by rw [h2]; unfold Instr.only; simp [k2]
            omega
        simp only [not_or, Bool.not_eq_true', Bool.not_eq_false', isReg, decide_eq_true_eq, decide_eq_false_iff_not, Classical.not_not] at h3
        simp [isReg] at h3
        exact ⟨⟨hk, by omega⟩, ⟨ho, hop⟩, h2, h3.1, h3.2.1, h3.2.2.1, ⟨by omega, by omega⟩, hn⟩
structure Last.Good (l : Last) : Prop where
  kind : 0 ≤ l.kind ∧ l.kind < 4
  only : l = l.only
  a : 0 ≤ l.a ∧ l.a < 100000
  yes : 0 ≤ l.yes ∧ l.yes < 100000
  no : 0 ≤ l.no ∧ l.no < 100000

theorem opWord_ok {o : Int} (h : 0 ≤ o ∧ o < 12) : findOp (opWord o) = some o.toNat ∧ opWord o ≠ [] ∧ (∀ c ∈ opWord o, isLet c = true) ∧ (opWord o).length ≤ 21 := by
  obtain ⟨i, rfl⟩ : ∃ i : Nat, o = i := ⟨o.toNat, by omega⟩
  have hi : i < 12 := by omega
  have e : ((i : Int) % 12).toNat = i := by omega
  unfold opWord
  rw [e]
  have key : ∀ j : Fin 12, findOp (opNames.getD j.val []) = some j.val ∧ opNames.getD j.val [] ≠ [] ∧ (∀ c ∈ opNames.getD j.val [], isLet c = true) ∧ (opNames.getD j.val []).length ≤ 21 := by decide
  have := key ⟨i, hi⟩
  simpa using this

theorem items_I {x : Instr} (h : x.Good) : ∀ p ∈ rdI x, Item p := by
  have hr : ∀ n : Int, 0 ≤ n ∧ n < 100000 → Item (rReg n) := fun n hn => item_reg ⟨hn.1, by omega⟩
  have ho := opWord_ok h.op
  have hs : Item (rSlot x.slot) := item_slot ⟨h.slot.1, by have := h.slot.2; omega⟩
  unfold rdI
  repeat' split
  all_goals simp only [List.forall_mem_cons]
  all_goals (repeat' apply And.intro)
  all_goals first
    | exact hr _ h.dst
    | exact hr _ h.a
    | exact hr _ h.b
    | exact hs
    | exact item_num h.n
    | exact item_word ho.2.1 ho.2.2.1 ho.2.2.2
    | exact item_sign (by decide)
    | exact item_word (by decide) (by decide) (by decide)
    | (intro p hp; cases hp)
theorem items_L {l : Last} (h : l.Good) : ∀ p ∈ rdL l, Item p := by
  have hr : ∀ n : Int, 0 ≤ n ∧ n < 100000 → Item (rReg n) := fun n hn => item_reg ⟨hn.1, by omega⟩
  have hl : ∀ n : Int, 0 ≤ n ∧ n < 100000 → Item (rLab n) := fun n hn => item_lab ⟨hn.1, by omega⟩
  unfold rdL
  repeat' split
  all_goals simp only [List.forall_mem_cons]
  all_goals (repeat' apply And.intro)
  all_goals first
    | exact hr _ h.a
    | exact hl _ h.yes
    | exact hl _ h.no
    | exact item_sign (by decide)
    | exact item_word (by decide) (by decide) (by decide)
    | (intro p hp; cases hp)

namespace PS
theorem last_none {t : Tok} {r : List Tok} {a : Nat} (h : t.kind = 1 → t.text ≠ wJump ∧ t.text ≠ wBr ∧ t.text ≠ wRet ∧ t.text ≠ wTrap) : last ⟨t :: r, a, 0⟩ = ((⟨0, 0, 0, 0⟩, false), ⟨t :: r, a, 0⟩) := by
  by_cases hk : t.kind = 1
  · obtain ⟨h1, h2, h3, h4⟩ := h hk
    unfold last
    rw [word_ok hk, if_neg h1, if_neg h2, if_neg h3, if_neg h4]
  · exact last_no hk
/-- An instruction is read. -/
theorem instr_lay {x : Instr} (h : x.Good) {l : List Rd} {ts : List Tok} (hl : Lay (rdI x ++ l) ts) (r : List Tok) (a : Nat) :
    ∃ t u ts', ts = t :: u ∧ t.kind ≠ 7 ∧ last ⟨ts ++ r, a, 0⟩ = ((⟨0, 0, 0, 0⟩, false), ⟨ts ++ r, a, 0⟩) ∧ Lay l ts' ∧ instr ⟨ts ++ r, a, 0⟩ = (x, ⟨ts' ++ r, a, 0⟩) := by
  have hon := h.only
  have hd := h.dst; have ha := h.a; have hb := h.b; have hs := h.slot; have ho := h.op
  have hk := h.kind
  obtain ⟨k, o, d, xa, xb, n, sl⟩ := x
  simp only at hd ha hb hs ho hk
  simp only [Instr.only, Instr.sets, Instr.reads, Instr.mk.injEq] at hon
  -- those that set a register
  have sets : ∀ (p : Rd) (m : List Rd), Lay (rReg d :: rSign 61 :: (p :: m ++ l)) ts → p.2.kind ≠ 7 → ∃ t1 t2 t3 u, ts = t1 :: t2 :: t3 :: u ∧ t1.kind = 2 ∧ t1.n = d ∧ t2.kind = 6 ∧ t2.text = [61] ∧ same p.2 t3 ∧ Lay (m ++ l) u := fun p m hm hp => by
    obtain ⟨t1, u1, rfl, s1, hm⟩ := lay_ne hm (by simp [rReg])
    obtain ⟨t2, u2, rfl, s2, hm⟩ := lay_ne hm (by simp [rSign])
    obtain ⟨t3, u3, rfl, s3, hm⟩ := lay_ne hm hp
    exact ⟨t1, t2, t3, u3, rfl, s1.1, s1.2.2, s2.1, s2.2.1, s3, hm⟩
  have head : ∀ (t1 t2 t3 : Tok) (u v : List Tok) (y : Instr), t1.kind = 2 → t1.n = d → t2.kind = 6 → t2.text = [61] → right ⟨t3 :: (u ++ r), a, 0⟩ = (y, ⟨v, a, 0⟩) → instr ⟨t1 :: t2 :: t3 :: (u ++ r), a, 0⟩ = ({ y with dst := d }, ⟨v, a, 0⟩) := fun t1 t2 t3 u v y h1 h2 h3 h4 h5 => by
    unfold instr
    rw [word_no (by rw [h1]; decide), if_neg (by decide), if_neg (by decide), if_neg (by decide), reg_ok h1 (by omega)]
    simp only
    rw [sign_ok h3 h4, h5, h2]
    rfl
  have rword : ∀ (t3 : Tok) (v : List Tok), t3.kind = 1 → is 5 [] ⟨t3 :: v, a, 0⟩ = false ∧ is 2 [] ⟨t3 :: v, a, 0⟩ = false ∧ word ⟨t3 :: v, a, 0⟩ = t3.text := fun t3 v hk => ⟨is_no (by rw [hk]; decide), is_no (by rw [hk]; decide), word_ok hk⟩
  rcases (show k = 0 ∨ k = 1 ∨ k = 2 ∨ k = 3 ∨ k = 4 ∨ k = 5 ∨ k = 6 ∨ k = 7 ∨ k = 8 by omega) with rfl | rfl | rfl | rfl | rfl | rfl | rfl | rfl | rfl
  · simp [rdI] at hl hon
    obtain ⟨rfl, rfl, rfl, rfl⟩ := hon
    obtain ⟨t1, t2, t3, u, rfl, h1, h2, h3, h4, s3, hm⟩ := sets (rNum n) [] hl (by simp [rNum])
    have k3 : t3.kind = 5 := s3.1
    have n3 : t3.n = n := s3.2.2
    refine ⟨t1, _, u, rfl, by rw [h1]; decide, last_no (by rw [h1]; decide), hm, ?_⟩
    refine head t1 t2 t3 u _ ⟨0, 0, 0, 0, 0, n, 0⟩ h1 h2 h3 h4 ?_
    unfold right
    rw [is_ok k3 (.inl rfl)]
    simp [PS.hd, adv, n3]
  · simp [rdI] at hl hon
    obtain ⟨rfl, rfl, rfl, rfl⟩ := hon
    obtain ⟨t1, t2, t3, u, rfl, h1, h2, h3, h4, s3, hm⟩ := sets (rReg xa) [] hl (by simp [rReg])
    have k3 : t3.kind = 2 := s3.1
    have n3 : t3.n = xa := s3.2.2
    refine ⟨t1, _, u, rfl, by rw [h1]; decide, last_no (by rw [h1]; decide), hm, ?_⟩
    refine head t1 t2 t3 u _ ⟨1, 0, 0, xa, 0, 0, 0⟩ h1 h2 h3 h4 ?_
    unfold right
    rw [is_no (by rw [k3]; decide), is_ok k3 (.inl rfl), reg_ok k3 (by omega), n3]
    rfl
  · simp [rdI] at hl hon
    obtain ⟨rfl, rfl⟩ := hon
    obtain ⟨t1, t2, t3, u, rfl, h1, h2, h3, h4, s3, hm⟩ := sets (rWord (opWord o)) [rReg xa, rSign 44, rReg xb] hl (by simp [rWord])
    have k3 : t3.kind = 1 := s3.1
    have x3 : t3.text = opWord o := s3.2.1
    obtain ⟨t4, u4, rfl, s4, hm⟩ := lay_ne hm (by simp [rReg])
    obtain ⟨t5, u5, rfl, s5, hm⟩ := lay_ne hm (by simp [rSign])
    obtain ⟨t6, u6, rfl, s6, hm⟩ := lay_ne hm (by simp [rReg])
    have k4 : t4.kind = 2 := s4.1
    have n4 : t4.n = xa := s4.2.2
    have k6 : t6.kind = 2 := s6.1
    have n6 : t6.n = xb := s6.2.2
    refine ⟨t1, _, u6, rfl, by rw [h1]; decide, last_no (by rw [h1]; decide), hm, ?_⟩
    refine head t1 t2 t3 (t4 :: t5 :: t6 :: u6) _ ⟨2, o, 0, xa, xb, 0, 0⟩ h1 h2 h3 h4 ?_
    obtain ⟨w1, w2, w3⟩ := rword t3 (t4 :: t5 :: t6 :: (u6 ++ r)) k3
    obtain ⟨f1, f2, f3, f4⟩ := opWord_ok ho
    unfold right
    simp only [List.cons_append]
    rw [w1, w2, w3, x3, f1]
    simp only [Bool.false_eq_true, if_false, adv_ok]
    rw [reg_ok k4 (by omega)]
    simp only
    rw [sign_ok s5.1 s5.2.1, reg_ok k6 (by omega), n4, n6]
    have : ((o.toNat : Nat) : Int) = o := by omega
    rw [this]
  · simp [rdI] at hl hon
    obtain ⟨rfl, rfl, rfl, rfl, rfl⟩ := hon
    obtain ⟨t1, t2, t3, u, rfl, h1, h2, h3, h4, s3, hm⟩ := sets (rWord wIn) [] hl (by simp [rWord])
    have k3 : t3.kind = 1 := s3.1
    have x3 : t3.text = wIn := s3.2.1
    refine ⟨t1, _, u, rfl, by rw [h1]; decide, last_no (by rw [h1]; decide), hm, ?_⟩
    refine head t1 t2 t3 u _ ⟨3, 0, 0, 0, 0, 0, 0⟩ h1 h2 h3 h4 ?_
    obtain ⟨w1, w2, w3⟩ := rword t3 (u ++ r) k3
    have f1 : findOp wIn = none := by decide
    unfold right
    rw [w1, w2, w3, x3, f1]
    simp only [Bool.false_eq_true, if_false, if_true]
    rfl
  · simp [rdI] at hl hon
    obtain ⟨rfl, rfl, rfl, rfl, rfl⟩ := hon
    obtain ⟨t1, u1, rfl, s1, hm⟩ := lay_ne hl (by simp [rWord])
    obtain ⟨t2, u2, rfl, s2, hm⟩ := lay_ne hm (by simp [rReg])
    have k1 : t1.kind = 1 := s1.1
    have x1 : t1.text = wOut := s1.2.1
    have k2 : t2.kind = 2 := s2.1
    have n2 : t2.n = xa := s2.2.2
    refine ⟨t1, _, u2, rfl, by rw [k1]; decide, last_none (fun _ => by rw [x1]; decide), hm, ?_⟩
    unfold instr
    simp only [List.cons_append]
    rw [word_ok k1, x1, if_pos rfl, adv_ok, reg_ok k2 (by omega), n2]
  · simp [rdI] at hl hon
    obtain ⟨rfl, rfl, rfl, rfl⟩ := hon
    obtain ⟨t1, t2, t3, u, rfl, h1, h2, h3, h4, s3, hm⟩ := sets (rWord wLoad) [rSlot sl] hl (by simp [rWord])
    have k3 : t3.kind = 1 := s3.1
    have x3 : t3.text = wLoad := s3.2.1
    obtain ⟨t4, u4, rfl, s4, hm⟩ := lay_ne hm (by simp [rSlot])
    have k4 : t4.kind = 4 := s4.1
    have n4 : t4.n = sl := s4.2.2
    refine ⟨t1, _, u4, rfl, by rw [h1]; decide, last_no (by rw [h1]; decide), hm, ?_⟩
    refine head t1 t2 t3 (t4 :: u4) _ ⟨5, 0, 0, 0, 0, 0, sl⟩ h1 h2 h3 h4 ?_
    obtain ⟨w1, w2, w3⟩ := rword t3 (t4 :: (u4 ++ r)) k3
    have f1 : findOp wLoad = none := by decide
    unfold right
    simp only [List.cons_append]
    rw [w1, w2, w3, x3, f1]
    simp only [Bool.false_eq_true, if_false, adv_ok]
    rw [if_neg (by decide), if_pos trivial, slot_ok k4 (by omega), n4]
  · simp [rdI] at hl hon
    obtain ⟨rfl, rfl, rfl, rfl⟩ := hon
    obtain ⟨t1, u1, rfl, s1, hm⟩ := lay_ne hl (by simp [rWord])
    obtain ⟨t2, u2, rfl, s2, hm⟩ := lay_ne hm (by simp [rSlot])
    obtain ⟨t3, u3, rfl, s3, hm⟩ := lay_ne hm (by simp [rSign])
    obtain ⟨t4, u4, rfl, s4, hm⟩ := lay_ne hm (by simp [rReg])
    have k1 : t1.kind = 1 := s1.1
    have x1 : t1.text = wStore := s1.2.1
    have k2 : t2.kind = 4 := s2.1
    have n2 : t2.n = sl := s2.2.2
    have k4 : t4.kind = 2 := s4.1
    have n4 : t4.n = xa := s4.2.2
    refine ⟨t1, _, u4, rfl, by rw [k1]; decide, last_none (fun _ => by rw [x1]; decide), hm, ?_⟩
    unfold instr
    simp only [List.cons_append]
    rw [word_ok k1, x1, if_neg (by decide), if_pos rfl, adv_ok, slot_ok k2 (by omega)]
    simp only
    rw [sign_ok s3.1 s3.2.1, reg_ok k4 (by omega), n2, n4]
  · simp [rdI] at hl hon
    obtain ⟨rfl, rfl, rfl, rfl⟩ := hon
    obtain ⟨t1, t2, t3, u, rfl, h1, h2, h3, h4, s3, hm⟩ := sets (rWord wGet) [rReg xa] hl (by simp [rWord])
    have k3 : t3.kind = 1 := s3.1
    have x3 : t3.text = wGet := s3.2.1
    obtain ⟨t4, u4, rfl, s4, hm⟩ := lay_ne hm (by simp [rReg])
    have k4 : t4.kind = 2 := s4.1
    have n4 : t4.n = xa := s4.2.2
    refine ⟨t1, _, u4, rfl, by rw [h1]; decide, last_no (by rw [h1]; decide), hm, ?_⟩
    refine head t1 t2 t3 (t4 :: u4) _ ⟨7, 0, 0, xa, 0, 0, 0⟩ h1 h2 h3 h4 ?_
    obtain ⟨w1, w2, w3⟩ := rword t3 (t4 :: (u4 ++ r)) k3
    have f1 : findOp wGet = none := by decide
    unfold right
    simp only [List.cons_append]
    rw [w1, w2, w3, x3, f1]
    simp only [Bool.false_eq_true, if_false, adv_ok]
    rw [if_neg (by decide), if_neg (by decide), if_pos trivial, reg_ok k4 (by omega), n4]
  · simp [rdI] at hl hon
    obtain ⟨rfl, rfl, rfl, rfl⟩ := hon
    obtain ⟨t1, u1, rfl, s1, hm⟩ := lay_ne hl (by simp [rWord])
    obtain ⟨t2, u2, rfl, s2, hm⟩ := lay_ne hm (by simp [rReg])
    obtain ⟨t3, u3, rfl, s3, hm⟩ := lay_ne hm (by simp [rSign])
    obtain ⟨t4, u4, rfl, s4, hm⟩ := lay_ne hm (by simp [rReg])
    have k1 : t1.kind = 1 := s1.1
    have x1 : t1.text = wPut := s1.2.1
    have k2 : t2.kind = 2 := s2.1
    have n2 : t2.n = xa := s2.2.2
    have k4 : t4.kind = 2 := s4.1
    have n4 : t4.n = xb := s4.2.2
    refine ⟨t1, _, u4, rfl, by rw [k1]; decide, last_none (fun _ => by rw [x1]; decide), hm, ?_⟩
    unfold instr
    simp only [List.cons_append]
    rw [word_ok k1, x1, if_neg (by decide), if_neg (by decide), if_pos rfl, adv_ok, reg_ok k2 (by omega)]
    simp only
    rw [sign_ok s3.1 s3.2.1, reg_ok k4 (by omega), n2, n4]
/-- An end is read. -/
theorem last_lay {e : Last} (h : e.Good) {l : List Rd} {ts : List Tok} (hl : Lay (rdL e ++ l) ts) (r : List Tok) (a : Nat) :
    ∃ t u ts', ts = t :: u ∧ t.kind ≠ 7 ∧ Lay l ts' ∧ last ⟨ts ++ r, a, 0⟩ = ((e, true), ⟨ts' ++ r, a, 0⟩) := by
  have hon := h.only
  have ha := h.a; have hy := h.yes; have hn := h.no; have hk := h.kind
  obtain ⟨k, xa, y, n⟩ := e
  simp only at ha hy hn hk
  simp only [Last.only, Last.mk.injEq] at hon
  rcases (show k = 0 ∨ k = 1 ∨ k = 2 ∨ k = 3 by omega) with rfl | rfl | rfl | rfl
  · simp [rdL] at hl hon
    obtain ⟨rfl, rfl⟩ := hon
    obtain ⟨t1, u1, rfl, s1, hm⟩ := lay_ne hl (by simp [rWord])
    obtain ⟨t2, u2, rfl, s2, hm⟩ := lay_ne hm (by simp [rLab])
    have k1 : t1.kind = 1 := s1.1
    have x1 : t1.text = wJump := s1.2.1
    have k2 : t2.kind = 3 := s2.1
    have n2 : t2.n = y := s2.2.2
    refine ⟨t1, _, u2, rfl, by rw [k1]; decide, hm, ?_⟩
    unfold last
    simp only [List.cons_append]
    rw [word_ok k1, x1, if_pos rfl, adv_ok, label_ok k2 (by omega), n2]
  · simp [rdL] at hl hon
    obtain ⟨t1, u1, rfl, s1, hm⟩ := lay_ne hl (by simp [rWord])
    obtain ⟨t2, u2, rfl, s2, hm⟩ := lay_ne hm (by simp [rReg])
    obtain ⟨t3, u3, rfl, s3, hm⟩ := lay_ne hm (by simp [rSign])
    obtain ⟨t4, u4, rfl, s4, hm⟩ := lay_ne hm (by simp [rLab])
    obtain ⟨t5, u5, rfl, s5, hm⟩ := lay_ne hm (by simp [rSign])
    obtain ⟨t6, u6, rfl, s6, hm⟩ := lay_ne hm (by simp [rLab])
    have k1 : t1.kind = 1 := s1.1
    have x1 : t1.text = wBr := s1.2.1
    have k2 : t2.kind = 2 := s2.1
    have n2 : t2.n = xa := s2.2.2
    have k4 : t4.kind = 3 := s4.1
    have n4 : t4.n = y := s4.2.2
    have k6 : t6.kind = 3 := s6.1
    have n6 : t6.n = n := s6.2.2
    refine ⟨t1, _, u6, rfl, by rw [k1]; decide, hm, ?_⟩
    unfold last
    simp only [List.cons_append]
    rw [word_ok k1, x1, if_neg (by decide), if_pos rfl, adv_ok, reg_ok k2 (by omega)]
    simp only
    rw [sign_ok s3.1 s3.2.1, label_ok k4 (by omega)]
    simp only
    rw [sign_ok s5.1 s5.2.1, label_ok k6 (by omega), n2, n4, n6]
  · simp [rdL] at hl hon
    obtain ⟨rfl, rfl⟩ := hon
    obtain ⟨t1, u1, rfl, s1, hm⟩ := lay_ne hl (by simp [rWord])
    obtain ⟨t2, u2, rfl, s2, hm⟩ := lay_ne hm (by simp [rReg])
    have k1 : t1.kind = 1 := s1.1
    have x1 : t1.text = wRet := s1.2.1
    have k2 : t2.kind = 2 := s2.1
    have n2 : t2.n = xa := s2.2.2
    refine ⟨t1, _, u2, rfl, by rw [k1]; decide, hm, ?_⟩
    unfold last
    simp only [List.cons_append]
    rw [word_ok k1, x1, if_neg (by decide), if_neg (by decide), if_pos rfl, adv_ok, reg_ok k2 (by omega), n2]
  · simp [rdL] at hl hon
    obtain ⟨rfl, rfl, rfl⟩ := hon
    obtain ⟨t1, u1, rfl, s1, hm⟩ := lay_ne hl (by simp [rWord])
    refine ⟨t1, _, u1, rfl, by rw [s1.1]; decide, hm, ?_⟩
    exact last_trap s1.1 s1.2.1
end PS
end Go.Proofs.YtdjfndijbnpkpaaDoor.Sh

