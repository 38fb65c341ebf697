/-
  Texts that are read as one token, if a blank comes behind them.
-/
import Derived.Test.YtlpdlohikfkjnaaDoorLx0
set_option linter.unusedVariables false
set_option linter.unusedSimpArgs false
set_option linter.unusedSectionVars false
namespace Go.AM.Lx
open Go.Lib
structure Reads (x : List UInt8) (t : Tok) : Prop where
 ne : x ≠ []
 len : x.length ≤ 21
 ok : ∀ rest a, evs (x ++ 32 :: rest) a = (⟨t.kind, a, t.text, t.n⟩, 0) :: evs (32 :: rest) (a + x.length)
theorem isDig_32 : isDig 32 = false := by decide
theorem isLet_32 : isLet 32 = false := by decide
theorem evs_step {x : List UInt8} {c : UInt8} {r : List UInt8} (hx : x = c :: r) (h1 : ¬ c.toNat = 32) (h2 : ¬ c.toNat = 35) {t : Tok} (rest : List UInt8) (a : Nat) (h : next (x ++ 32 :: rest) a = (t, x.length)) : evs (x ++ 32 :: rest) a = (t, 0) :: evs (32 :: rest) (a + x.length) := by
 subst hx
 rw [List.cons_append] at h ⊢
 rw [evs_tok h1 h2 (by rw [h]; simp), h]
 simp
theorem Reads.word {w : List UInt8} (h0 : w ≠ []) (h1 : ∀ c ∈ w, isLet c = true) (h2 : w.length ≤ 21) : Reads w ⟨1, 0, w, 0⟩ where
 ne := h0
 len := h2
 ok := fun rest a => by
  obtain ⟨c, r, rfl⟩ : ∃ c r, w = c :: r := by
   cases w with
   | nil => exact absurd rfl h0
   | cons c r => exact ⟨c, r, rfl⟩
  have hc := h1 c (List.mem_cons_self ..)
  simp only [isLet, Bool.and_eq_true, decide_eq_true_eq] at hc
  refine evs_step rfl (by omega) (by omega) rest a ?_
  have hl : lets ((c :: r) ++ 32 :: rest) = (c :: r).length := by rw [lets_append h1, lets_stop _ isLet_32]; rfl
  unfold next
  rw [List.cons_append] at hl ⊢
  simp only
  rw [if_neg (by unfold isLine; omega), if_neg (by unfold isSign; omega), if_neg (by unfold isMark; omega), if_pos (by rw [hl]; simp), hl]
  congr 2
  rw [← List.cons_append, List.take_left']
  rfl
theorem digs_dec (u : Nat) (rest : List UInt8) : digs (decDigits u ++ 32 :: rest) = (decDigits u).length := by
 rw [digs_append (decDigits_dig u), digs_stop _ isDig_32]
 rfl
theorem digs_dec0 (u : Nat) : digs (decDigits u) = (decDigits u).length := by
 have := digs_append (b := []) (decDigits_dig u)
 simpa [digs] using this
theorem dec_cons (u : Nat) : ∃ c r, decDigits u = c :: r ∧ isDig c = true := by
 cases e : decDigits u with
 | nil => exact absurd e (decDigits_ne u)
 | cons c r => exact ⟨c, r, rfl, decDigits_dig u c (by rw [e]; simp)⟩
theorem dec_len {u : Nat} (h : u < 18446744073709551616) : (decDigits u).length ≤ 20 := by
 rw [decDigits_length]
 rcases Nat.lt_or_ge (nDigits u) 21 with h1 | h1
 ·omega
 ·exfalso
  have key : ∀ (k u : Nat), k + 1 ≤ nDigits u → 1 ≤ k → 10 ^ k ≤ u := by
   intro k
   induction k with
   | zero => intro u _ h; omega
   | succ k ih =>
     intro u hu _
     by_cases hs : u < 10
     ·rw [nDigits_small hs] at hu; omega
     ·rw [nDigits_big hs] at hu
      rcases Nat.eq_zero_or_pos k with rfl | hk
      ·simp; omega
      ·have := ih (u / 10) (by omega) hk
       rw [Nat.pow_succ]
       omega
  have := key 20 u h1 (by omega)
  omega
theorem number_dec {u : Nat} (h : u ≤ 9223372036854775807) : number (decDigits u) = ((u : Int), (decDigits u).length) := by
 obtain ⟨c, r, e, hc⟩ := dec_cons u
 have hr := isDig_range hc
 have hn : numLen (decDigits u) = (decDigits u).length := by
  rw [← digs_dec0, e]
  unfold numLen
  simp only
  rw [if_neg (by omega)]
 have hi : itoa (u : Int) = decDigits u := by unfold itoa; rw [if_neg (by omega)]; rfl
 unfold number
 rw [hn, List.take_length, ← hi, numOf_itoa (by omega) (by omega), hi]
theorem number_itoa {v : Int} (h0 : -9223372036854775808 ≤ v) (h1 : v ≤ 9223372036854775807) (rest : List UInt8) : number (itoa v ++ 32 :: rest) = (v, (itoa v).length) := by
 have hn : numLen (itoa v ++ 32 :: rest) = (itoa v).length := by
  unfold itoa
  by_cases h : v < 0
  ·rw [if_pos h]
   unfold numLen
   rw [List.cons_append]
   simp only
   rw [if_pos (by decide), digs_dec, List.length_cons]
   omega
  ·rw [if_neg h]
   obtain ⟨c, r, e, hc⟩ := dec_cons v.toNat
   have hr := isDig_range hc
   have := digs_dec v.toNat rest
   rw [e, List.cons_append] at this ⊢
   unfold numLen
   simp only
   rw [if_neg (by omega)]
   exact this
 unfold number
 rw [hn, List.take_left' rfl, numOf_itoa h0 h1]
theorem Reads.mark {m : UInt8} (hm : isMark m) {u : Nat} (h : u ≤ 9223372036854775807) : Reads (m :: decDigits u) ⟨regKind m, 0, [], u⟩ where
 ne := by simp
 len := by have := dec_len (u := u) (by omega); simp only [List.length_cons]; omega
 ok := fun rest a => by
  unfold isMark at hm
  refine evs_step rfl (by omega) (by omega) rest a ?_
  unfold next
  rw [List.cons_append]
  simp only
  have hd := digs_dec u rest
  have hne : ¬ (decDigits u).length = 0 := by
   have := decDigits_ne u
   simpa using this
  rw [if_neg (by unfold isLine; omega), if_neg (by unfold isSign; omega), if_pos (by unfold isMark; exact hm), hd, List.take_left' rfl, number_dec h]
  simp only
  rw [if_neg hne]
  rfl
theorem Reads.num {v : Int} (h0 : -9223372036854775808 ≤ v) (h1 : v ≤ 9223372036854775807) : Reads (itoa v) ⟨5, 0, [], v⟩ := by
 obtain ⟨c, r, e, hc⟩ : ∃ c r, itoa v = c :: r ∧ (c.toNat = 45 ∨ isDig c = true) := by
  unfold itoa
  by_cases h : v < 0
  ·rw [if_pos h]; exact ⟨_, _, rfl, .inl rfl⟩
  ·rw [if_neg h]
   obtain ⟨c, r, e, hc⟩ := dec_cons v.toNat
   exact ⟨c, r, e, .inr hc⟩
 have hcr : 45 ≤ c.toNat ∧ c.toNat ≤ 57 := by
  rcases hc with h | h
  ·omega
  ·have := isDig_range h; omega
 have hcr2 : c.toNat = 45 ∨ 48 ≤ c.toNat := by
  rcases hc with h | h
  ·exact .inl h
  ·exact .inr (isDig_range h).1
 refine ⟨by rw [e]; simp, ?_, fun rest a => ?_⟩
 ·unfold itoa
  by_cases h : v < 0
  ·rw [if_pos h]
   have := dec_len (u := v.natAbs) (by omega)
   simp only [List.length_cons]; omega
  ·rw [if_neg h]
   have := dec_len (u := v.toNat) (by omega)
   omega
 ·refine evs_step e (by omega) (by omega) rest a ?_
  have hn := number_itoa h0 h1 rest
  have hl : lets (c :: (r ++ 32 :: rest)) = 0 := lets_stop _ (by simp [isLet]; omega)
  have hlen := congrArg List.length e
  rw [e, List.cons_append] at hn ⊢
  unfold next
  simp only
  rw [if_neg (by unfold isLine; omega), if_neg (by unfold isSign; omega), if_neg (by unfold isMark; omega), hl, if_neg (by omega), hn]
theorem Reads.line : Reads [10] ⟨7, 0, [], 0⟩ where
 ne := by simp
 len := by simp
 ok := fun rest a => by
  refine evs_step rfl (by decide) (by decide) rest a ?_
  unfold next
  simp [show isLine 10 from rfl]
theorem Reads.sign {c : UInt8} (h : isSign c) : Reads [c] ⟨6, 0, [c], 0⟩ where
 ne := by simp
 len := by simp
 ok := fun rest a => by
  unfold isSign at h
  refine evs_step rfl (by omega) (by omega) rest a ?_
  unfold next
  simp only [List.cons_append]
  rw [if_neg (by unfold isLine; omega), if_pos (by unfold isSign; exact h)]
  rfl
end Go.AM.Lx
