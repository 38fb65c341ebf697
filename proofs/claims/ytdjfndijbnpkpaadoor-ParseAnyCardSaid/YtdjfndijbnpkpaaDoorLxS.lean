/-
  Tokens, whatever comes behind them that does not go on with them.
-/
import Derived.Test.YtdjfndijbnpkpaaDoorLxR
import Derived.Test.YtdjfndijbnpkpaaDoorLx4
set_option linter.unusedVariables false
set_option linter.unusedSimpArgs false
set_option linter.unusedSectionVars false
namespace Go.AM.Lx
open Go.Lib
def Stop (rest : List UInt8) : Prop := ∀ c r, rest = c :: r → isDig c = false ∧ isLet c = false
theorem stop_nil : Stop [] := fun c r h => by cases h
theorem stop_cons {c : UInt8} (r : List UInt8) (h1 : isDig c = false) (h2 : isLet c = false) : Stop (c :: r) := fun d s h => by cases h; exact ⟨h1, h2⟩
theorem Stop.digs {rest : List UInt8} (h : Stop rest) : digs rest = 0 := by
 cases rest with
 | nil => rfl
 | cons c r => exact digs_stop r (h c r rfl).1
theorem Stop.lets {rest : List UInt8} (h : Stop rest) : lets rest = 0 := by
 cases rest with
 | nil => rfl
 | cons c r => exact lets_stop r (h c r rfl).2
theorem evs_go {x rest : List UInt8} {c : UInt8} {r : List UInt8} (hx : x = c :: r) (h1 : ¬ c.toNat = 32) (h2 : ¬ c.toNat = 35) {t : Tok} (a : Nat) (h : next (x ++ rest) a = (t, x.length)) : evs (x ++ rest) a = (t, 0) :: evs rest (a + x.length) := by
 subst hx
 rw [List.cons_append] at h ⊢
 rw [evs_tok h1 h2 (by rw [h]; simp), h]
 simp
theorem sWord {w rest : List UInt8} (h0 : w ≠ []) (h1 : ∀ c ∈ w, isLet c = true) (hs : Stop rest) (a : Nat) : evs (w ++ rest) a = (⟨1, a, w, 0⟩, 0) :: evs rest (a + w.length) := by
 obtain ⟨c, r, rfl⟩ : ∃ c r, w = c :: r := by
  cases w with
  | nil => exact absurd rfl h0
  | cons c r => exact ⟨c, r, rfl⟩
 have hc := h1 c (List.mem_cons_self ..)
 simp only [isLet, Bool.and_eq_true, decide_eq_true_eq] at hc
 refine evs_go rfl (by omega) (by omega) a ?_
 have hl : lets ((c :: r) ++ rest) = (c :: r).length := by rw [lets_append h1, hs.lets]; rfl
 unfold next
 rw [List.cons_append] at hl ⊢
 simp only
 rw [if_neg (by unfold isLine; omega), if_neg (by unfold isSign; omega), if_neg (by unfold isMark; omega), if_pos (by rw [hl]; simp), hl]
 congr 2
 rw [← List.cons_append, List.take_left']
 rfl
theorem sMark {m : UInt8} (hm : isMark m) {u : Nat} (h : u ≤ 9223372036854775807) {rest : List UInt8} (hs : Stop rest) (a : Nat) : evs ((m :: decDigits u) ++ rest) a = (⟨regKind m, a, [], u⟩, 0) :: evs rest (a + (m :: decDigits u).length) := by
 unfold isMark at hm
 refine evs_go rfl (by omega) (by omega) a ?_
 unfold next
 rw [List.cons_append]
 simp only
 have hd : digs (decDigits u ++ rest) = (decDigits u).length := by rw [digs_append (decDigits_dig u), hs.digs]; rfl
 have hne : ¬ (decDigits u).length = 0 := by
  have := decDigits_ne u
  simpa using this
 rw [if_neg (by unfold isLine; omega), if_neg (by unfold isSign; omega), if_pos (by unfold isMark; exact hm), hd, List.take_left' rfl, number_dec h]
 simp only
 rw [if_neg hne]
 rfl
theorem evs_line (rest : List UInt8) (a : Nat) : evs (10 :: rest) a = (⟨7, a, [], 0⟩, 0) :: evs rest (a + 1) := by
 have h : next (10 :: rest) a = (⟨7, a, [], 0⟩, 1) := by
  unfold next
  simp [show isLine 10 from rfl]
 rw [evs_tok (by decide) (by decide) (by rw [h]; simp), h]
 rfl
theorem sSign {c : UInt8} (h : isSign c) (rest : List UInt8) (a : Nat) : evs (c :: rest) a = (⟨6, a, [c], 0⟩, 0) :: evs rest (a + 1) := by
 unfold isSign at h
 have h2 : next (c :: rest) a = (⟨6, a, [c], 0⟩, 1) := by
  unfold next
  simp only
  rw [if_neg (by unfold isLine; omega), if_pos (by unfold isSign; exact h)]
 rw [evs_tok (by omega) (by omega) (by rw [h2]; simp), h2]
 rfl
theorem split_toks (ts : List Tok) (l : List Ev) : split (ts.map (fun t => (t, (0 : Int))) ++ l) = ahead ts (split l) := by
 induction ts with
 | nil => rw [List.map_nil, List.nil_append]; unfold ahead; by_cases h : (split l).2.2 = 0
          ·rw [if_pos h, List.nil_append, ← split_zero l h]
          ·rw [if_neg h]
 | cons t ts ih =>
   rw [List.map_cons, List.cons_append, split_cons, if_pos rfl, ih]
   unfold ahead
   by_cases h : (split l).2.2 = 0
   ·simp [h]
   ·simp [h]
end Go.AM.Lx
