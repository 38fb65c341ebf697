/-
  The lexer, plainly: what digits, letters, number, next, Tokens find in a text.
-/
import Derived.Lib.ItoaNum
import Derived.Lib.ParseIntBCases
set_option linter.unusedVariables false
set_option linter.unusedSimpArgs false
set_option linter.unusedSectionVars false
namespace Go.AM.Lx
open Go.Lib
def isDig (c : UInt8) : Bool := decide (48 ≤ c.toNat) && decide (c.toNat ≤ 57)
def isLet (c : UInt8) : Bool := decide (97 ≤ c.toNat) && decide (c.toNat ≤ 122)
def digs (l : List UInt8) : Nat := (l.takeWhile isDig).length
def lets (l : List UInt8) : Nat := (l.takeWhile isLet).length
def numOf (t : List UInt8) : Option Int :=
 match parseIntB 64 t with
 | .ok v => if itoa v = t then some v else none
 | _ => none
def numLen (l : List UInt8) : Nat := match l with | [] => 0 | c :: r => if c.toNat = 45 then 1 + digs r else digs l
def number (l : List UInt8) : Int × Nat := match numOf (l.take (numLen l)) with | some v => (v, numLen l) | none => (0, 0)
structure Tok where
 kind : Int
 at_ : Nat
 text : List UInt8
 n : Int
deriving DecidableEq
def regKind (c : UInt8) : Int := if c.toNat = 37 then 2 else if c.toNat = 64 then 3 else 4
def isLine (c : UInt8) : Prop := c.toNat = 10
def isSign (c : UInt8) : Prop := c.toNat = 61 ∨ c.toNat = 44 ∨ c.toNat = 58
def isMark (c : UInt8) : Prop := c.toNat = 37 ∨ c.toNat = 64 ∨ c.toNat = 36
instance (c : UInt8) : Decidable (isLine c) := inferInstanceAs (Decidable (_ = _))
instance (c : UInt8) : Decidable (isSign c) := inferInstanceAs (Decidable (_ ∨ _))
instance (c : UInt8) : Decidable (isMark c) := inferInstanceAs (Decidable (_ ∨ _))
def next (l : List UInt8) (at_ : Nat) : Tok × Nat :=
 match l with
 | [] => (⟨0, at_, [], 0⟩, 0)
 | c :: r =>
   if isLine c then (⟨7, at_, [], 0⟩, 1)
   else if isSign c then (⟨6, at_, [c], 0⟩, 1)
   else if isMark c then
    if (number (r.take (digs r))).2 = 0 then (⟨regKind c, at_, [], 0⟩, 0) else (⟨regKind c, at_, [], (number (r.take (digs r))).1⟩, (number (r.take (digs r))).2 + 1)
   else if 0 < lets l then (⟨1, at_, l.take (lets l), 0⟩, lets l)
   else (⟨5, at_, [], (number l).1⟩, (number l).2)
abbrev Ev := Tok × Int
def endT (a : Nat) : Tok := ⟨0, a, [], 0⟩
def evs (l : List UInt8) (a : Nat) : List Ev :=
 match l with
 | [] => [(endT a, 0)]
 | c :: r =>
   if c.toNat = 32 then evs r (a + 1)
   else if c.toNat = 35 then evs (r.dropWhile fun c => decide (c.toNat ≠ 10)) (a + 1 + (r.takeWhile fun c => decide (c.toNat ≠ 10)).length)
   else if hk : (next (c :: r) a).2 = 0 then [(endT a, 4)]
   else ((next (c :: r) a).1, 0) :: evs ((c :: r).drop (next (c :: r) a).2) (a + (next (c :: r) a).2)
termination_by l.length
decreasing_by
 ·simp
 ·have : (r.dropWhile fun c => decide (c.toNat ≠ 10)).length ≤ r.length := by
   have := congrArg List.length (List.takeWhile_append_dropWhile (p := fun c : UInt8 => decide (c.toNat ≠ 10)) (l := r))
   rw [List.length_append] at this; omega
  simp only [List.length_cons]; omega
 ·rw [List.length_drop]; simp only [List.length_cons]; omega
theorem evs_nil (a : Nat) : evs [] a = [(endT a, 0)] := by rw [evs]
theorem evs_blank {c : UInt8} (r : List UInt8) (a : Nat) (h : c.toNat = 32) : evs (c :: r) a = evs r (a + 1) := by rw [evs, if_pos h]
theorem evs_tok {c : UInt8} {r : List UInt8} {a : Nat} (h1 : ¬ c.toNat = 32) (h2 : ¬ c.toNat = 35) (h : ¬ (next (c :: r) a).2 = 0) : evs (c :: r) a = ((next (c :: r) a).1, 0) :: evs ((c :: r).drop (next (c :: r) a).2) (a + (next (c :: r) a).2) := by
 rw [evs, if_neg h1, if_neg h2, dif_neg h]
def split : List Ev → List Tok × Nat × Int
 | [] => ([], 0, 0)
 | (t, e) :: l => if e = 0 then (if (split l).2.2 = 0 then (t :: (split l).1, 0, 0) else split l) else ([], t.at_, e)
theorem parseUintM_append (M : Nat) : ∀ (a b : List UInt8) (acc v : Nat), parseUintM M acc a = .ok v → parseUintM M acc (a ++ b) = parseUintM M v b := by
 intro a
 induction a with
 | nil => intro b acc v h; cases h; rfl
 | cons c a ih =>
   intro b acc v h
   simp only [List.cons_append, parseUintM] at h ⊢
   repeat' split at h
   all_goals first | (cases h; done) | (rw [if_pos (by assumption), if_neg (by assumption), if_neg (by assumption)]; exact ih b _ v h)
theorem digit_toNat {d : Nat} (h : d < 10) : (UInt8.ofNat (48 + d)).toNat = 48 + d := by
 rw [UInt8.toNat_ofNat', Nat.mod_eq_of_lt (by omega)]
theorem parseUintM_dec : ∀ (u M : Nat), u ≤ M → M ≤ 18446744073709551615 → parseUintM M 0 (decDigits u) = .ok u := by
 intro u
 induction u using Nat.strongRecOn with
 | _ u ih =>
   intro M h1 h2
   rw [decDigits]
   by_cases h : u < 10
   ·rw [dif_pos h, parseUintM, digit_toNat h, if_pos (by omega), if_neg (by omega), if_neg (by omega), parseUintM]
    congr 1
    omega
   ·rw [dif_neg h, parseUintM_append _ _ _ _ _ (ih (u / 10) (by omega) M (by omega) h2)]
    rw [parseUintM, digit_toNat (Nat.mod_lt _ (by decide)), if_pos (by omega), if_neg (by omega), if_neg (by omega), parseUintM]
    congr 1
    omega
theorem decDigits_ne (u : Nat) : decDigits u ≠ [] := by
 intro h
 have := congrArg List.length h
 rw [decDigits_length] at this
 have := nDigits_pos u
 simp at *
 omega
theorem decDigits_dig : ∀ (u : Nat), ∀ c ∈ decDigits u, isDig c = true := by
 intro u
 induction u using Nat.strongRecOn with
 | _ u ih =>
   intro c hc
   rw [decDigits] at hc
   have key : ∀ d, d < 10 → isDig (UInt8.ofNat (48 + d)) = true := fun d hd => by simp [isDig, digit_toNat hd]; omega
   by_cases h : u < 10
   ·rw [dif_pos h] at hc
    rw [List.mem_singleton.1 hc]
    exact key u h
   ·rw [dif_neg h, List.mem_append] at hc
    rcases hc with hc | hc
    ·exact ih (u / 10) (by omega) c hc
    ·rw [List.mem_singleton.1 hc]
     exact key _ (Nat.mod_lt _ (by decide))
theorem isDig_range {c : UInt8} (h : isDig c = true) : 48 ≤ c.toNat ∧ c.toNat ≤ 57 := by simpa [isDig] using h
theorem parse_itoa {v : Int} (h0 : -9223372036854775808 ≤ v) (h1 : v ≤ 9223372036854775807) : parseIntB 64 (itoa v) = .ok v := by
 unfold itoa
 by_cases h : v < 0
 ·rw [if_pos h, parseIntB_minus]
  unfold parseUintB
  rw [if_neg (decDigits_ne _), parseUintM_dec _ _ (by omega) (by decide), signedC]
  rw [if_neg (by simp; omega)]
  congr 1
  omega
 ·rw [if_neg h]
  obtain ⟨c, r, e⟩ : ∃ c r, decDigits v.toNat = c :: r := by
   cases e : decDigits v.toNat with
   | nil => exact absurd e (decDigits_ne _)
   | cons c r => exact ⟨c, r, rfl⟩
  have hc := isDig_range (decDigits_dig v.toNat c (by rw [e]; simp))
  rw [e, parseIntB_plain _ _ _ (by omega) (by omega), ← e]
  unfold parseUintB
  rw [if_neg (decDigits_ne _), parseUintM_dec _ _ (by omega) (by decide), signlessC]
  rw [if_neg (by simp; omega)]
  congr 1
  omega
theorem numOf_itoa {v : Int} (h0 : -9223372036854775808 ≤ v) (h1 : v ≤ 9223372036854775807) : numOf (itoa v) = some v := by
 unfold numOf
 rw [parse_itoa h0 h1]
 simp
theorem takeWhile_all {α : Type} {p : α → Bool} : ∀ {a : List α} (b : List α), (∀ c ∈ a, p c = true) → (a ++ b).takeWhile p = a ++ b.takeWhile p := by
 intro a
 induction a with
 | nil => intro b _; rfl
 | cons c a ih =>
   intro b h
   rw [List.cons_append, List.takeWhile_cons, if_pos (h c (List.mem_cons_self ..)), ih b fun c hc => h c (List.mem_cons_of_mem _ hc)]
   rfl
theorem digs_append {a b : List UInt8} (h : ∀ c ∈ a, isDig c = true) : digs (a ++ b) = a.length + digs b := by
 unfold digs
 rw [takeWhile_all b h, List.length_append]
theorem lets_append {a b : List UInt8} (h : ∀ c ∈ a, isLet c = true) : lets (a ++ b) = a.length + lets b := by
 unfold lets
 rw [takeWhile_all b h, List.length_append]
theorem digs_stop {c : UInt8} (r : List UInt8) (h : isDig c = false) : digs (c :: r) = 0 := by simp [digs, h]
theorem lets_stop {c : UInt8} (r : List UInt8) (h : isLet c = false) : lets (c :: r) = 0 := by simp [lets, h]
def opNames : List (List UInt8) := [[97, 100, 100], [115, 117, 98], [109, 117, 108], [100, 105, 118], [114, 101, 109], [97, 110, 100], [111, 114], [120, 111, 114], [115, 104, 108], [115, 104, 114], [101, 113], [108, 116]]
end Go.AM.Lx
