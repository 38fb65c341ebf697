/-
 The lexer's functions: digits, letters, number.
 The lexer's functions: next.
 The lexer's functions: Tokens: what it calls, one after the other.
 Ranges over functions: one round; all of it.
 The lexer's functions: Split.
 Tokens, whatever comes behind them that does not go on with them.
-/
import Derived.Test.YtlpdlohikfkjnaaDoorLxX
import Derived.Test.YtlpdlohikfkjnaaDoorAmC
import Derived.Test.YtlpdlohikfkjnaaDoorShA
import Derived.Test.YtlpdlohikfkjnaaDoorLxR
section
set_option linter.unusedVariables false
set_option linter.unusedSimpArgs false
set_option linter.unusedSectionVars false
set_option maxRecDepth 100000
namespace Go.Proofs.YtlpdlohikfkjnaaDoor.Sh
open Go Go.AM Go.Proofs Go.AM.Lx
variable {K : Ctx} (hF : Fix pgF K)
include hF
end Go.Proofs.YtlpdlohikfkjnaaDoor.Sh
end
section
set_option linter.unusedVariables false
set_option linter.unusedSimpArgs false
set_option linter.unusedSectionVars false
set_option maxRecDepth 100000
namespace Go.Proofs.YtlpdlohikfkjnaaDoor.Sh
open Go Go.AM Go.Proofs Go.AM.Lx
def cTok (t : Tok) : List Value := [U t.kind, I t.at_, T t.text, I t.n]
def vTok (t : Tok) : Value := .agg (cTok t).toArray
theorem sField_tok (t : Tok) (s : St) : sField (some 4) 0 (vTok t) s = .ok (vTok t, s) := rfl
section
variable (k n : Int) (a : Nat) (x : List UInt8) (s : St)
@[simp] theorem sLref_tok (t : Tok) : sLref (vTok t) s = .ok (nothing, s) := rfl
@[simp] theorem sField_kind (t : Tok) : sField none 0 (vTok t) s = .ok (U t.kind, s) := rfl
@[simp] theorem sField_at (t : Tok) : sField none 1 (vTok t) s = .ok (I t.at_, s) := rfl
@[simp] theorem sField_text (t : Tok) : sField none 2 (vTok t) s = .ok (T t.text, s) := rfl
@[simp] theorem sField_num (t : Tok) : sField none 3 (vTok t) s = .ok (I t.n, s) := rfl
attribute [simp] sField_tok
@[simp] theorem isTuple_tok (t : Tok) : isTuple (vTok t) = false := rfl
end
variable {K : Ctx} (hF : Fix pgF K)
include hF
end Go.Proofs.YtlpdlohikfkjnaaDoor.Sh
end
section
set_option linter.unusedVariables false
set_option linter.unusedSimpArgs false
set_option linter.unusedSectionVars false
set_option maxRecDepth 100000
namespace Go.Proofs.YtlpdlohikfkjnaaDoor.Sh
open Go Go.AM Go.Proofs Go.AM.Lx
structure Sees (K : Ctx) (f : Value) (bx : Nat) (s : List UInt8) (Pr : List Ev → St → Prop) : Prop where
 step : ∀ ev rest st, Pr (ev :: rest) st → Ok (sCall K f [vTok ev.1, I ev.2] st) fun r => ∃ b, r.1 = B b ∧ Pr (if b then rest else []) r.2
 mono : ∀ l st st', Pr l st → Ext st st' → Pr l st'
 vars : ∀ l st, Pr l st → VOk st
 text : ∀ l st, Pr l st → st.get bx = some (.cells [T s])
variable {K : Ctx} (hF : Fix pgF K)
include hF
section
variable {J : JT (Value × St)} (hJ : IsJ K (retK lex_Tokens_1_c.results) J) {f : Value} {bx : Nat} {s : List UInt8} {Pr : List Ev → St → Prop} (hS : Sees K f bx s Pr)
include hJ
include hS
end
end Go.Proofs.YtlpdlohikfkjnaaDoor.Sh
end
section
set_option linter.unusedVariables false
set_option linter.unusedSimpArgs false
set_option linter.unusedSectionVars false
namespace Go.Proofs.YtlpdlohikfkjnaaDoor.Sh
open Go Go.AM Go.Proofs
end Go.Proofs.YtlpdlohikfkjnaaDoor.Sh
end
section
set_option linter.unusedVariables false
set_option linter.unusedSimpArgs false
set_option linter.unusedSectionVars false
set_option maxRecDepth 100000
namespace Go.AM.Lx
end Go.AM.Lx
namespace Go.Proofs.YtlpdlohikfkjnaaDoor.Sh
open Go Go.AM Go.Proofs Go.AM.Lx
noncomputable def spA : ACode := posC lex_Split_c.body [1, 1, 0, 1, 0, 1, 0]
noncomputable def spB : ACode := posC lex_Split_c.body [1, 1, 0, 1, 0, 1, 1]
def spE (v2 v3 v4 v5 v9 : Value) : Env := envT [(2, v2), (3, v3), (4, v4), (5, v5), (6, nothing), (7, nothing), (9, v9)]
structure SP0 (st0 st : St) (b L bx : Nat) (s : List UInt8) : Prop where
 ext : Ext st0 st
 vars : VOk st
 kb : st0.next ≤ b
 kL : b + 5 ≤ L
 lt : L < st.next
 kbx : b + 4 ≤ bx
 lbx : bx < L
 gx : st.get bx = some (.cells [T s])
def RTok : Rep Tok := fun _ cs x is => cs = cTok x ∧ is = []
theorem RTok.framed : Framed RTok := ⟨fun h _ => h⟩
structure SPr (st0 st : St) (b L bx : Nat) (s : List UInt8) (v9 v : Value) (ts : List Tok) (ids : List Nat) : Prop extends SP0 st0 st b L bx s where
 g0 : st.get b = some (.cells [.slice none 0 0])
 g1 : st.get (b + 1) = some (.cells [I 0])
 g2 : st.get (b + 2) = some (.cells [I 0])
 g3 : st.get (b + 3) = some (.cells [v])
 gL : st.get L = some (.loop (spE (P b 0) (P (b + 1) 0) (P (b + 2) 0) (P (b + 3) 0) v9) [10, 11] spA spB .ready .normal)
 own : RepSl 4 RTok st v ts ids
 nd : ids.Nodup
 away : ∀ id ∈ ids, L < id ∧ id < st.next
structure SPd (st0 st : St) (b L bx : Nat) (s : List UInt8) (v9 : Value) (a : Nat) (e : Int) : Prop extends SP0 st0 st b L bx s where
 g0 : st.get b = some (.cells [.slice none 0 0])
 g1 : st.get (b + 1) = some (.cells [I a])
 g2 : st.get (b + 2) = some (.cells [I e])
 gL : st.get L = some (.loop (spE (P b 0) (P (b + 1) 0) (P (b + 2) 0) (P (b + 3) 0) v9) [10, 11] spA spB .done .ret)
theorem SP0.mono {st0 st st' : St} {b L bx : Nat} {s : List UInt8} (h : SP0 st0 st b L bx s) (hE : Ext st st') : SP0 st0 st' b L bx s where
 ext := h.ext.trans hE
 vars := h.vars.mono hE
 kb := h.kb
 kL := h.kL
 lt := Nat.lt_of_lt_of_le h.lt hE.next
 kbx := h.kbx
 lbx := h.lbx
 gx := by rw [hE.get _ (Nat.lt_trans h.lbx h.lt)]; exact h.gx
theorem SPr.mono {st0 st st' : St} {b L bx : Nat} {s : List UInt8} {v9 v : Value} {ts : List Tok} {ids : List Nat} (h : SPr st0 st b L bx s v9 v ts ids) (hE : Ext st st') : SPr st0 st' b L bx s v9 v ts ids := by
 have h1 := h.kL; have h2 := h.lt
 exact { h.toSP0.mono hE with
  g0 := by rw [hE.get _ (by omega)]; exact h.g0
  g1 := by rw [hE.get _ (by omega)]; exact h.g1
  g2 := by rw [hE.get _ (by omega)]; exact h.g2
  g3 := by rw [hE.get _ (by omega)]; exact h.g3
  gL := by rw [hE.get _ (by omega)]; exact h.gL
  own := h.own.frame RTok.framed fun id hid => hE.get _ (h.away id hid).2
  nd := h.nd
  away := fun id hid => ⟨(h.away id hid).1, Nat.lt_of_lt_of_le (h.away id hid).2 hE.next⟩ }
theorem SPd.mono {st0 st st' : St} {b L bx : Nat} {s : List UInt8} {v9 : Value} {a : Nat} {e : Int} (h : SPd st0 st b L bx s v9 a e) (hE : Ext st st') : SPd st0 st' b L bx s v9 a e := by
 have h1 := h.kL; have h2 := h.lt
 exact { h.toSP0.mono hE with
  g0 := by rw [hE.get _ (by omega)]; exact h.g0
  g1 := by rw [hE.get _ (by omega)]; exact h.g1
  g2 := by rw [hE.get _ (by omega)]; exact h.g2
  gL := by rw [hE.get _ (by omega)]; exact h.gL }
variable {K : Ctx} (hF : Fix pgF K)
include hF
end Go.Proofs.YtlpdlohikfkjnaaDoor.Sh
end
section
set_option linter.unusedVariables false
set_option linter.unusedSimpArgs false
set_option linter.unusedSectionVars false
namespace Go.AM.Lx
open Go.Lib
def Stop (rest : List UInt8) : Prop := ∀ c r, rest = c :: r → isDig c = false ∧ isLet c = false
theorem stop_nil : Stop [] := fun c r h => by cases h
theorem stop_cons {c : UInt8} (r : List UInt8) (h1 : isDig c = false) (h2 : isLet c = false) : Stop (c :: r) := fun d s h => by cases h; exact ⟨h1, h2⟩
theorem Stop.digs {rest : List UInt8} (h : Stop rest) : digs rest = 0 := by
 cases rest with
 | nil => rfl
 | cons c r => exact digs_stop r (h c r rfl).1
theorem Stop.lets {rest : List UInt8} (h : Stop rest) : lets rest = 0 := by
 cases rest with
 | nil => rfl
 | cons c r => exact lets_stop r (h c r rfl).2
theorem evs_go {x rest : List UInt8} {c : UInt8} {r : List UInt8} (hx : x = c :: r) (h1 : ¬ c.toNat = 32) (h2 : ¬ c.toNat = 35) {t : Tok} (a : Nat) (h : next (x ++ rest) a = (t, x.length)) : evs (x ++ rest) a = (t, 0) :: evs rest (a + x.length) := by
 subst hx
 rw [List.cons_append] at h ⊢
 rw [evs_tok h1 h2 (by rw [h]; simp), h]
 simp
theorem sWord {w rest : List UInt8} (h0 : w ≠ []) (h1 : ∀ c ∈ w, isLet c = true) (hs : Stop rest) (a : Nat) : evs (w ++ rest) a = (⟨1, a, w, 0⟩, 0) :: evs rest (a + w.length) := by
 obtain ⟨c, r, rfl⟩ : ∃ c r, w = c :: r := by
  cases w with
  | nil => exact absurd rfl h0
  | cons c r => exact ⟨c, r, rfl⟩
 have hc := h1 c (List.mem_cons_self ..)
 simp only [isLet, Bool.and_eq_true, decide_eq_true_eq] at hc
 refine evs_go rfl (by omega) (by omega) a ?_
 have hl : lets ((c :: r) ++ rest) = (c :: r).length := by rw [lets_append h1, hs.lets]; rfl
 unfold next
 rw [List.cons_append] at hl ⊢
 simp only
 rw [if_neg (by unfold isLine; omega), if_neg (by unfold isSign; omega), if_neg (by unfold isMark; omega), if_pos (by rw [hl]; simp), hl]
 congr 2
 rw [← List.cons_append, List.take_left']
 rfl
theorem sMark {m : UInt8} (hm : isMark m) {u : Nat} (h : u ≤ 9223372036854775807) {rest : List UInt8} (hs : Stop rest) (a : Nat) : evs ((m :: decDigits u) ++ rest) a = (⟨regKind m, a, [], u⟩, 0) :: evs rest (a + (m :: decDigits u).length) := by
 unfold isMark at hm
 refine evs_go rfl (by omega) (by omega) a ?_
 unfold next
 rw [List.cons_append]
 simp only
 have hd : digs (decDigits u ++ rest) = (decDigits u).length := by rw [digs_append (decDigits_dig u), hs.digs]; rfl
 have hne : ¬ (decDigits u).length = 0 := by
  have := decDigits_ne u
  simpa using this
 rw [if_neg (by unfold isLine; omega), if_neg (by unfold isSign; omega), if_pos (by unfold isMark; exact hm), hd, List.take_left' rfl, number_dec h]
 simp only
 rw [if_neg hne]
 rfl
theorem sNum {v : Int} (h0 : -9223372036854775808 ≤ v) (h1 : v ≤ 9223372036854775807) {rest : List UInt8} (hs : Stop rest) (a : Nat) : evs (itoa v ++ rest) a = (⟨5, a, [], v⟩, 0) :: evs rest (a + (itoa v).length) := by
 obtain ⟨c, r, e, hc⟩ : ∃ c r, itoa v = c :: r ∧ (c.toNat = 45 ∨ isDig c = true) := by
  unfold itoa
  by_cases h : v < 0
  ·rw [if_pos h]; exact ⟨_, _, rfl, .inl rfl⟩
  ·rw [if_neg h]
   obtain ⟨c, r, e, hc⟩ := dec_cons v.toNat
   exact ⟨c, r, e, .inr hc⟩
 have hcr : c.toNat = 45 ∨ (48 ≤ c.toNat ∧ c.toNat ≤ 57) := hc.imp id isDig_range
 have hd : ∀ u, digs (decDigits u ++ rest) = (decDigits u).length := fun u => by rw [digs_append (decDigits_dig u), hs.digs]; rfl
 have hnl : numLen (itoa v ++ rest) = (itoa v).length := by
  unfold itoa
  by_cases h : v < 0
  ·rw [if_pos h]
   unfold numLen
   rw [List.cons_append]
   simp only
   rw [if_pos (by decide), hd, List.length_cons]
   omega
  ·rw [if_neg h]
   obtain ⟨c, r, e, hc⟩ := dec_cons v.toNat
   have hr := isDig_range hc
   have := hd v.toNat
   rw [e, List.cons_append] at this ⊢
   unfold numLen
   simp only
   rw [if_neg (by omega)]
   exact this
 have hn : number (itoa v ++ rest) = (v, (itoa v).length) := by
  unfold number
  rw [hnl, List.take_left' rfl, numOf_itoa h0 h1]
 refine evs_go e (by omega) (by omega) a ?_
 have hl : lets (c :: (r ++ rest)) = 0 := lets_stop _ (by simp [isLet]; omega)
 rw [e, List.cons_append] at hn ⊢
 unfold next
 simp only
 rw [if_neg (by unfold isLine; omega), if_neg (by unfold isSign; omega), if_neg (by unfold isMark; omega), hl, if_neg (by omega), hn]
theorem sSign {c : UInt8} (h : isSign c) (rest : List UInt8) (a : Nat) : evs (c :: rest) a = (⟨6, a, [c], 0⟩, 0) :: evs rest (a + 1) := by
 unfold isSign at h
 have h2 : next (c :: rest) a = (⟨6, a, [c], 0⟩, 1) := by
  unfold next
  simp only
  rw [if_neg (by unfold isLine; omega), if_pos (by unfold isSign; exact h)]
 rw [evs_tok (by omega) (by omega) (by rw [h2]; simp), h2]
 rfl
end Go.AM.Lx
end
