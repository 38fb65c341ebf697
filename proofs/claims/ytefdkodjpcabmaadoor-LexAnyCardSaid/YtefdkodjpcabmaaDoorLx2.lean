/-
  The lexer's functions: next.
-/
import Derived.Test.YtefdkodjpcabmaaDoorLx1
set_option linter.unusedVariables false
set_option linter.unusedSimpArgs false
set_option linter.unusedSectionVars false
set_option maxRecDepth 100000
namespace Go.Proofs.YtefdkodjpcabmaaDoor.Sh
open Go Go.AM Go.Proofs Go.AM.Lx
def cTok (t : Tok) : List Value := [U t.kind, I t.at_, T t.text, I t.n]
def vTok (t : Tok) : Value := .agg (cTok t).toArray
theorem sUpd_tok (a b c d : Value) (t : Tok) (s : St) : sUpd 4 0 (.agg #[a, b, c, d]) (vTok t) s = .ok (vTok t, s) := by
 simp [vTok, cTok, Res.need]
theorem sField_tok (t : Tok) (s : St) : sField (some 4) 0 (vTok t) s = .ok (vTok t, s) := rfl
section
variable (k n : Int) (a : Nat) (x : List UInt8) (s : St)
@[simp] theorem sLref_tok (t : Tok) : sLref (vTok t) s = .ok (nothing, s) := rfl
@[simp] theorem sUpd_kind (t : Tok) : sUpd 1 0 (vTok t) (U k) s = .ok (vTok ⟨k, t.at_, t.text, t.n⟩, s) := by simp [vTok, cTok, Res.need]
@[simp] theorem sUpd_text (t : Tok) : sUpd 1 2 (vTok t) (T x) s = .ok (vTok ⟨t.kind, t.at_, x, t.n⟩, s) := by simp [vTok, cTok, Res.need]
@[simp] theorem sUpd_num (t : Tok) : sUpd 1 3 (vTok t) (I n) s = .ok (vTok ⟨t.kind, t.at_, t.text, n⟩, s) := by simp [vTok, cTok, Res.need]
@[simp] theorem sField_kind (t : Tok) : sField none 0 (vTok t) s = .ok (U t.kind, s) := rfl
@[simp] theorem sField_at (t : Tok) : sField none 1 (vTok t) s = .ok (I t.at_, s) := rfl
@[simp] theorem sField_text (t : Tok) : sField none 2 (vTok t) s = .ok (T t.text, s) := rfl
@[simp] theorem sField_num (t : Tok) : sField none 3 (vTok t) s = .ok (I t.n, s) := rfl
attribute [simp] sField_tok
@[simp] theorem sUpd_tok0 (t : Tok) : sUpd 4 0 (.agg #[U 0, I 0, .string (bstr []), I 0]) (vTok t) s = .ok (vTok t, s) := sUpd_tok _ _ _ _ t s
@[simp] theorem sBuild_tok : sBuild [U 0, I 0, .string (bstr []), I 0] [(1, 1, I a)] s = .ok (vTok ⟨0, a, [], 0⟩, s) := by
  simp [sBuild, fillL, Res.need, vTok, cTok, T_bstr, splice]
@[simp] theorem isTuple_tok (t : Tok) : isTuple (vTok t) = false := rfl
@[simp] theorem sameVal_tok (t : Tok) : sameVal (vTok t) (vTok t) = true := by
  simp [sameVal, sameOne, vTok, cTok, sameCells, sameCell, T]
end
theorem kinds_look {b : Nat} {c : UInt8} (h : isMark c) {s : St} (hg : s.get b = some (.map [(U 37, U 2), (U 64, U 3), (U 36, U 4)])) : sLook (.cell .int) (U 0) false (.map (some b)) (U c.toNat) s = .ok (U (regKind c), s) := by
 have e : ∀ k ∈ [(37 : Int), 64, 36], sLook (.cell .int) (U 0) false (.map (some b)) (U k) s = .ok (U (if k = 37 then 2 else if k = 64 then 3 else 4), s) := by
  intro k hk
  simp only [List.mem_cons, List.not_mem_nil, or_false] at hk
  have hm : mapOf s (.map (some b)) = .ok [(U 37, U 2), (U 64, U 3), (U 36, U 4)] := by simp [mapOf, St.map, hg]
  unfold sLook alook
  rw [hm]
  rcases hk with rfl | rfl | rfl <;> rfl
 unfold regKind
 rcases h with h | h | h
 ·have := e 37 (by simp); rw [h]; exact this
 ·have := e 64 (by simp); rw [h]; exact this
 ·have := e 36 (by simp); rw [h]; exact this
theorem mapSet_new {b : Nat} {k v : Int} {es : List (Value × Value)} {s : St} (hg : s.get b = some (.map es)) (hro : s.ro ≤ b) (hf : findK (.cell .int) (U k) es 0 = .ok none) : sMapSet (.cell .int) (.map (some b)) (U k) (U v) s = .ok (nothing, s.put b (.map (es ++ [(U k, U v)]))) := by
 have hm : s.map b = .ok es := by simp [St.map, hg]
 unfold sMapSet amapSet
 simp only [hm, Res.bind_ok, hf, Res.pure_eq, need_dec hro]
 rfl
variable {K : Ctx} (hF : Fix pgF K)
include hF
theorem next_ok {l : List UInt8} (hs : Short l) {a : Nat} (ha : a < l.length) {st : St} (hv : VOk st) : Ok (K.go (.call n_lex_next [T l, I a]) st) fun r => r.1 = .tuple #[vTok (next (l.drop a) a).1, I (next (l.drop a) a).2] ∧ Ext st r.2 := by
 refine lex_next_of hF fun J hJ => ?_
 rw [lex_next_eq]
 obtain ⟨c, r, hcr⟩ : ∃ c r, l.drop a = c :: r := by
  cases h : l.drop a with
  | nil => rw [List.drop_eq_nil_iff] at h; omega
  | cons c r => exact ⟨c, r, rfl⟩
 have hle : (c :: r).length ≤ l.length := by rw [← hcr, List.length_drop]; omega
 have hs' : Short (c :: r) := Nat.le_trans hle hs
 have h1 : 1 ≤ (c :: r).length := by simp
 have hn : next (l.drop a) a = next (c :: r) a := by rw [hcr]
 rw [hn]
 unfold next
 simp only
 have hro := hv.ro
 have hi : ∀ n : Nat, ((c.toNat : Nat) : Int) = (n : Int) ↔ c.toNat = n := fun n => by omega
 by_cases c1 : isLine c
 ·have c1' : ((c.toNat : Nat) : Int) = 10 := (hi 10).2 c1
  rw [if_pos c1]
  simp [sSlice_drop l _ (Nat.le_of_lt ha), hcr, c1', oneOf]
 ·have c1' : ¬ ((c.toNat : Nat) : Int) = 10 := fun h => c1 ((hi 10).1 h)
  rw [if_neg c1]
  by_cases c2 : isSign c
  ·rw [if_pos c2]
   have ht : ∀ s, sSlice .str (T (c :: r)) none (some (I 1)) none s = .ok (T [c], s) := fun s => sSlice_take (c :: r) s (b := 1) h1
   by_cases d1 : ((c.toNat : Nat) : Int) = 61
   ·simp [sSlice_drop l _ (Nat.le_of_lt ha), hcr, c1', d1, oneOf, ht]
   ·by_cases d2 : ((c.toNat : Nat) : Int) = 44
    ·simp [sSlice_drop l _ (Nat.le_of_lt ha), hcr, c1', d1, d2, oneOf, ht]
    ·have d3 : ((c.toNat : Nat) : Int) = 58 := by
      rcases c2 with h | h | h
      ·exact absurd ((hi 61).2 h) d1
      ·exact absurd ((hi 44).2 h) d2
      ·exact (hi 58).2 h
     simp [sSlice_drop l _ (Nat.le_of_lt ha), hcr, c1', d1, d2, d3, oneOf, ht]
  ·have d1 : ¬ ((c.toNat : Nat) : Int) = 61 := fun h => c2 (.inl ((hi 61).1 h))
   have d2 : ¬ ((c.toNat : Nat) : Int) = 44 := fun h => c2 (.inr (.inl ((hi 44).1 h)))
   have d3 : ¬ ((c.toNat : Nat) : Int) = 58 := fun h => c2 (.inr (.inr ((hi 58).1 h)))
   rw [if_neg c2]
   generalize hs1 : st.bump.bump = s1
   have E1 : Ext st s1 := by rw [← hs1]; simp
   have n1 : s1.next = st.next + 2 := by rw [← hs1]; rfl
   by_cases c3 : isMark c
   ·rw [if_pos c3]
    generalize hk : number (r.take (digs r)) = p
    have hp : p.2 ≤ (r.take (digs r)).length := by rw [← hk]; exact number_le _
    have hdl := digs_le r
    have hr : Short r := by unfold Short at *; simp at hs'; omega
    have hrl : r.length + 1 ≤ 281474976710656 := hs'
    have hrt : Short (r.take (digs r)) := by unfold Short at *; rw [List.length_take]; omega
    have hp' : p.2 ≤ r.length := by rw [List.length_take] at hp; omega
    have E2 : Ext st (s1.alloc (.map [])) := E1.alloc _
    have hr1 : s1.ro ≤ s1.next := E1.roOk hro
    have k1 : sMapSet (.cell .int) (.map (some s1.next)) (U 37) (U 2) (s1.alloc (.map [])) = .ok (nothing, _) := mapSet_new (by rw [get_alloc, if_pos rfl]) hr1 rfl
    generalize hs2 : (s1.alloc (.map [])).put s1.next (.map ([] ++ [(U 37, U 2)])) = s2 at k1
    have g2 : s2.get s1.next = some (.map [(U 37, U 2)]) := by rw [← hs2, get_put, if_pos rfl]; rfl
    have E2 : Ext s1 s2 := by rw [← hs2]; exact (Ext.alloc (Ext.refl _) _).put (Nat.le_refl _) _
    have k2 : sMapSet (.cell .int) (.map (some s1.next)) (U 64) (U 3) s2 = .ok (nothing, _) := mapSet_new g2 (by rw [E2.ro]; exact hr1) rfl
    generalize hs3 : s2.put s1.next (.map ([(U 37, U 2)] ++ [(U 64, U 3)])) = s3 at k2
    have g3 : s3.get s1.next = some (.map [(U 37, U 2), (U 64, U 3)]) := by rw [← hs3, get_put, if_pos rfl]; rfl
    have E3 : Ext s1 s3 := by rw [← hs3]; exact E2.put (Nat.le_refl _) _
    have k3 : sMapSet (.cell .int) (.map (some s1.next)) (U 36) (U 4) s3 = .ok (nothing, _) := mapSet_new g3 (by rw [E3.ro]; exact hr1) rfl
    generalize hs4 : s3.put s1.next (.map ([(U 37, U 2), (U 64, U 3)] ++ [(U 36, U 4)])) = s4 at k3
    have g4 : s4.get s1.next = some (.map [(U 37, U 2), (U 64, U 3), (U 36, U 4)]) := by rw [← hs4, get_put, if_pos rfl]; rfl
    have E4 : Ext s1 s4 := by rw [← hs4]; exact E3.put (Nat.le_refl _) _
    have k0 : sNewMap s1 = .ok (.map (some s1.next), s1.alloc (.map [])) := rfl
    have EX := E1.trans E4
    have hl1 : ∀ s, sSlice .str (T (c :: r)) (some (I 1)) none none s = .ok (T r, s) := fun s => sSlice_drop (c :: r) s (a := 1) h1
    have hl2 : ∀ s, sSlice .str (T (c :: r)) (some (I 1)) (some (I (1 + (digs r : Int)))) none s = .ok (T (r.take (digs r)), s) := fun s => by
     have := sSlice_mid (k := .i64) (k' := .i64) (c :: r) s (a := 1) (b := digs r + 1) (by omega) (by simp; omega)
     rw [show ((digs r + 1 : Nat) : Int) = 1 + (digs r : Int) by omega] at this
     simpa using this
    have hw : IntKind.i64.wrap (1 + (digs r : Int)) = 1 + (digs r : Int) := wrap_id (by omega)
    have hlk := kinds_look c3 g4
    have ho := sSlice_drop (k := .i64) l s1 (Nat.le_of_lt ha)
    rw [hcr] at ho
    by_cases m1 : ((c.toNat : Nat) : Int) = 37
    ·rw [m1] at hlk
     simp [hs1, ho, m1, k0, k1, k2, k3, hlk, hl1, digits_eq hF hr, hw, hl2]
     refine (number_ok hF hrt (hv.mono EX)).call fun s5 E5 => ?_
     rw [hk]
     have EY := EX.trans E5
     by_cases hz : p.2 = 0
     ·simp [Res.of, hz, oneOf, EY]
     ·have hz' : ¬ ((p.2 : Nat) : Int) = 0 := by omega
      have hw2 : IntKind.i64.wrap ((p.2 : Int) + 1) = (p.2 : Int) + 1 := wrap_id (by omega)
      simp [Res.of, hz, oneOf, EY, lex_next_j0_eq hJ, hw2]
    ·by_cases m2 : ((c.toNat : Nat) : Int) = 64
     ·rw [m2] at hlk
      simp [hs1, ho, m2, k0, k1, k2, k3, hlk, hl1, digits_eq hF hr, hw, hl2]
      refine (number_ok hF hrt (hv.mono EX)).call fun s5 E5 => ?_
      rw [hk]
      have EY := EX.trans E5
      by_cases hz : p.2 = 0
      ·simp [Res.of, hz, oneOf, EY]
      ·have hz' : ¬ ((p.2 : Nat) : Int) = 0 := by omega
       have hw2 : IntKind.i64.wrap ((p.2 : Int) + 1) = (p.2 : Int) + 1 := wrap_id (by omega)
       simp [Res.of, hz, oneOf, EY, lex_next_j0_eq hJ, hw2]
     ·have m3 : ((c.toNat : Nat) : Int) = 36 := by
       rcases c3 with h | h | h
       ·exact absurd ((hi 37).2 h) m1
       ·exact absurd ((hi 64).2 h) m2
       ·exact (hi 36).2 h
      rw [m3] at hlk
      simp [hs1, ho, m3, k0, k1, k2, k3, hlk, hl1, digits_eq hF hr, hw, hl2]
      refine (number_ok hF hrt (hv.mono EX)).call fun s5 E5 => ?_
      rw [hk]
      have EY := EX.trans E5
      by_cases hz : p.2 = 0
      ·simp [Res.of, hz, oneOf, EY]
      ·have hz' : ¬ ((p.2 : Nat) : Int) = 0 := by omega
       have hw2 : IntKind.i64.wrap ((p.2 : Int) + 1) = (p.2 : Int) + 1 := wrap_id (by omega)
       simp [Res.of, hz, oneOf, EY, lex_next_j0_eq hJ, hw2]
   ·rw [if_neg c3]
    have m1 : ¬ ((c.toNat : Nat) : Int) = 37 := fun h => c3 (.inl ((hi 37).1 h))
    have m2 : ¬ ((c.toNat : Nat) : Int) = 64 := fun h => c3 (.inr (.inl ((hi 64).1 h)))
    have m3 : ¬ ((c.toNat : Nat) : Int) = 36 := fun h => c3 (.inr (.inr ((hi 36).1 h)))
    have ho := sSlice_drop (k := .i64) l s1 (Nat.le_of_lt ha)
    rw [hcr] at ho
    have hll := lets_le (c :: r)
    have hlt : ∀ s, sSlice .str (T (c :: r)) none (some (I (lets (c :: r)))) none s = .ok (T ((c :: r).take (lets (c :: r))), s) := fun s => sSlice_take (c :: r) s hll
    simp [hs1, ho, c1', d1, d2, d3, m1, m2, m3]
    refine (letters_ok hF hs' (E1.roOk hro)).call fun s2 E2 => ?_
    by_cases hz : 0 < lets (c :: r)
    ·have hz' : (0 : Int) < (lets (c :: r) : Nat) := by omega
     simp [hz]
     refine (letters_ok hF hs' (E2.roOk (E1.roOk hro))).call fun s3 E3 => ?_
     simp [hlt, hz, oneOf, (E1.trans E2).trans E3]
    ·have hz' : ¬ (0 : Int) < (lets (c :: r) : Nat) := by omega
     simp [hz, lex_next_j1_eq hJ]
     refine (number_ok hF hs' (hv.mono (E1.trans E2))).call fun s3 E3 => ?_
     simp [hz, oneOf, (E1.trans E2).trans E3, Res.of]
end Go.Proofs.YtefdkodjpcabmaaDoor.Sh
