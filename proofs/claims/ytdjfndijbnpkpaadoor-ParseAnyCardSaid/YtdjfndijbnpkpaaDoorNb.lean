/-
  Chapter 5's own functions: number, reg.
-/
import Derived.Test.YtdjfndijbnpkpaaDoorLxS
import Derived.Test.YtdjfndijbnpkpaaDoorPa6
set_option linter.unusedVariables false
set_option linter.unusedSimpArgs false
set_option linter.unusedSectionVars false
set_option maxRecDepth 100000
namespace Go.AM
theorem sQuo (k : IntKind) (x y : Int) (st : St) (h : y ≠ 0) : sBin .quo (.int k x) (.int k y) st = .ok (.int k (k.wrap (x.tdiv y)), st) := by simp [sBin, abin, aint, h]
theorem sConv_byte {b : Nat} {x : Int} {st : St} (h : st.get b = some (.cells [U x])) : sConv .strOfBytes (.slice (some ⟨b, 0, none⟩) 1 1) st = .ok (T [UInt8.ofNat x.toNat], st) := by
 have hf : firstL st 1 1 (.slice (some ⟨b, 0, none⟩) 1 1) = .ok [U x] := by simp [firstL, St.loadN, St.cells, h, Res.need]
 simp only [sConv, aconv, hf, Res.bind_ok, List.length_singleton, bytesL, Res.pure_eq, beq_self_eq_true, decide_true, Bool.true_or, Res.need_true]
 rfl
theorem u8_of {n : Nat} (h : n < 256) : IntKind.u8.wrap (n : Int) = n := Go.IntWalk.u8_in _ (by omega)
end Go.AM
namespace Go.Proofs.YtdjfndijbnpkpaaDoor.Sh
open Go Go.AM Go.Proofs Go.AM.Lx
theorem itoa_neg {n : Int} (h : n < 0) : Lib.itoa n = 45 :: Lib.decDigits n.natAbs := by unfold Lib.itoa; rw [if_pos h]
theorem itoa_pos {n : Int} (h : ¬ n < 0) : Lib.itoa n = Lib.decDigits n.toNat := by unfold Lib.itoa; rw [if_neg h]
theorem dec_small {u : Nat} (h : u < 10) : Lib.decDigits u = [UInt8.ofNat (48 + u)] := by rw [Lib.decDigits, dif_pos h]
theorem dec_big {u : Nat} (h : ¬ u < 10) : Lib.decDigits u = Lib.decDigits (u / 10) ++ [UInt8.ofNat (48 + u % 10)] := by rw [Lib.decDigits, dif_neg h]
theorem itoa_len {n : Int} (h : -9223372036854775808 ≤ n ∧ n ≤ 9223372036854775807) : (Lib.itoa n).length ≤ 21 := by
 by_cases c : n < 0
 ·rw [itoa_neg c, List.length_cons]
  have := dec_len (u := n.natAbs) (by omega)
  omega
 ·rw [itoa_pos c]
  have := dec_len (u := n.toNat) (by omega)
  omega
variable {K : Ctx} (hF : Fix pgF K)
include hF
theorem number05_ok : ∀ (m : Nat) (n : Int), n.natAbs = m → -9223372036854775808 ≤ n → n ≤ 9223372036854775807 → ∀ st : St, st.ro ≤ st.next → Ok (K.go (.call n_refinerylaw05_number [I n]) st) fun r => r.1 = T (Lib.itoa n) ∧ Ext st r.2 := by
 intro m
 induction m using Nat.strongRecOn with
 | _ m ih =>
   intro n hm h0 h1 st hro
   refine refinerylaw05_number_of hF fun J hJ => ?_
   rw [refinerylaw05_number_eq]
   have fin : ∀ (x : List UInt8) (s : St), x = Lib.itoa n → Ext st s → Ok (Res.ok (T x, s)) fun r : Value × St => r.1 = T (Lib.itoa n) ∧ Ext st r.2 := fun x s e k => ⟨_, rfl, by rw [e], k⟩
   have hl : ∀ (d : Nat) (s : St), sLit 1 1 [U 0] [(0, 1, U (d : Nat))] s = .ok (.slice (some ⟨s.next, 0, none⟩) 1 1, s.alloc (.cells [U (d : Nat)])) := fun d s => rfl
   have hc : ∀ (d : Nat) (s : St), sConv .strOfBytes (.slice (some ⟨s.next, 0, none⟩) 1 1) (s.alloc (.cells [U (d : Nat)])) = .ok (T [UInt8.ofNat d], s.alloc (.cells [U (d : Nat)])) := fun d s => by
    have := sConv_byte (b := s.next) (x := (d : Nat)) (st := s.alloc (.cells [U (d : Nat)])) (by rw [get_alloc, if_pos rfl])
    simpa using this
   have hs : ∀ (s1 : St) (l : List St) (f : St → Res (Value × St)) (v : Value), sStays l s1.next (.slice (some ⟨s1.next, 0, none⟩) 1 1) f v = true := fun s1 l f v => by
    unfold sStays
    simp [idOf]
   by_cases hneg : n < 0
   ·obtain ⟨u, rfl⟩ : ∃ u : Nat, n = -(u : Int) := ⟨n.natAbs, by omega⟩
    have hu : (-(u : Int)).natAbs = u := by omega
    rw [hu] at hm
    subst hm
    have hi : Lib.itoa (-(u : Int)) = 45 :: Lib.decDigits u := by rw [itoa_neg hneg, hu]
    by_cases hbig : -(u : Int) < -9
    ·have e0 : (-(u : Int)).tdiv 10 = -((u / 10 : Nat) : Int) := by rw [Int.neg_tdiv, Int.tdiv_eq_ediv_of_nonneg (by omega)]; omega
     have e1 : (-(u : Int)).tmod 10 = -((u % 10 : Nat) : Int) := by rw [Int.neg_tmod, Int.tmod_eq_emod_of_nonneg (by omega)]; omega
     have w0 : IntKind.i64.wrap (-((u / 10 : Nat) : Int)) = -((u / 10 : Nat) : Int) := wrap_id (by omega)
     have w1 : IntKind.i64.wrap (48 - -((u % 10 : Nat) : Int)) = ((48 + u % 10 : Nat) : Int) := by rw [wrap_id (by omega)]; omega
     have w2 : IntKind.u8.wrap ((48 + u % 10 : Nat) : Int) = ((48 + u % 10 : Nat) : Int) := u8_of (by omega)
     simp only [sLss, decide_eq_true hneg, decide_eq_true hbig, thn_ok, condX_eq, cond_true, sQuo _ _ _ _ (show (10 : Int) ≠ 0 by decide), e0, w0]
     refine (ih (u / 10) (by omega) (-((u / 10 : Nat) : Int)) (by omega) (by omega) (by omega) st hro).call fun s1 E1 => ?_
     have hi1 : Lib.itoa (-((u / 10 : Nat) : Int)) = 45 :: Lib.decDigits (u / 10) := by rw [itoa_neg (by omega)]; congr 2; omega
     have hd := dec_len (u := u / 10) (by omega)
     have ha := sAdd_T (45 :: Lib.decDigits (u / 10)) [UInt8.ofNat (48 + u % 10)] (s1.alloc (.cells [U ((48 + u % 10 : Nat) : Int)])) (by simp; omega)
     rw [hi1]
     simp only [sRem _ _ _ (show (10 : Int) ≠ 0 by decide), thn_ok, sSub, e1, w1, sConv_int, w2, hl, hc, hs, Res.need_true, Res.bind_ok, ha]
     exact fin _ _ (by rw [hi, dec_big (u := u) (by omega)]; rfl) (E1.alloc _)
    ·have w1 : IntKind.i64.wrap (48 - -(u : Int)) = ((48 + u : Nat) : Int) := by rw [wrap_id (by omega)]; omega
     have w2 : IntKind.u8.wrap ((48 + u : Nat) : Int) = ((48 + u : Nat) : Int) := u8_of (by omega)
     have ha := sAdd_T [45] [UInt8.ofNat (48 + u)] (st.alloc (.cells [U ((48 + u : Nat) : Int)])) (by simp)
     simp only [sLss, decide_eq_true hneg, decide_eq_false hbig, thn_ok, condX_eq, cond_true, cond_false, refinerylaw05_number_j0_eq hJ, sSub, w1, sConv_int, w2, hl, hc, T_bstr, ha]
     exact fin _ _ (by rw [hi, dec_small (by omega)]; rfl) ((Ext.refl st).alloc _)
   ·obtain ⟨u, rfl⟩ : ∃ u : Nat, n = (u : Int) := ⟨n.natAbs, by omega⟩
    have hm' : u = m := by omega
    subst hm'
    have hi : Lib.itoa (u : Int) = Lib.decDigits u := by rw [itoa_pos hneg]; rfl
    by_cases hsm : (u : Int) < 10
    ·have w1 : IntKind.i64.wrap (48 + (u : Int)) = ((48 + u : Nat) : Int) := by rw [wrap_id (by omega)]; omega
     have w2 : IntKind.u8.wrap ((48 + u : Nat) : Int) = ((48 + u : Nat) : Int) := u8_of (by omega)
     simp only [sLss, decide_eq_false hneg, thn_ok, condX_eq, cond_false, refinerylaw05_number_j1_eq hJ, decide_eq_true hsm, cond_true, sAdd, w1, sConv_int, w2, hl, hc]
     exact fin _ _ (by rw [hi, dec_small (by omega)]) ((Ext.refl st).alloc _)
    ·have e0 : (u : Int).tdiv 10 = ((u / 10 : Nat) : Int) := by rw [Int.tdiv_eq_ediv_of_nonneg (by omega)]; omega
     have e1 : (u : Int).tmod 10 = ((u % 10 : Nat) : Int) := by rw [Int.tmod_eq_emod_of_nonneg (by omega)]; omega
     have w0 : IntKind.i64.wrap ((u / 10 : Nat) : Int) = ((u / 10 : Nat) : Int) := wrap_id (by omega)
     have w1 : IntKind.i64.wrap (48 + ((u % 10 : Nat) : Int)) = ((48 + u % 10 : Nat) : Int) := by rw [wrap_id (by omega)]; omega
     have w2 : IntKind.u8.wrap ((48 + u % 10 : Nat) : Int) = ((48 + u % 10 : Nat) : Int) := u8_of (by omega)
     simp only [sLss, decide_eq_false hneg, thn_ok, condX_eq, cond_false, refinerylaw05_number_j1_eq hJ, decide_eq_false hsm, refinerylaw05_number_j2_eq hJ, sQuo _ _ _ _ (show (10 : Int) ≠ 0 by decide), e0, w0]
     refine (ih (u / 10) (by omega) ((u / 10 : Nat) : Int) (by omega) (by omega) (by omega) st hro).call fun s1 E1 => ?_
     have hi1 : Lib.itoa ((u / 10 : Nat) : Int) = Lib.decDigits (u / 10) := by rw [itoa_pos (by omega)]; rfl
     have hd := dec_len (u := u / 10) (by omega)
     have ha := sAdd_T (Lib.decDigits (u / 10)) [UInt8.ofNat (48 + u % 10)] (s1.alloc (.cells [U ((48 + u % 10 : Nat) : Int)])) (by simp; omega)
     rw [hi1]
     simp only [sRem _ _ _ (show (10 : Int) ≠ 0 by decide), thn_ok, sAdd, e1, w1, sConv_int, w2, hl, hc, hs, Res.need_true, Res.bind_ok, ha]
     exact fin _ _ (by rw [hi, dec_big (u := u) (by omega)]) (E1.alloc _)
theorem num05 {n : Int} (h : -9223372036854775808 ≤ n ∧ n ≤ 9223372036854775807) {st : St} (hro : st.ro ≤ st.next) : Ok (K.go (.call n_refinerylaw05_number [I n]) st) fun r => r.1 = T (Lib.itoa n) ∧ Ext st r.2 := number05_ok hF _ n rfl h.1 h.2 st hro
theorem reg05 {n : Int} (h : -9223372036854775808 ≤ n ∧ n ≤ 9223372036854775807) {st : St} (hro : st.ro ≤ st.next) : Ok (K.go (.call n_refinerylaw05_reg [I n]) st) fun r => r.1 = T (37 :: Lib.itoa n) ∧ Ext st r.2 := by
 refine refinerylaw05_reg_of hF fun J hJ => ?_
 rw [refinerylaw05_reg_eq]
 refine (num05 hF h hro).call fun s1 E1 => ?_
 have hl := itoa_len h
 have ha := sAdd_T [37] (Lib.itoa n) s1 (by simp; omega)
 simp only [T_bstr, ha, thn_ok]
 exact ⟨_, rfl, rfl, E1⟩
end Go.Proofs.YtdjfndijbnpkpaaDoor.Sh
