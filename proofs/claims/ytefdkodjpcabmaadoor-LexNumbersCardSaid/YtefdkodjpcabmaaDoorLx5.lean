/-
  The laws' own functions of chapter 4: number, word, Token, Awake.
-/
import Derived.Test.YtefdkodjpcabmaaDoorLx4
import Derived.Test.YtefdkodjpcabmaaDoorLxR
set_option linter.unusedVariables false
set_option linter.unusedSimpArgs false
set_option linter.unusedSectionVars false
set_option maxRecDepth 100000
namespace Go.AM
theorem sQuo (k : IntKind) (x y : Int) (st : St) (h : y ≠ 0) : sBin .quo (.int k x) (.int k y) st = .ok (.int k (k.wrap (x.tdiv y)), st) := by simp [sBin, abin, aint, h]
theorem sConv_byte {b : Nat} {x : Int} {st : St} (h : st.get b = some (.cells [U x])) : sConv .strOfBytes (.slice (some ⟨b, 0, none⟩) 1 1) st = .ok (T [UInt8.ofNat x.toNat], st) := by
 have hf : firstL st 1 1 (.slice (some ⟨b, 0, none⟩) 1 1) = .ok [U x] := by simp [firstL, St.loadN, St.cells, h, Res.need]
 simp only [sConv, aconv, hf, Res.bind_ok, List.length_singleton, bytesL, Res.pure_eq, beq_self_eq_true, decide_true, Bool.true_or, Res.need_true]
 rfl
theorem u8_of {n : Nat} (h : n < 256) : IntKind.u8.wrap (n : Int) = n := Go.IntWalk.u8_in _ (by omega)
end Go.AM
namespace Go.Proofs.YtefdkodjpcabmaaDoor.Sh
open Go Go.AM Go.Proofs Go.AM.Lx
variable {K : Ctx} (hF : Fix pgF K)
include hF
theorem lnumber_ok : ∀ (n : Nat), n < 18446744073709551616 → ∀ st : St, st.ro ≤ st.next → Ok (K.go (.call n_refinerylaw04_number [.int .u64 n]) st) fun r => r.1 = T (Lib.decDigits n) ∧ Ext st r.2 := by
 intro n
 induction n using Nat.strongRecOn with
 | _ n ih =>
   intro hn st hro
   refine refinerylaw04_number_of hF fun J hJ => ?_
   rw [refinerylaw04_number_eq]
   by_cases h : n < 10
   ·have h' : ((n : Nat) : Int) < 10 := by omega
    have w1 : IntKind.u64.wrap (48 + (n : Int)) = ((48 + n : Nat) : Int) := by rw [Go.IntWalk.u64_in _ (by omega)]; omega
    have w2 : IntKind.u8.wrap ((48 + n : Nat) : Int) = ((48 + n : Nat) : Int) := u8_of (by omega)
    have hl : sLit 1 1 [U 0] [(0, 1, U ((48 + n : Nat) : Int))] st = .ok (.slice (some ⟨st.next, 0, none⟩) 1 1, st.alloc (.cells [U ((48 + n : Nat) : Int)])) := rfl
    have hc := sConv_byte (b := st.next) (x := ((48 + n : Nat) : Int)) (st := st.alloc (.cells [U ((48 + n : Nat) : Int)])) (by rw [get_alloc, if_pos rfl])
    simp only [sLss, decide_eq_true h', thn_ok, condX_eq, cond_true, sAdd, w1, sConv_int, w2, hl, hc]
    rw [Lib.decDigits, dif_pos h]
    exact ⟨_, rfl, rfl, (Ext.refl st).alloc _⟩
   ·have h' : ¬ ((n : Nat) : Int) < 10 := by omega
    have w0 : IntKind.u64.wrap ((n : Int).tdiv 10) = ((n / 10 : Nat) : Int) := by rw [Go.IntWalk.u64_quo _ _ (by omega)]; omega
    have w1 : IntKind.u64.wrap (48 + (n : Int).tmod 10) = ((48 + n % 10 : Nat) : Int) := by
     rw [Int.tmod_eq_emod_of_nonneg (by omega), Go.IntWalk.u64_in _ (by omega)]; omega
    have w2 : IntKind.u8.wrap ((48 + n % 10 : Nat) : Int) = ((48 + n % 10 : Nat) : Int) := u8_of (by omega)
    simp only [sLss, decide_eq_false h', thn_ok, condX_eq, cond_false, refinerylaw04_number_j0_eq hJ, sQuo _ _ _ _ (show (10 : Int) ≠ 0 by decide), w0]
    refine (ih (n / 10) (by omega) (by omega) st hro).call fun s1 E1 => ?_
    have hl : sLit 1 1 [U 0] [(0, 1, U ((48 + n % 10 : Nat) : Int))] s1 = .ok (.slice (some ⟨s1.next, 0, none⟩) 1 1, s1.alloc (.cells [U ((48 + n % 10 : Nat) : Int)])) := rfl
    have hc := sConv_byte (b := s1.next) (x := ((48 + n % 10 : Nat) : Int)) (st := s1.alloc (.cells [U ((48 + n % 10 : Nat) : Int)])) (by rw [get_alloc, if_pos rfl])
    have hs : ∀ (l : List St) (f : St → Res (Value × St)) (v : Value), sStays l s1.next (.slice (some ⟨s1.next, 0, none⟩) 1 1) f v = true := fun l f v => by
     unfold sStays
     simp [idOf]
    have hd := dec_len (u := n / 10) (by omega)
    have ha := sAdd_T (Lib.decDigits (n / 10)) [UInt8.ofNat (((48 + n % 10 : Nat) : Int)).toNat] (s1.alloc (.cells [U ((48 + n % 10 : Nat) : Int)])) (by simp; omega)
    simp only [sRem _ _ _ (show (10 : Int) ≠ 0 by decide), thn_ok, sAdd, w1, sConv_int, w2, hl, hc, hs, Res.need_true, Res.bind_ok, ha]
    refine ⟨_, rfl, ?_, E1.alloc _⟩
    rw [Lib.decDigits.eq_1 n, dif_neg h]
    rfl
end Go.Proofs.YtefdkodjpcabmaaDoor.Sh
