/-
  The laws' own functions of chapter 4: number, word, Token, Awake.
-/
import Derived.Test.YtefdkodjpcabmaaDoorLx4
import Derived.Test.YtefdkodjpcabmaaDoorLxR
set_option linter.unusedVariables false
set_option linter.unusedSimpArgs false
set_option linter.unusedSectionVars false
set_option maxRecDepth 100000
namespace Go.AM
theorem sQuo (k : IntKind) (x y : Int) (st : St) (h : y ≠ 0) : sBin .quo (.int k x) (.int k y) st = .ok (.int k (k.wrap (x.tdiv y)), st) := by simp [sBin, abin, aint, h]
theorem sMask {n m : Int} (hm : 0 ≤ m ∧ m ≤ 255) (st : St) : ∃ v : Int, sBin .and (I n) (I m) st = .ok (I v, st) ∧ 0 ≤ v ∧ v ≤ m := by
 refine ⟨IntKind.i64.wrap (BitVec.ofInt 64 n &&& BitVec.ofInt 64 m).toNat, rfl, ?_⟩
 have h1 : (BitVec.ofInt 64 n &&& BitVec.ofInt 64 m).toNat ≤ (BitVec.ofInt 64 m).toNat := by
  rw [BitVec.toNat_and]; exact Nat.and_le_right
 have h2 : (BitVec.ofInt 64 m).toNat = m.toNat := by
  rw [BitVec.toNat_ofInt]
  congr 1
  omega
 rw [wrap_id (by omega)]
 omega
theorem sShr {n m : Int} (hm : 0 ≤ m) (st : St) : ∃ v : Int, sBin .shr (I n) (I m) st = .ok (I v, st) := by
 have : ¬ m < 0 := by omega
 exact ⟨_, by simp [sBin, abin, ashift, this]; rfl⟩
theorem sConv_byte {b : Nat} {x : Int} {st : St} (h : st.get b = some (.cells [U x])) : sConv .strOfBytes (.slice (some ⟨b, 0, none⟩) 1 1) st = .ok (T [UInt8.ofNat x.toNat], st) := by
 have hf : firstL st 1 1 (.slice (some ⟨b, 0, none⟩) 1 1) = .ok [U x] := by simp [firstL, St.loadN, St.cells, h, Res.need]
 simp only [sConv, aconv, hf, Res.bind_ok, List.length_singleton, bytesL, Res.pure_eq, beq_self_eq_true, decide_true, Bool.true_or, Res.need_true]
 rfl
theorem u8_of {n : Nat} (h : n < 256) : IntKind.u8.wrap (n : Int) = n := Go.IntWalk.u8_in _ (by omega)
end Go.AM
namespace Go.Proofs.YtefdkodjpcabmaaDoor.Sh
open Go Go.AM Go.Proofs Go.AM.Lx
variable {K : Ctx} (hF : Fix pgF K)
include hF
theorem lnumber_ok : ∀ (n : Nat), n < 18446744073709551616 → ∀ st : St, st.ro ≤ st.next → Ok (K.go (.call n_refinerylaw04_number [.int .u64 n]) st) fun r => r.1 = T (Lib.decDigits n) ∧ Ext st r.2 := by
 intro n
 induction n using Nat.strongRecOn with
 | _ n ih =>
   intro hn st hro
   refine refinerylaw04_number_of hF fun J hJ => ?_
   rw [refinerylaw04_number_eq]
   by_cases h : n < 10
   ·have h' : ((n : Nat) : Int) < 10 := by omega
    have w1 : IntKind.u64.wrap (48 + (n : Int)) = ((48 + n : Nat) : Int) := by rw [Go.IntWalk.u64_in _ (by omega)]; omega
    have w2 : IntKind.u8.wrap ((48 + n : Nat) : Int) = ((48 + n : Nat) : Int) := u8_of (by omega)
    have hl : sLit 1 1 [U 0] [(0, 1, U ((48 + n : Nat) : Int))] st = .ok (.slice (some ⟨st.next, 0, none⟩) 1 1, st.alloc (.cells [U ((48 + n : Nat) : Int)])) := rfl
    have hc := sConv_byte (b := st.next) (x := ((48 + n : Nat) : Int)) (st := st.alloc (.cells [U ((48 + n : Nat) : Int)])) (by rw [get_alloc, if_pos rfl])
    simp only [sLss, decide_eq_true h', thn_ok, condX_eq, cond_true, sAdd, w1, sConv_int, w2, hl, hc]
    rw [Lib.decDigits, dif_pos h]
    exact ⟨_, rfl, rfl, (Ext.refl st).alloc _⟩
   ·have h' : ¬ ((n : Nat) : Int) < 10 := by omega
    have w0 : IntKind.u64.wrap ((n : Int).tdiv 10) = ((n / 10 : Nat) : Int) := by rw [Go.IntWalk.u64_quo _ _ (by omega)]; omega
    have w1 : IntKind.u64.wrap (48 + (n : Int).tmod 10) = ((48 + n % 10 : Nat) : Int) := by
     rw [Int.tmod_eq_emod_of_nonneg (by omega), Go.IntWalk.u64_in _ (by omega)]; omega
    have w2 : IntKind.u8.wrap ((48 + n % 10 : Nat) : Int) = ((48 + n % 10 : Nat) : Int) := u8_of (by omega)
    simp only [sLss, decide_eq_false h', thn_ok, condX_eq, cond_false, refinerylaw04_number_j0_eq hJ, sQuo _ _ _ _ (show (10 : Int) ≠ 0 by decide), w0]
    refine (ih (n / 10) (by omega) (by omega) st hro).call fun s1 E1 => ?_
    have hl : sLit 1 1 [U 0] [(0, 1, U ((48 + n % 10 : Nat) : Int))] s1 = .ok (.slice (some ⟨s1.next, 0, none⟩) 1 1, s1.alloc (.cells [U ((48 + n % 10 : Nat) : Int)])) := rfl
    have hc := sConv_byte (b := s1.next) (x := ((48 + n % 10 : Nat) : Int)) (st := s1.alloc (.cells [U ((48 + n % 10 : Nat) : Int)])) (by rw [get_alloc, if_pos rfl])
    have hs : ∀ (l : List St) (f : St → Res (Value × St)) (v : Value), sStays l s1.next (.slice (some ⟨s1.next, 0, none⟩) 1 1) f v = true := fun l f v => by
     unfold sStays
     simp [idOf]
    have hd := dec_len (u := n / 10) (by omega)
    have ha := sAdd_T (Lib.decDigits (n / 10)) [UInt8.ofNat (((48 + n % 10 : Nat) : Int)).toNat] (s1.alloc (.cells [U ((48 + n % 10 : Nat) : Int)])) (by simp; omega)
    simp only [sRem _ _ _ (show (10 : Int) ≠ 0 by decide), thn_ok, sAdd, w1, sConv_int, w2, hl, hc, hs, Res.need_true, Res.bind_ok, ha]
    refine ⟨_, rfl, ?_, E1.alloc _⟩
    rw [Lib.decDigits.eq_1 n, dif_neg h]
    rfl
theorem word_loop {J} (hJ : IsJ K (retK refinerylaw04_word_c.results) J) {st0 : St} (n m : Int) (hm : 1 ≤ m ∧ m ≤ 4) : ∀ (d : Nat) (k : Nat) (w : List UInt8) (st : St), (k : Int) + d = m → w.length = k → (∀ c ∈ w, isLet c = true) → Ext st0 st →
 Ok (refinerylaw04_word_l0 J (I n) (T w) (I m) (I k) st) fun r => ∃ w', r.1 = T w' ∧ w' ≠ [] ∧ w'.length ≤ 21 ∧ (∀ c ∈ w', isLet c = true) ∧ Ext st0 r.2 := by
 intro d
 induction d with
 | zero =>
   intro k w st hk hw hl hE
   refine refinerylaw04_word_l0_of hF hJ ?_
   rw [refinerylaw04_word_l0_eq]
   have h1 : ¬ (k : Int) < m := by omega
   simp only [sLss, decide_eq_false h1, thn_ok, condX_eq, cond_false, refinerylaw04_word_j1_eq hJ]
   refine ⟨_, rfl, w, rfl, ?_, by omega, hl, hE⟩
   intro e
   subst e
   simp at hw
   omega
 | succ d ih =>
   intro k w st hk hw hl hE
   refine refinerylaw04_word_l0_of hF hJ ?_
   rw [refinerylaw04_word_l0_eq]
   have h1 : (k : Int) < m := by omega
   have w3 : IntKind.i64.wrap (3 * (k : Int)) = 3 * k := wrap_id (by omega)
   obtain ⟨a, ha⟩ := sShr (n := n) (m := 3 * (k : Int)) (by omega) st
   obtain ⟨b, hb, b0, b1⟩ := sMask (n := a) (m := 15) (by omega) st
   obtain ⟨b, rfl⟩ : ∃ c : Nat, b = c := ⟨b.toNat, by omega⟩
   have w4 : IntKind.i64.wrap (97 + (b : Int)) = ((97 + b : Nat) : Int) := by rw [wrap_id (by omega)]; omega
   have w5 : IntKind.u8.wrap ((97 + b : Nat) : Int) = ((97 + b : Nat) : Int) := u8_of (by omega)
   have w6 : IntKind.i64.wrap ((k : Int) + 1) = ((k + 1 : Nat) : Int) := by rw [wrap_id (by omega)]; omega
   have hlit : sLit 1 1 [U 0] [(0, 1, U ((97 + b : Nat) : Int))] st = .ok (.slice (some ⟨st.next, 0, none⟩) 1 1, st.alloc (.cells [U ((97 + b : Nat) : Int)])) := rfl
   have hc := sConv_byte (b := st.next) (x := ((97 + b : Nat) : Int)) (st := st.alloc (.cells [U ((97 + b : Nat) : Int)])) (by rw [get_alloc, if_pos rfl])
   have had := sAdd_T w [UInt8.ofNat (((97 + b : Nat) : Int)).toNat] (st.alloc (.cells [U ((97 + b : Nat) : Int)])) (by simp; omega)
   simp only [sLss, decide_eq_true h1, thn_ok, condX_eq, cond_true, refinerylaw04_word_j0_eq hJ, sMul, w3, ha, hb, sAdd, w4, sConv_int, w5, hlit, hc, had, refinerylaw04_word_j2_eq hJ, w6]
   refine ih (k + 1) _ _ (by omega) (by simp [hw]) ?_ (hE.alloc _)
   intro c hc
   rcases List.mem_append.1 hc with h | h
   ·exact hl c h
   ·rw [List.mem_singleton.1 h]
    have : (UInt8.ofNat (((97 + b : Nat) : Int)).toNat).toNat = 97 + b := by
     rw [Int.toNat_natCast, UInt8.toNat_ofNat', Nat.mod_eq_of_lt (by omega)]
    simp [isLet, this]
    omega
theorem word_ok (n : Int) (st : St) : Ok (K.go (.call n_refinerylaw04_word [I n]) st) fun r => ∃ w, r.1 = T w ∧ w ≠ [] ∧ w.length ≤ 21 ∧ (∀ c ∈ w, isLet c = true) ∧ Ext st r.2 := by
 refine refinerylaw04_word_of hF fun J hJ => ?_
 rw [refinerylaw04_word_eq]
 obtain ⟨b, hb, b0, b1⟩ := sMask (n := n) (m := 3) (by omega) st
 have w1 : IntKind.i64.wrap (1 + b) = 1 + b := wrap_id (by omega)
 simp only [hb, thn_ok, sAdd, w1]
 have := word_loop hF hJ (st0 := st) n (1 + b) (by omega) (1 + b).toNat 0 [] st (by omega) rfl (by simp) (.refl _)
 exact this
def vPc (k g n : Int) : Value := .agg #[U k, U g, I n]
omit hF in
theorem sLbox_pc (k g n : Int) (s : St) : sLbox (vPc k g n) s = .ok (vPc k g n, s.bump) := rfl
omit hF in
theorem u64_neg {n : Int} (h : -9223372036854775808 ≤ n) (hn : n < 0) : IntKind.u64.wrap n = n + 18446744073709551616 := by
 simp [IntKind.wrap, IntKind.bits, IntKind.signed]; omega
omit hF in
theorem itoa_neg {n : Int} (h : n < 0) : Lib.itoa n = 45 :: Lib.decDigits n.natAbs := by unfold Lib.itoa; rw [if_pos h]
omit hF in
theorem itoa_pos {n : Int} (h : ¬ n < 0) : Lib.itoa n = Lib.decDigits n.toNat := by unfold Lib.itoa; rw [if_neg h]
theorem Token_ok {k g n : Int} (hk : 0 ≤ k ∧ k ≤ 255) (hn : -9223372036854775808 ≤ n ∧ n ≤ 9223372036854775807) {st : St} (hro : st.ro ≤ st.next) :
 Ok (K.go (.call n_refinerylaw04_Piece_Token [vPc k g n]) st) fun r => ∃ x t, r.1 = .tuple #[T x, vTok t] ∧ t.at_ = 0 ∧ Reads x t ∧ Ext st r.2 := by
 refine refinerylaw04_Piece_Token_of hF fun J hJ => ?_
 rw [refinerylaw04_Piece_Token_eq]
 generalize hs0 : st.bump.bump = s0
 have E0 : Ext st s0 := by rw [← hs0]; simp
 have r0 : s0.ro ≤ s0.next := E0.roOk hro
 obtain ⟨u, hu, hu1⟩ : ∃ u : Nat, IntKind.u64.wrap n = u ∧ u < 18446744073709551616 := by
  by_cases h : n < 0
  ·exact ⟨(n + 18446744073709551616).toNat, by rw [u64_neg hn.1 h]; omega, by omega⟩
  ·exact ⟨n.toNat, by rw [Go.IntWalk.u64_in _ (by omega)]; omega, by omega⟩
 have hsm : (u : Int).tmod 100001 = ((u % 100001 : Nat) : Int) := by rw [Int.tmod_eq_emod_of_nonneg (by omega)]; omega
 have hk8 : k.tmod 8 = k % 8 := Int.tmod_eq_emod_of_nonneg hk.1
 have hsi : IntKind.i64.wrap ((u % 100001 : Nat) : Int) = ((u % 100001 : Nat) : Int) := wrap_id (by omega)
 have q0 : ∀ s, sLref (vPc k g n) s = .ok (nothing, s) := fun s => rfl
 have q1 : ∀ s, sField none 2 (vPc k g n) s = .ok (I n, s) := fun s => rfl
 have q2 : ∀ s, sField none 0 (vPc k g n) s = .ok (U k, s) := fun s => rfl
 have mk : ∀ (kd : Int) (x : List UInt8) s, sBuild [U 0, I 0, .string (bstr []), I 0] [(0, 1, U kd), (2, 1, T x)] s = .ok (vTok ⟨kd, 0, x, 0⟩, s) := fun kd x s => rfl
 have mn : ∀ (kd : Int) (v : Int) s, sBuild [U 0, I 0, .string (bstr []), I 0] [(0, 1, U kd), (3, 1, I v)] s = .ok (vTok ⟨kd, 0, [], v⟩, s) := fun kd v s => rfl
 have ml : ∀ (kd : Int) s, sBuild [U 0, I 0, .string (bstr []), I 0] [(0, 1, U kd)] s = .ok (vTok ⟨kd, 0, [], 0⟩, s) := fun kd s => rfl
 have up : ∀ (t : Tok) s, sUpd 4 0 (.agg #[U 0, I 0, .string (bstr []), I 0]) (vTok t) s = .ok (vTok t, s) := fun t s => sUpd_tok0 s t
 have dl : ∀ u, u < 18446744073709551616 → (Lib.decDigits u).length ≤ 20 := fun u h => dec_len h
 have hadd : ∀ (c : UInt8) (u : Nat) (s : St), u < 18446744073709551616 → sBin .add (.string (bstr [c])) (T (Lib.decDigits u)) s = .ok (T (c :: Lib.decDigits u), s) := fun c u s h => sAdd_T [c] (Lib.decDigits u) s (by have := dl u h; simp; omega)
 have fin : ∀ (x : List UInt8) (t : Tok) (s : St), Reads x t → t.at_ = 0 → Ext st s → Ok (Res.ok (oneOf [T x, vTok t], s)) fun r => ∃ x t, r.1 = .tuple #[T x, vTok t] ∧ t.at_ = 0 ∧ Reads x t ∧ Ext st r.2 := fun x t s h1 h2 h3 => ⟨_, rfl, x, t, rfl, h2, h1, h3⟩
 generalize hQ : (fun r : Value × St => ∃ x t, r.1 = .tuple #[T x, vTok t] ∧ t.at_ = 0 ∧ Reads x t ∧ Ext st r.2) = Q at fin ⊢
 have mark : ∀ (c : UInt8), isMark c → ∀ s, Ext s0 s → Ok (Res.ok (oneOf [T (c :: Lib.decDigits (u % 100001)), vTok ⟨regKind c, 0, [], ((u % 100001 : Nat) : Int)⟩], s)) Q := fun c hc s hE => fin _ _ s (Reads.mark hc (by omega)) rfl (E0.trans hE)
 simp only [sLbox_pc, thn_ok, sLnew_eq, hs0, q0, q1, q2, sConv_int, hu, sRem _ _ _ (show (100001 : Int) ≠ 0 by decide), sRem _ _ _ (show (8 : Int) ≠ 0 by decide), hsm, hk8, sEql, condX_eq]
 by_cases k0 : k % 8 = 0
 ·simp only [decide_eq_true k0, cond_true]
  refine (word_ok hF n s0).thn fun r ⟨w, e1, w1, w2, w3, hE⟩ => ?_
  rw [e1]
  simp only [mk, thn_ok, up, sField_tok, Res.bind_ok]
  exact fin _ _ _ (Reads.word w1 w3 w2) rfl (E0.trans hE)
 simp only [decide_eq_false k0, cond_false]
 by_cases k1 : k % 8 = 1
 ·simp only [decide_eq_true k1, cond_true]
  refine (lnumber_ok hF (u % 100001) (by omega) s0 r0).call fun s1 hE => ?_
  simp only [hadd _ _ _ (show u % 100001 < 18446744073709551616 by omega), thn_ok, sConv_int, hsi, mn, up, sField_tok, Res.bind_ok]
  exact mark 37 (by decide) s1 hE
 simp only [decide_eq_false k1, cond_false]
 by_cases k2 : k % 8 = 2
 ·simp only [decide_eq_true k2, cond_true]
  refine (lnumber_ok hF (u % 100001) (by omega) s0 r0).call fun s1 hE => ?_
  simp only [hadd _ _ _ (show u % 100001 < 18446744073709551616 by omega), thn_ok, sConv_int, hsi, mn, up, sField_tok, Res.bind_ok]
  exact mark 64 (by decide) s1 hE
 simp only [decide_eq_false k2, cond_false]
 by_cases k3 : k % 8 = 3
 ·simp only [decide_eq_true k3, cond_true]
  refine (lnumber_ok hF (u % 100001) (by omega) s0 r0).call fun s1 hE => ?_
  simp only [hadd _ _ _ (show u % 100001 < 18446744073709551616 by omega), thn_ok, sConv_int, hsi, mn, up, sField_tok, Res.bind_ok]
  exact mark 36 (by decide) s1 hE
 simp only [decide_eq_false k3, cond_false]
 by_cases k4 : k % 8 = 4
 ·simp only [decide_eq_true k4, cond_true, q0, q1, thn_ok, sLss]
  by_cases hneg : n < 0
  ·have hun : (u : Int) = n + 18446744073709551616 := by rw [← hu, u64_neg hn.1 hneg]
   have hng : sUn .neg (.int .u64 u) s0 = .ok (.int .u64 (n.natAbs : Nat), s0) := by
    have : IntKind.u64.wrap (0 - (u : Int)) = (n.natAbs : Nat) := by
     simp [IntKind.wrap, IntKind.bits, IntKind.signed]; omega
    simp only [sUn, aun, this, Res.bind_ok, Res.pure_eq]
   simp only [decide_eq_true hneg, cond_true, sConv_int, hu, thn_ok, hng, condX_eq]
   refine (lnumber_ok hF n.natAbs (by omega) s0 r0).call fun s1 hE => ?_
   have hst : ∀ l b, sStays l b nothing (fun s => Res.ok (I n, s)) (I n) = true := fun l b => sStays_same (sameVal_int _ _)
   simp only [hadd _ _ _ (show n.natAbs < 18446744073709551616 by omega), thn_ok, q0, q1, hst, Res.need_true, mn, up, sField_tok, Res.bind_ok]
   rw [← itoa_neg hneg]
   exact fin _ _ _ (Reads.num hn.1 hn.2) rfl (E0.trans hE)
  ·have hun : u = n.toNat := by
    have := hu
    rw [Go.IntWalk.u64_in _ (by omega)] at this
    omega
   simp only [decide_eq_false hneg, cond_false, refinerylaw04_Piece_Token_j0_eq hJ, q0, q1, thn_ok, sConv_int, hu, condX_eq]
   refine (lnumber_ok hF u hu1 s0 r0).call fun s1 hE => ?_
   have hst : ∀ l b, sStays l b nothing (fun s => Res.ok (I n, s)) (I n) = true := fun l b => sStays_same (sameVal_int _ _)
   simp only [thn_ok, q0, q1, hst, Res.need_true, mn, up, sField_tok, Res.bind_ok]
   rw [hun, ← itoa_pos hneg]
   exact fin _ _ _ (Reads.num hn.1 hn.2) rfl (E0.trans hE)
 simp only [decide_eq_false k4, cond_false]
 by_cases k5 : k % 8 = 5
 ·simp only [sEql, thn_ok, condX_eq, decide_eq_true k5, cond_true, ml, thn_ok, up, sField_tok, Res.bind_ok]
  exact fin [10] _ s0 Reads.line rfl E0
 simp only [sEql, thn_ok, condX_eq, decide_eq_false k5, cond_false, refinerylaw04_Piece_Token_j1_eq hJ]
 have hu3 : (u : Int).tmod 3 = ((u % 3 : Nat) : Int) := by rw [Int.tmod_eq_emod_of_nonneg (by omega)]; omega
 have hlit : sLit 1 3 [.string (bstr []), .string (bstr []), .string (bstr [])] [(0, 1, .string (bstr [61])), (1, 1, .string (bstr [44])), (2, 1, .string (bstr [58]))] s0 = .ok (.slice (some ⟨s0.next, 0, none⟩) 3 1, s0.alloc (.cells [T [61], T [44], T [58]])) := rfl
 obtain ⟨c, hc, hix⟩ : ∃ c : UInt8, isSign c ∧ [T [61], T [44], T [58]][u % 3]? = some (T [c]) := by
  have : u % 3 < 3 := Nat.mod_lt _ (by decide)
  rcases (show u % 3 = 0 ∨ u % 3 = 1 ∨ u % 3 = 2 by omega) with h | h | h
  ·exact ⟨61, by decide, by rw [h]; rfl⟩
  ·exact ⟨44, by decide, by rw [h]; rfl⟩
  ·exact ⟨58, by decide, by rw [h]; rfl⟩
 have hixa : sIxA 1 none (.slice (some ⟨s0.next, 0, none⟩) 3 1) (.int .u64 ((u % 3 : Nat) : Int)) (s0.alloc (.cells [T [61], T [44], T [58]])) = .ok (P s0.next (u % 3), s0.alloc (.cells [T [61], T [44], T [58]])) := by
  have h1 : (0 : Int) ≤ ((u % 3 : Nat) : Int) ∧ ((u % 3 : Nat) : Int) < (3 : Nat) := by omega
  simp only [sIxA, index, if_pos h1, decide_true, Res.need_true, Res.bind_ok, Res.pure_eq, Int.toNat_natCast]
  simp
 have hld : (s0.alloc (.cells [T [61], T [44], T [58]])).load1 s0.next (u % 3) = .ok (T [c]) := load1_eq (by rw [get_alloc, if_pos rfl]) hix
 simp only [hlit, thn_ok, q0, q1, sConv_int, hu, sRem _ _ _ (show (3 : Int) ≠ 0 by decide), hu3, hixa, sLoad1, hld, Res.bind_ok, mk, up, sField_tok]
 exact fin [c] _ _ (Reads.sign hc) rfl (E0.alloc _)
end Go.Proofs.YtefdkodjpcabmaaDoor.Sh
