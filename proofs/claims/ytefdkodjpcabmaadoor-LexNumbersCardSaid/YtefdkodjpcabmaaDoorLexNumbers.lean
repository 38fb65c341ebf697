/-
  LexNumbers: whatever it is given, the law's function answers true.
-/
import Derived.Test.YtefdkodjpcabmaaDoorLx6
import Derived.Test.YtefdkodjpcabmaaDoorShL7
set_option linter.unusedVariables false
set_option linter.unusedSimpArgs false
set_option linter.unusedSectionVars false
set_option maxRecDepth 100000
namespace Go.AM.Lx
open Go.Lib
theorem dec_head : ∀ (u : Nat) (r : List UInt8), decDigits u = 48 :: r → u = 0 := by
 intro u
 induction u using Nat.strongRecOn with
 | _ u ih =>
   intro r h
   rw [decDigits] at h
   by_cases hu : u < 10
   ·rw [dif_pos hu] at h
    have h1 := congrArg UInt8.toNat (List.cons.inj h).1
    rw [digit_toNat hu] at h1
    have h2 : UInt8.toNat 48 = 48 := rfl
    omega
   ·rw [dif_neg hu] at h
    obtain ⟨c, r', e, hc⟩ := dec_cons (u / 10)
    rw [e, List.cons_append] at h
    have h1 := (List.cons.inj h).1
    subst h1
    have := ih (u / 10) (by omega) r' e
    omega
theorem dec_zero : decDigits 0 = [48] := by rw [decDigits]; rfl
theorem itoa_head {v : Int} {c : UInt8} {r : List UInt8} (h : itoa v = c :: r) : (c.toNat = 45 ∧ v < 0 ∧ decDigits v.natAbs = r) ∨ (isDig c = true ∧ 0 ≤ v ∧ decDigits v.toNat = c :: r) := by
 unfold itoa at h
 by_cases hv : v < 0
 ·rw [if_pos hv] at h
  obtain ⟨h1, h2⟩ := List.cons.inj h
  exact .inl ⟨by rw [← h1]; rfl, hv, h2⟩
 ·rw [if_neg hv] at h
  exact .inr ⟨decDigits_dig v.toNat c (by rw [h]; simp), by omega, h⟩
theorem numOf_noughts {r : List UInt8} (h : r ≠ []) : numOf (48 :: r) = none := by
 cases e : numOf (48 :: r) with
 | none => rfl
 | some v =>
   obtain ⟨h1, _, _⟩ := numOf_some e
   rcases itoa_head h1 with ⟨h2, _⟩ | ⟨_, h3, h4⟩
   ·cases h2
   ·have := dec_head _ _ h4
    rw [this, dec_zero] at h4
    exact absurd (List.cons.inj h4).2.symm h
theorem numOf_minus {r : List UInt8} : numOf (45 :: 48 :: r) = none := by
 cases e : numOf (45 :: 48 :: r) with
 | none => rfl
 | some v =>
   obtain ⟨h1, _, _⟩ := numOf_some e
   rcases itoa_head h1 with ⟨_, h2, h3⟩ | ⟨h2, _⟩
   ·have := dec_head _ _ h3
    omega
   ·cases h2
theorem numOf_dec {u : Nat} (h : u ≤ 9223372036854775807) : numOf (decDigits u) = some (u : Int) := by
 have hi : itoa (u : Int) = decDigits u := by unfold itoa; rw [if_neg (by omega)]; rfl
 rw [← hi, numOf_itoa (by omega) (by omega)]
theorem numOf_neg {u : Nat} (h0 : 0 < u) (h : u ≤ 9223372036854775808) : numOf (45 :: decDigits u) = some (-(u : Int)) := by
 have hi : itoa (-(u : Int)) = 45 :: decDigits u := by
  unfold itoa
  rw [if_pos (by omega)]
  congr 2
  omega
 rw [← hi, numOf_itoa (by omega) (by omega)]
theorem digs_all {d : List UInt8} (h : ∀ c ∈ d, isDig c = true) : digs d = d.length := by
 have := digs_append (b := []) h
 simpa [digs] using this
theorem number_digs {d : List UInt8} (hd : ∀ c ∈ d, isDig c = true) : number d = match numOf d with | some v => (v, d.length) | none => (0, 0) := by
 have hn : numLen d = d.length := by
  unfold numLen
  cases d with
  | nil => rfl
  | cons c r =>
    have := isDig_range (hd c (List.mem_cons_self ..))
    simp only
    rw [if_neg (by omega), digs_all hd]
 unfold number
 rw [hn, List.take_length]
 rfl
theorem number_minus {d : List UInt8} (hd : ∀ c ∈ d, isDig c = true) : number (45 :: d) = match numOf (45 :: d) with | some v => (v, (45 :: d).length) | none => (0, 0) := by
 have hn : numLen (45 :: d) = (45 :: d).length := by
  unfold numLen
  simp only
  rw [if_pos (by decide), digs_all hd, List.length_cons]
  omega
 unfold number
 rw [hn, List.take_length]
 rfl
theorem split_one {c : UInt8} {r : List UInt8} {t : Tok} (h1 : ¬ c.toNat = 32) (h2 : ¬ c.toNat = 35) (hl : (c :: r).length ≤ 100000) (h : next (c :: r) 0 = (t, (c :: r).length)) : split (events (c :: r)) = ([t, endT (c :: r).length], 0, 0) := by
 unfold events
 rw [if_neg (by omega), evs_tok h1 h2 (by rw [h]; simp), h]
 simp only [List.drop_length]
 rw [evs_nil, Nat.zero_add]
 rfl
theorem split_none {c : UInt8} {r : List UInt8} (h1 : ¬ c.toNat = 32) (h2 : ¬ c.toNat = 35) (hl : (c :: r).length ≤ 100000) (h : (next (c :: r) 0).2 = 0) : split (events (c :: r)) = ([], 0, 4) := by
 unfold events
 rw [if_neg (by omega), evs_bad h1 h2 h]
 rfl
def heads : List (List UInt8) := [[37], [64], [36], [], [45]]
def rightB (i z n : Nat) : Bool := decide (z = 0) && (decide (i ≠ 4) || decide (0 < n))
def Tells (b : Bool) (x : List Tok × Nat × Int) : Prop := if b then x.1.length = 2 ∧ x.2.2 = 0 else x = ([], 0, 4)
theorem tells_mark {m : UInt8} (hm : isMark m) {d : List UInt8} (hd : ∀ c ∈ d, isDig c = true) (hl : d.length ≤ 30) : Tells (numOf d).isSome (split (events (m :: d))) := by
 have hm' := hm
 unfold isMark at hm'
 have key : next (m :: d) 0 = if (number d).2 = 0 then (⟨regKind m, 0, [], 0⟩, 0) else (⟨regKind m, 0, [], (number d).1⟩, (number d).2 + 1) := by
  unfold next
  simp only
  rw [if_neg (by unfold isLine; omega), if_neg (by unfold isSign; omega), if_pos hm, digs_all hd, List.take_length]
 rw [number_digs hd] at key
 cases e : numOf d with
 | none =>
   rw [e] at key
   exact split_none (by omega) (by omega) (by simp; omega) (by rw [key]; rfl)
 | some v =>
   rw [e] at key
   have hne : d.length ≠ 0 := by
    intro h0
    have : d = [] := List.length_eq_zero_iff.1 h0
    subst this
    have := (numOf_some e).1
    unfold itoa at this
    by_cases hv : v < 0
    ·rw [if_pos hv] at this; cases this
    ·rw [if_neg hv] at this; exact decDigits_ne _ this
   simp only at key
   rw [if_neg hne] at key
   rw [split_one (by omega) (by omega) (by simp; omega) key]
   exact ⟨rfl, rfl⟩
theorem tells_num {x : List UInt8} {c : UInt8} {r : List UInt8} (hx : x = c :: r) (hc : c.toNat = 45 ∨ isDig c = true) (hn : number x = match numOf x with | some v => (v, x.length) | none => (0, 0)) (hl : x.length ≤ 30) : Tells (numOf x).isSome (split (events x)) := by
 have hcr : c.toNat = 45 ∨ (48 ≤ c.toNat ∧ c.toNat ≤ 57) := hc.imp id isDig_range
 subst hx
 have key : next (c :: r) 0 = (⟨5, 0, [], (number (c :: r)).1⟩, (number (c :: r)).2) := by
  have hl : lets (c :: r) = 0 := lets_stop _ (by simp [isLet]; omega)
  unfold next
  simp only
  rw [if_neg (by unfold isLine; omega), if_neg (by unfold isSign; omega), if_neg (by unfold isMark; omega), hl, if_neg (by omega)]
 rw [hn] at key
 cases e : numOf (c :: r) with
 | none =>
   rw [e] at key
   exact split_none (by omega) (by omega) (by omega) (by rw [key])
 | some v =>
   rw [e] at key
   rw [split_one (by omega) (by omega) (by omega) key]
   exact ⟨rfl, rfl⟩
theorem zeros_dig {z n : Nat} : ∀ c ∈ List.replicate z 48 ++ decDigits n, isDig c = true := by
 intro c hc
 rcases List.mem_append.1 hc with h | h
 ·rw [(List.mem_replicate.1 h).2]; decide
 ·exact decDigits_dig n c h
theorem numOf_zeros {z n : Nat} (hn : n ≤ 9223372036854775807) : (numOf (List.replicate z 48 ++ decDigits n)).isSome = decide (z = 0) := by
 cases z with
 | zero => simp [numOf_dec hn]
 | succ z =>
   rw [List.replicate_succ, List.cons_append, numOf_noughts]
   ·simp
   ·have := decDigits_ne n
    simp [this]
theorem lexnum_plain {i z n : Nat} (hi : i < 5) (hz : z < 6) (hn : n < 4294967296) : Tells (rightB i z n) (split (events (heads.getD i [] ++ (List.replicate z 48) ++ decDigits n))) := by
 have hd := zeros_dig (z := z) (n := n)
 have hl : (List.replicate z 48 ++ decDigits n).length ≤ 25 := by
  have := dec_len (u := n) (by omega)
  rw [List.length_append, List.length_replicate]; omega
 have hs := numOf_zeros (z := z) (n := n) (by omega)
 rw [List.append_assoc]
 rcases (show i = 0 ∨ i = 1 ∨ i = 2 ∨ i = 3 ∨ i = 4 by omega) with rfl | rfl | rfl | rfl | rfl
 ·have := tells_mark (m := 37) (by decide) hd (by omega)
  rw [hs] at this
  simpa [rightB, heads] using this
 ·have := tells_mark (m := 64) (by decide) hd (by omega)
  rw [hs] at this
  simpa [rightB, heads] using this
 ·have := tells_mark (m := 36) (by decide) hd (by omega)
  rw [hs] at this
  simpa [rightB, heads] using this
 ·obtain ⟨c, r, e⟩ : ∃ c r, List.replicate z 48 ++ decDigits n = c :: r := by
   cases e : List.replicate z 48 ++ decDigits n with
   | nil => have := decDigits_ne n; simp [this] at e
   | cons c r => exact ⟨c, r, rfl⟩
  have := tells_num e (.inr (hd c (by rw [e]; simp))) (number_digs hd) (by omega)
  rw [hs] at this
  simpa [rightB, heads] using this
 ·have := tells_num (x := 45 :: (List.replicate z 48 ++ decDigits n)) rfl (.inl rfl) (number_minus hd) (by simp only [List.length_cons]; omega)
  have hs : (numOf (45 :: (List.replicate z 48 ++ decDigits n))).isSome = rightB 4 z n := by
   cases z with
   | zero =>
     rcases Nat.eq_zero_or_pos n with rfl | h0
     ·rw [List.replicate_zero, List.nil_append, dec_zero, numOf_minus]
      rfl
     ·rw [List.replicate_zero, List.nil_append, numOf_neg h0 (by omega)]
      simp [rightB, h0]
   | succ z =>
     rw [List.replicate_succ, List.cons_append, numOf_minus]
     simp [rightB]
  rw [hs] at this
  exact this
def nines : List UInt8 := [57, 57, 57, 57, 57, 57, 57, 57, 57, 57, 57, 57, 57, 57, 57, 57, 57, 57, 57, 57]
theorem lexnum_nines {i : Nat} (hi : i < 5) : split (events (heads.getD i [] ++ nines)) = ([], 0, 4) := by
 have h1 : numOf nines = none := by
  unfold numOf
  rw [show parseIntB 64 nines = .range by decide +kernel]
 have h2 : numOf (45 :: nines) = none := by
  unfold numOf
  rw [show parseIntB 64 (45 :: nines) = .range by decide +kernel]
 have hd : ∀ c ∈ nines, isDig c = true := by decide
 rcases (show i = 0 ∨ i = 1 ∨ i = 2 ∨ i = 3 ∨ i = 4 by omega) with rfl | rfl | rfl | rfl | rfl
 ·have := tells_mark (m := 37) (by decide) hd (by decide)
  rw [h1] at this; exact this
 ·have := tells_mark (m := 64) (by decide) hd (by decide)
  rw [h1] at this; exact this
 ·have := tells_mark (m := 36) (by decide) hd (by decide)
  rw [h1] at this; exact this
 ·have := tells_num (x := nines) rfl (.inr (by decide)) (number_digs hd) (by decide)
  rw [h1] at this; exact this
 ·have := tells_num (x := 45 :: nines) rfl (.inl rfl) (number_minus hd) (by decide)
  rw [h2] at this; exact this
theorem lexnum_a : split (events [37]) = ([], 0, 4) := by
 have := tells_mark (m := 37) (d := []) (by decide) (by simp) (by simp)
 exact this
theorem lexnum_b : split (events [45]) = ([], 0, 4) := by
 have := tells_num (x := [45]) rfl (.inl rfl) (number_minus (by simp)) (by simp)
 rw [show numOf [45] = none by decide +kernel] at this
 exact this
end Go.AM.Lx
namespace Go.Proofs.YtefdkodjpcabmaaDoor.Sh
open Go Go.AM Go.Proofs Go.AM.Lx
variable {K : Ctx} (hF : Fix pgF K)
include hF
theorem LexNumbers_ok {n z i : Int} (hn : 0 ≤ n ∧ n ≤ 4294967295) (hz : 0 ≤ z ∧ z ≤ 255) (hi : 0 ≤ i ∧ i ≤ 255) {st : St} (hv : VOk st) : Ok (K.go (.call n_refinerylaw04_LexNumbers [.int .u32 n, U z, U i]) st) fun r => r.1 = B true := by
 refine refinerylaw04_LexNumbers_of hF fun J hJ => ?_
 rw [refinerylaw04_LexNumbers_eq]
 refine (Awake04_ok hF hv).call fun s1 E1 => ?_
 have v1 := hv.mono E1
 obtain ⟨n, rfl⟩ : ∃ m : Nat, n = m := ⟨n.toNat, by omega⟩
 obtain ⟨z', hz', hz1⟩ : ∃ m : Nat, z.tmod 6 = m ∧ m < 6 := ⟨(z % 6).toNat, by rw [Int.tmod_eq_emod_of_nonneg hz.1]; omega, by omega⟩
 obtain ⟨i', hi', hi1⟩ : ∃ m : Nat, i.tmod 5 = m ∧ m < 5 := ⟨(i % 5).toNat, by rw [Int.tmod_eq_emod_of_nonneg hi.1]; omega, by omega⟩
 have w64 : IntKind.u64.wrap (n : Int) = n := Go.IntWalk.u64_in _ (by omega)
 have hlit : sLit 1 5 [.string (bstr []), .string (bstr []), .string (bstr []), .string (bstr []), .string (bstr [])] [(0, 1, .string (bstr [37])), (1, 1, .string (bstr [64])), (2, 1, .string (bstr [36])), (3, 1, .string (bstr [])), (4, 1, .string (bstr [45]))] s1 = .ok (.slice (some ⟨s1.next, 0, none⟩) 5 1, s1.alloc (.cells (heads.map T))) := rfl
 generalize hs2 : s1.alloc (.cells (heads.map T)) = s2 at hlit
 have g2 : s2.get s1.next = some (.cells (heads.map T)) := by rw [← hs2, get_alloc, if_pos rfl]
 have E2 : Ext s1 s2 := by rw [← hs2]; simp
 have v2 := v1.mono E2
 have hixa : sIxA 1 none (.slice (some ⟨s1.next, 0, none⟩) 5 1) (U (i' : Nat)) s2 = .ok (P s1.next i', s2) := by
  have h1 : (0 : Int) ≤ ((i' : Nat) : Int) ∧ ((i' : Nat) : Int) < (5 : Nat) := by omega
  simp only [sIxA, index, if_pos h1, decide_true, Res.need_true, Res.bind_ok, Res.pure_eq, Int.toNat_natCast]
  simp
 have hlen5 : heads.length = 5 := rfl
 have hget : (heads.map T)[i']? = some (T (heads.getD i' [])) := by
  rw [List.getElem?_map, List.getElem?_eq_getElem (by omega), List.getD, List.getElem?_eq_getElem (by omega)]
  rfl
 have hld : s2.load1 s1.next i' = .ok (T (heads.getD i' [])) := load1_eq g2 hget
 have htk : sSlice .str (.string (bstr [48, 48, 48, 48, 48])) none (some (U (z' : Nat))) none s2 = .ok (T (List.replicate z' 48), s2) := by
  have := sSlice_take (k := .u8) [48, 48, 48, 48, 48] s2 (b := z') (by simp; omega)
  rw [show List.take z' ([48, 48, 48, 48, 48] : List UInt8) = List.replicate z' 48 by
   rcases (show z' = 0 ∨ z' = 1 ∨ z' = 2 ∨ z' = 3 ∨ z' = 4 ∨ z' = 5 by omega) with rfl | rfl | rfl | rfl | rfl | rfl <;> rfl] at this
  exact this
 have hdl := dec_len (u := n) (by omega)
 have hhl : (heads.getD i' []).length ≤ 1 := by
  rcases (show i' = 0 ∨ i' = 1 ∨ i' = 2 ∨ i' = 3 ∨ i' = 4 by omega) with rfl | rfl | rfl | rfl | rfl <;> decide
 have x1 := sAdd_T (heads.getD i' []) (List.replicate z' 48) s2 (by rw [List.length_replicate]; omega)
 have hpl := lexnum_plain (i := i') (z := z') (n := n) hi1 hz1 (by omega)
 have hni := lexnum_nines hi1
 have hA4 : (heads.getD i' [] = [45]) ↔ i' = 4 := by
  rcases (show i' = 0 ∨ i' = 1 ∨ i' = 2 ∨ i' = 3 ∨ i' = 4 by omega) with rfl | rfl | rfl | rfl | rfl <;> decide
 generalize heads.getD i' [] = A at *
 have six : ∀ (x : Int) (s : St), sBin .rem (U z) (U 6) s = .ok (U (z' : Nat), s) := fun _ s => by rw [sRem _ _ _ (by decide), hz']
 simp only [sUn_not, Bool.not_true, thn_ok, condX_eq, cond_false, refinerylaw04_LexNumbers_j0_eq hJ, hlit, sRem _ _ _ (show (5 : Int) ≠ 0 by decide), hi', hixa, sLoad1, hld, Res.bind_ok, sRem _ _ _ (show (6 : Int) ≠ 0 by decide), hz', htk, x1, sConv_int, w64]
 refine (lnumber_ok hF n (by omega) s2 v2.ro).call fun s3 E3 => ?_
 have v3 := v2.mono E3
 have hll : (A ++ List.replicate z' 48 ++ Lib.decDigits n).length ≤ 40 := by simp only [List.length_append, List.length_replicate]; omega
 have x2 := sAdd_T (A ++ List.replicate z' 48) (Lib.decDigits n) s3 (by simp only [List.length_append, List.length_replicate]; omega)
 simp only [x2, thn_ok]
 refine Split_thn hF (by unfold Short; omega) v3 fun va s4 ia h4 => ?_
 generalize split (events (A ++ List.replicate z' 48 ++ Lib.decDigits n)) = x at *
 have v4 := v3.mono h4.ext
 have x3 := sAdd_T A nines s4 (by simp [nines]; omega)
 have x3' : sBin .add (T A) (.string (bstr [57, 57, 57, 57, 57, 57, 57, 57, 57, 57, 57, 57, 57, 57, 57, 57, 57, 57, 57, 57])) s4 = .ok (T (A ++ nines), s4) := x3
 have hright : ∀ {R : Type} (f : Value × St → Res R) (Q : R → Prop), Ok (f (B (rightB i' z' n), s4)) Q →
  Ok (Res.thn s4 (sBin .eql (U (z' : Nat)) (U 0) s4) fun p16 => Res.thn p16.2 (sG p16.1 true (.ok (T A, p16.2)) p16.2) fun p17 => Res.thn p17.2 (sG p16.1 true (sBin .neq p17.1 (.string (bstr [45])) p17.2) p17.2) fun p18 =>
   Res.thn p18.2 (sG p16.1 true (.ok (p18.1, p18.2)) p18.2) fun p19 => Res.thn p19.2 (sG p19.1 false (.ok (.int .u32 n, p19.2)) p19.2) fun p20 => Res.thn p20.2 (sG p19.1 false (sBin .gtr p20.1 (.int .u32 0) p20.2) p20.2) fun p21 =>
   Res.thn p21.2 (sG p16.1 true (sPick p19.1 (.bool true) p21.1 p21.2) p21.2) fun p22 => Res.thn p22.2 (sPick p16.1 p22.1 (.bool false) p22.2) fun p23 => f p23) Q := by
  intro R f Q h
  have e45 : ∀ s, sBin .neq (T A) (.string (bstr [45])) s = .ok (B (!decide (A = [45])), s) := fun s => sNeq_T A [45] s
  by_cases hz0 : z' = 0
  ·subst hz0
   by_cases h4 : i' = 4
   ·have hA := hA4.2 h4
    by_cases h0 : 0 < n
    ·have h0' : (0 : Int) < n := by omega
     simpa [T_bstr, hA, rightB, h4, h0] using h
    ·have h0' : n = 0 := by omega
     simpa [T_bstr, hA, rightB, h4, h0, h0'] using h
   ·have hA : ¬ A = [45] := fun e => h4 (hA4.1 e)
    simpa [e45, hA, rightB, h4] using h
  ·have hz0' : ¬ ((z' : Nat) : Int) = 0 := by omega
   simpa [e45, rightB, hz0, hz0'] using h
 simp only [sExtract_eq, List.getElem?_toArray, List.getElem?_cons_zero, List.getElem?_cons_succ, Res.of_some, Res.bind_ok, thn_ok]
 refine hright _ _ ?_
 simp only [x3', thn_ok]
 refine Split_thn hF (s := A ++ nines) (by unfold Short; simp [nines]; omega) v4 fun vb s5 ib h5 => ?_
 rw [hni] at *
 have v5 := v4.mono h5.ext
 simp only [sExtract_eq, List.getElem?_toArray, List.getElem?_cons_zero, List.getElem?_cons_succ, Res.of_some, Res.bind_ok, thn_ok]
 refine Split_thn hF (s := [37]) (by decide) v5 fun vc s6 ic h6 => ?_
 rw [lexnum_a] at *
 have v6 := v5.mono h6.ext
 simp only [sExtract_eq, List.getElem?_toArray, List.getElem?_cons_zero, List.getElem?_cons_succ, Res.of_some, Res.bind_ok, thn_ok]
 refine Split_thn hF (s := [45]) (by decide) v6 fun vd s7 id h7 => ?_
 rw [lexnum_b] at *
 have hlen := h4.len
 unfold Tells at hpl
 cases hb : rightB i' z' n with
 | true =>
   rw [hb, if_pos rfl] at hpl
   obtain ⟨p1, p2⟩ := hpl
   rw [p1] at hlen
   have hlen : ∀ s, sLen .slice va s = .ok (I 2, s) := hlen
   simp [p2, hlen, Res.of]
 | false =>
   rw [hb, if_neg (by decide)] at hpl
   subst hpl
   have hlen : ∀ s, sLen .slice va s = .ok (I 0, s) := hlen
   simp [hlen, Res.of]
end Go.Proofs.YtefdkodjpcabmaaDoor.Sh
namespace Go.Proofs.YtefdkodjpcabmaaDoor.Sh
open Go Go.AM Go.Proofs Go.AM.Lx
theorem LexNumbers_args {K : Ctx} (hF : Fix pgF K) {st : St} (hv : VOk st) (args : List Value) (h : WVs pg st [61, 5, 5] args) : Ok (K.go (.call n_refinerylaw04_LexNumbers args) st) fun r => r.1 = .bool true := by
 match args, h with
 | [v0, v1, v2], ⟨h0, h1, h2, _⟩ =>
   obtain ⟨n, rfl, w0⟩ := h0.int Tryd.underlying61
   obtain ⟨z, rfl, w1⟩ := h1.int Tryd.underlying5
   obtain ⟨i, rfl, w2⟩ := h2.int Tryd.underlying5
   have b0 : 0 ≤ n ∧ n ≤ 4294967295 := by simpa [Lit.wf, IntKind.min, IntKind.max, IntKind.signed, IntKind.bits] using w0
   have b1 : 0 ≤ z ∧ z ≤ 255 := by simpa [Lit.wf, IntKind.min, IntKind.max, IntKind.signed, IntKind.bits] using w1
   have b2 : 0 ≤ i ∧ i ≤ 255 := by simpa [Lit.wf, IntKind.min, IntKind.max, IntKind.signed, IntKind.bits] using w2
   exact LexNumbers_ok hF b0 b1 b2 hv
end Go.Proofs.YtefdkodjpcabmaaDoor.Sh
