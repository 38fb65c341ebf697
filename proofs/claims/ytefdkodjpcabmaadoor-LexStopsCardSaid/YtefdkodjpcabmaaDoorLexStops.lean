/-
  LexStops: whatever it is given, the law's function answers true.
-/
import Derived.Test.YtefdkodjpcabmaaDoorLx7
import Derived.Test.YtefdkodjpcabmaaDoorShL6
set_option linter.unusedVariables false
set_option linter.unusedSimpArgs false
set_option linter.unusedSectionVars false
set_option maxRecDepth 100000
namespace Go.AM
theorem bytesL_map : ∀ (l : List UInt8) (r : ByteArray), bytesL (l.map fun c => U c.toNat) r = .ok ⟨(r.data.toList ++ l).toArray⟩ := by
 intro l
 induction l with
 | nil => intro r; simp [bytesL]
 | cons c l ih =>
   intro r
   rw [List.map_cons]
   simp only [bytesL]
   rw [ih]
   simp [ByteArray.push]
theorem sConv_bytes {b : Nat} {l : List UInt8} {n : Nat} {st : St} (hn : n = l.length) (h : st.get b = some (.cells (l.map fun c => U c.toNat))) : sConv .strOfBytes (.slice (some ⟨b, 0, none⟩) n 1) st = .ok (T l, st) := by
 subst hn
 have hf : firstL st 1 l.length (.slice (some ⟨b, 0, none⟩) l.length 1) = .ok (l.map fun c => U c.toNat) := by
  simp only [firstL, decide_true, Res.need_true, Res.bind_ok, loadN_def, h]
  rw [need_dec (by simp)]
  simp only [Res.bind_ok, List.drop_zero, Nat.mul_one]
  rw [List.take_of_length_le (by simp)]
 simp only [sConv, aconv, hf, Res.bind_ok, Res.pure_eq, beq_self_eq_true, decide_true, Bool.true_or, Res.need_true, List.length_map, bytesL_map]
 rfl
theorem zerosL_one (z : Value) : ∀ n, zerosL [z] n = List.replicate n z := by
 intro n
 induction n with
 | zero => rfl
 | succ n ih => rw [zerosL, ih, List.replicate_succ]; rfl
theorem sMin (a b : Int) (st : St) : sMinmax false (I a) [I b] st = .ok (I (if b < a then b else a), st) := by
 simp [sMinmax, minmaxL, minmax2]
end Go.AM
namespace Go.AM.Lx
theorem events_text {ps : List Rd} (h : ∀ p ∈ ps, Reads p.1 p.2) (hl : ps.length ≤ 1000) : events (textOf ps) = (toksAt ps 0 ++ [endT (textOf ps).length]).map (fun t => (t, (0 : Int))) := by
 have := textOf_len h
 unfold events
 rw [if_neg (by omega)]
 have e := evs_text h [] 0
 rw [List.append_nil, evs_nil, Nat.zero_add] at e
 rw [e]
 simp
theorem split_long {s : List UInt8} (h : 100000 < s.length) : split (events s) = ([], 100000, 3) := by
 unfold events
 rw [if_pos h]
 rfl
end Go.AM.Lx
namespace Go.Proofs.YtefdkodjpcabmaaDoor.Sh
open Go Go.AM Go.Proofs Go.AM.Lx
noncomputable def tsA : ACode := posC refinerylaw04_LexStops_c.body [1, 1, 1, 1, 1, 1, 1, 1, 1, 1, 0, 1, 0, 1, 0]
noncomputable def tsB : ACode := posC refinerylaw04_LexStops_c.body [1, 1, 1, 1, 1, 1, 1, 1, 1, 1, 0, 1, 0, 1, 1]
def tsE (v3 v4 v10 v12 v13 v47 : Value) : Env := envT [(3, v3), (4, v4), (10, v10), (12, v12), (13, v13), (14, nothing), (15, nothing), (47, v47)]
theorem tsA_eq (K : Ctx) (v3 v4 v10 v12 v13 v47 : Value) (t : Tok) (e : Int) (st : St) : codeC K tsA (putL (tsE v3 v4 v10 v12 v13 v47) [48, 49] [vTok t, I e]) st =
 .ok (.normal, (15, I e) :: (14, vTok t) :: (14, .agg #[U 0, I 0, .string (bstr []), I 0]) :: (49, I e) :: (48, vTok t) :: tsE v3 v4 v10 v12 v13 v47, st.bump) := by kernel_rfl
theorem tsB_eq (K : Ctx) (J : JT (AExit × St)) (v3 v4 v10 v12 v13 v47 : Value) (t : Tok) (e : Int) (st : St) : atR K J tsB ((15, I e) :: (14, vTok t) :: (14, .agg #[U 0, I 0, .string (bstr []), I 0]) :: (49, I e) :: (48, vTok t) :: tsE v3 v4 v10 v12 v13 v47) st =
 refinerylaw04_LexStops_jr111111111101011_0 J v3 v4 v10 v12 v13 (vTok t) (I e) st := by kernel_rfl
structure TP (s0 st : St) (kb rb ab mb bx L : Nat) (k : Int) (va v12 v47 : Value) (s : List UInt8) (j : Nat) (sl : LoopState) (pd : AExit) : Prop where
 ext : Ext s0 st
 vars : VOk st
 m0 : s0.next ≤ mb
 m1 : mb < bx
 m2 : bx < L
 lt : L < st.next
 kr : kb < s0.next ∧ rb < s0.next ∧ ab < s0.next
 gk : s0.get kb = some (.cells [U k])
 ga : s0.get ab = some (.cells [va])
 gm : st.get mb = some (.cells [I j])
 gx : st.get bx = some (.cells [T s])
 gL : st.get L = some (.loop (tsE (P kb 0) (P rb 0) (P ab 0) v12 (P mb 0) v47) [48, 49] tsA tsB sl pd)
theorem TP.mono {s0 st st' : St} {kb rb ab mb bx L : Nat} {k : Int} {va v12 v47 : Value} {s : List UInt8} {j : Nat} {sl : LoopState} {pd : AExit} (h : TP s0 st kb rb ab mb bx L k va v12 v47 s j sl pd) (hE : Ext st st') : TP s0 st' kb rb ab mb bx L k va v12 v47 s j sl pd := by
 have h1 := h.m1; have h2 := h.m2; have h3 := h.lt
 exact { h with
  ext := h.ext.trans hE
  vars := h.vars.mono hE
  lt := Nat.lt_of_lt_of_le h.lt hE.next
  gm := by rw [hE.get _ (by omega)]; exact h.gm
  gx := by rw [hE.get _ (by omega)]; exact h.gx
  gL := by rw [hE.get _ h.lt]; exact h.gL }
def TPs (s0 : St) (kb rb ab mb bx L : Nat) (k : Int) (va v12 v47 : Value) (s : List UInt8) (X : List Tok) (kk : Nat) (l : List Ev) (st : St) : Prop :=
 (∃ j, TP s0 st kb rb ab mb bx L k va v12 v47 s j .ready .normal ∧ l = (X.drop j).map (fun t => (t, (0 : Int))) ∧ j ≤ kk ∧ j ≤ X.length) ∨
 (l = [] ∧ kk + 1 ≤ X.length ∧ TP s0 st kb rb ab mb bx L k va v12 v47 s (kk + 1) .done (.exit 2))
variable {K : Ctx} (hF : Fix pgF K)
include hF
theorem Stops_sees {s0 : St} {kb rb ab mb bx L : Nat} {k : Int} {va v12 v47 : Value} {s : List UInt8} {X : List Tok} {kk : Nat} (hro : s0.ro ≤ s0.next) (hv0 : VOk s0) (hk : k.tmod 20 = kk) (hkk : kk < 20)
 (hat : ∀ (i : Nat) t, X[i]? = some t → ∃ b o, (∀ s : St, sIxA 4 none va (I i) s = .ok (P b o, s)) ∧ ∀ s : St, Ext s0 s → s.loadN b o 4 = .ok (cTok t)) : Sees K (.func (.yield L) #[] #[]) bx s (TPs s0 kb rb ab mb bx L k va v12 v47 s X kk) where
 mono := fun l st st' h hE => h.imp (fun ⟨j, a, b⟩ => ⟨j, a.mono hE, b⟩) (fun ⟨h1, h2, h3⟩ => ⟨h1, h2, h3.mono hE⟩)
 vars := fun l st h => by rcases h with ⟨j, a, _⟩ | ⟨_, _, a⟩ <;> exact a.vars
 text := fun l st h => by rcases h with ⟨j, a, _⟩ | ⟨_, _, a⟩ <;> exact a.gx
 step := fun (t, e) rest st h => by
  rcases h with ⟨j, h, hl, hjk, hjX⟩ | ⟨h, _⟩
  rotate_left
  ·cases h
  have hlt : j < X.length := by
   rcases Nat.lt_or_ge j X.length with h | h
   ·exact h
   ·rw [List.drop_eq_nil_iff.2 h] at hl; cases hl
  rw [List.drop_eq_getElem_cons hlt, List.map_cons] at hl
  obtain ⟨he, hrest⟩ := List.cons.inj hl
  obtain ⟨rfl, rfl⟩ := Prod.mk.inj he
  obtain ⟨b, o, a1, a2⟩ := hat j _ (List.getElem?_eq_getElem hlt)
  generalize X[j] = t at *
  have q : sCall K (.func (.yield L) #[] #[]) [vTok t, I 0] st = K.go (.round L [vTok t, I 0]) st := by simp [sCall, taskOf]
  show Ok (sCall K (.func (.yield L) #[] #[]) [vTok t, I 0] st) _
  rw [q]
  have m0 := h.m0; have m1 := h.m1; have m2 := h.m2; have kl := h.lt; have hn := h.ext.next; obtain ⟨r1, r2, r3⟩ := h.kr
  have hgb : st.bump.get L = some (.loop (tsE (P kb 0) (P rb 0) (P ab 0) v12 (P mb 0) v47) [48, 49] tsA tsB .ready .normal) := by rw [get_bump, if_neg (by omega)]; exact h.gL
  refine round_of hF h.gL rfl (by rw [h.ext.ro]; omega) (tsA_eq K _ _ _ _ _ _ t 0 st) hgb fun J hJ => ?_
  rw [tsB_eq, refinerylaw04_LexStops_jr111111111101011_0_eq hJ]
  generalize hs1 : (st.bump).put L (.loop (tsE (P kb 0) (P rb 0) (P ab 0) v12 (P mb 0) v47) [48, 49] tsA tsB .busy .normal) = s1
  have hX : Ext s0 s1 := by rw [← hs1]; exact (h.ext.bump).put (by omega) _
  have n1 : s1.next = st.next + 1 := by rw [← hs1]; rfl
  have old : ∀ id, id < st.next → id ≠ L → s1.get id = st.get id := fun id h1 h2 => by rw [← hs1, get_put, if_neg h2, get_bump, if_neg (by omega)]
  have gL : s1.get L = some (.loop (tsE (P kb 0) (P rb 0) (P ab 0) v12 (P mb 0) v47) [48, 49] tsA tsB .busy .normal) := by rw [← hs1, get_put, if_pos rfl]
  have ro1 : s1.ro = s0.ro := hX.ro
  clear hs1
  have gm : s1.get mb = some (.cells [I j]) := by rw [old _ (by omega) (by omega)]; exact h.gm
  have lm : s1.load1 mb 0 = .ok (I j) := load1_eq gm rfl
  have la : s1.load1 ab 0 = .ok va := load1_eq (by rw [hX.get _ r3]; exact h.ga) rfl
  have lt : s1.loadN b o 4 = .ok (cTok t) := a2 s1 hX
  have hv : Value.agg (cTok t).toArray = vTok t := rfl
  have hst : s1.storeN mb 0 [I ((j + 1 : Nat) : Int)] = .ok (s1.put mb (.cells [I ((j + 1 : Nat) : Int)])) := by
   have : s1.ro ≤ mb := by omega
   simp [gm, Res.need, this]
  have hw : IntKind.i64.wrap ((j : Int) + 1) = ((j + 1 : Nat) : Int) := by rw [wrap_id (by omega)]; omega
  have gL2 : (s1.put mb (.cells [I ((j + 1 : Nat) : Int)])).get L = some (.loop (tsE (P kb 0) (P rb 0) (P ab 0) v12 (P mb 0) v47) [48, 49] tsA tsB .busy .normal) := by
   rw [get_put, if_neg (by omega)]; exact gL
  have lm2 : (s1.put mb (.cells [I ((j + 1 : Nat) : Int)])).load1 mb 0 = .ok (I ((j + 1 : Nat) : Int)) := load1_eq (xs := [I ((j + 1 : Nat) : Int)]) (by rw [get_put, if_pos rfl]) rfl
  have lk2 : (s1.put mb (.cells [I ((j + 1 : Nat) : Int)])).load1 kb 0 = .ok (U k) := load1_eq (by rw [get_put, if_neg (by omega), hX.get _ r1]; exact h.gk) rfl
  have hwk : IntKind.i64.wrap (kk : Int) = kk := wrap_id (by omega)
  have z0 : decide ((0 : Int) = 0) = true := rfl
  simp only [sNeq, z0, Bool.not_true, thn_ok, sGo_eq, beq_self_eq_true, cond_true, sField_tok, sLoad1, la, lm, Res.bind_ok, a1, sLoadN, lt, hv, sEq_tok, decide_true, sPick_eq, Bool.false_eq_true, if_false, condX_eq, cond_false, refinerylaw04_LexStops_jr111111111101011_1_eq hJ, sAdd, hw, sStore_int, Res.need_true, hst, lm2, lk2, sRem _ _ _ (show (20 : Int) ≠ 0 by decide), hk, sConv_int, hwk, sGtr]
  have mk : ∀ (sl : LoopState) (pd : AExit), TP s0 ((s1.put mb (.cells [I ((j + 1 : Nat) : Int)])).put L (.loop (tsE (P kb 0) (P rb 0) (P ab 0) v12 (P mb 0) v47) [48, 49] tsA tsB sl pd)) kb rb ab mb bx L k va v12 v47 s (j + 1) sl pd := fun sl pd => by
   have E : Ext s0 ((s1.put mb (.cells [I ((j + 1 : Nat) : Int)])).put L (.loop (tsE (P kb 0) (P rb 0) (P ab 0) v12 (P mb 0) v47) [48, 49] tsA tsB sl pd)) := (hX.put (by omega) _).put (by omega) _
   exact {
    ext := E
    vars := hv0.mono E
    m0 := m0, m1 := m1, m2 := m2, lt := by show L < s1.next; omega, kr := h.kr, gk := h.gk, ga := h.ga
    gm := by rw [get_put, if_neg (by omega), get_put, if_pos rfl]
    gx := by rw [get_put, if_neg (by omega), get_put, if_neg (by omega), old _ (by omega) (by omega)]; exact h.gx
    gL := by rw [get_put, if_pos rfl] }
  by_cases c : kk < j + 1
  ·have c' : (kk : Int) < ((j + 1 : Nat) : Int) := by omega
   simp only [decide_eq_true c', cond_true]
   refine ⟨(AExit.exit 2, _), rfl, _, _, _, _, _, _, gL2, false, rfl, .inr ⟨rfl, by omega, ?_⟩⟩
   have : j + 1 = kk + 1 := by omega
   have h9 := mk .done (.exit 2)
   rw [this] at h9 ⊢
   exact h9
  ·have c' : ¬ (kk : Int) < ((j + 1 : Nat) : Int) := by omega
   simp only [decide_eq_false c', cond_false]
   exact ⟨(AExit.normal, _), rfl, _, _, _, _, _, _, gL2, true, rfl, .inl ⟨j + 1, mk .ready .normal, by simpa using hrest, by omega, by omega⟩⟩
theorem Stops_end {J} (hJ : IsJ K (retK refinerylaw04_LexStops_c.results) J) {st : St} {kb rb ab mb : Nat} {k : Int} {va : Value} {m n kk : Nat} (hk : k.tmod 20 = kk) (hkk : kk < 20) (hv : VOk st) (gk : st.get kb = some (.cells [U k])) (gr : st.get rb = some (.cells [B false])) (ga : st.get ab = some (.cells [va])) (gm : st.get mb = some (.cells [I m]))
 (hr : st.ro ≤ rb) (h1 : kb < st.next) (h2 : rb < st.next) (h3 : ab < st.next) (h4 : mb < st.next) (hl : ∀ s, sLen .slice va s = .ok (I (n : Nat), s)) (hm : m = if kk + 1 ≤ n then kk + 1 else n) :
 Ok (refinerylaw04_LexStops_j6 J (P kb 0) (P rb 0) (P ab 0) (I 0) (P mb 0) st) fun r => r.1 = B true := by
 rw [refinerylaw04_LexStops_j6_eq hJ]
 obtain ⟨N, hN⟩ : ∃ N : Nat, N = 100001 := ⟨_, rfl⟩
 have hmk : sMkSlice 1 1 [U 0] (I 100001) (I 100001) st = .ok (.slice (some ⟨st.next, 0, none⟩) N 1, st.alloc (.cells ((List.replicate N (0 : UInt8)).map fun c => U c.toNat))) := by
  have e : (100001 : Int) = (N : Int) := by rw [hN]; rfl
  rw [e]
  have hc : (0 : Int) ≤ (N : Int) ∧ (N : Int) ≤ (N : Int) ∧ (N : Int) * (1 : Nat) ≤ mostBytes ∧ (N : Int) ≤ mostBytes ∧ [U 0].length = 1 := by
   have : (mostBytes : Int) = 70368744177664 := rfl
   refine ⟨by omega, by omega, by omega, by omega, rfl⟩
  simp only [sMkSlice]
  rw [need_dec hc]
  simp only [Res.bind_ok, Res.pure_eq, Int.toNat_natCast, zerosL_one, List.map_replicate]
  rfl
 have hcv := sConv_bytes (b := st.next) (l := List.replicate N (0 : UInt8)) (n := N) (st := st.alloc (.cells ((List.replicate N (0 : UInt8)).map fun c => U c.toNat))) (by simp) (by rw [get_alloc, if_pos rfl])
 have E1 : Ext st (st.alloc (.cells ((List.replicate N (0 : UInt8)).map fun c => U c.toNat))) := (Ext.refl st).alloc _
 generalize hs1 : st.alloc (.cells ((List.replicate N (0 : UInt8)).map fun c => U c.toNat)) = s1 at *
 simp only [hmk, thn_ok, hcv]
 refine Split_thn hF (by unfold Short; rw [List.length_replicate]; omega) (hv.mono E1) fun vb s2 ib h5 => ?_
 rw [split_long (by rw [List.length_replicate]; omega)] at *
 have EX := E1.trans h5.ext
 have lm : s2.load1 mb 0 = .ok (I m) := load1_eq (by rw [EX.get _ h4]; exact gm) rfl
 have la : s2.load1 ab 0 = .ok va := load1_eq (by rw [EX.get _ h3]; exact ga) rfl
 have lk : s2.load1 kb 0 = .ok (U k) := load1_eq (by rw [EX.get _ h1]; exact gk) rfl
 have gr2 : s2.get rb = some (.cells [B false]) := by rw [EX.get _ h2]; exact gr
 have hst : s2.storeN rb 0 [B true] = .ok (s2.put rb (.cells [B true])) := by
  have : s2.ro ≤ rb := by rw [EX.ro]; exact hr
  simp [gr2, Res.need, this]
 have lr : (s2.put rb (.cells [B true])).load1 rb 0 = .ok (B true) := load1_eq (xs := [B true]) (by rw [get_put, if_pos rfl]) rfl
 have hwk : IntKind.i64.wrap (kk : Int) = kk := wrap_id (by omega)
 have hw1 : IntKind.i64.wrap (1 + (kk : Int)) = 1 + (kk : Int) := wrap_id (by omega)
 have hmin : decide ((m : Int) = if 1 + (kk : Int) < (n : Int) then 1 + (kk : Int) else (n : Int)) = true := by
  rw [decide_eq_true_eq, hm]
  split <;> split <;> omega
 have z0 : decide ((0 : Int) = 0) = true := rfl
 have z1 : decide ((3 : Int) = 3) = true := rfl
 have z2 : decide (((100000 : Nat) : Int) = 100000) = true := by decide
 simp only [sExtract_eq, List.getElem?_toArray, List.getElem?_cons_zero, List.getElem?_cons_succ, Res.of_some, Res.bind_ok, thn_ok, sEql, z0, sG_eq, beq_self_eq_true, cond_true, sLoad1, lm, la, hl, lk, sRem _ _ _ (show (20 : Int) ≠ 0 by decide), hk, sConv_int, hwk, sAdd, hw1, sMin, hmin, sPick_eq, if_true, z1, z2, sStore_bool, decide_true, Res.need_true, hst, lr]
 exact ⟨_, rfl, rfl⟩
theorem Stops_loop {J} (hJ : IsJ K (retK refinerylaw04_LexStops_c.results) J) {st0 : St} {v v3 v4 v14 v15 : Value} {l : List Pc} (hR : RSl (Bel st0.next) st0 3 RPc v l) (hro : st0.ro ≤ st0.next) (hlen : l.length ≤ 1000) {Q : Value × St → Prop}
 (hfin : ∀ (qs : List Rd) st, qs.length = l.length → (∀ q ∈ qs, Reads q.1 q.2) → Ext st0 st → Ok (refinerylaw04_LexStops_j3 J v3 v4 (T (textOf qs)) v14 v15 st) Q) : ∀ (d : Nat) (qs : List Rd) (st : St), qs.length + d = l.length → (∀ q ∈ qs, Reads q.1 q.2) → Ext st0 st →
 Ok (refinerylaw04_LexStops_l0 J v3 v4 (T (textOf qs)) v14 v15 v (I l.length) (I qs.length) st) Q := by
 intro d
 induction d with
 | zero =>
   intro qs st hq hr hE
   refine refinerylaw04_LexStops_l0_of hF hJ ?_
   rw [refinerylaw04_LexStops_l0_eq]
   have h1 : ¬ ((qs.length : Nat) : Int) < (l.length : Nat) := by omega
   simp only [sLss, decide_eq_false h1, thn_ok, condX_eq, cond_false]
   exact hfin qs st (by omega) hr hE
 | succ d ih =>
   intro qs st hq hr hE
   refine refinerylaw04_LexStops_l0_of hF hJ ?_
   rw [refinerylaw04_LexStops_l0_eq]
   have hlt : qs.length < l.length := by omega
   have h1 : ((qs.length : Nat) : Int) < (l.length : Nat) := by omega
   obtain ⟨b, o, cs, k1, k2, ⟨rfl, hp⟩, -⟩ := hR.at (List.getElem?_eq_getElem hlt)
   generalize l[qs.length] = p at *
   have k2 := k2 st (hE.agree fun _ h => h)
   have hv : Value.agg (cPc p).toArray = vP p := rfl
   simp only [sLss, decide_eq_true h1, thn_ok, condX_eq, cond_true, refinerylaw04_LexStops_j2_eq hJ, k1, sLoadN, k2, Res.bind_ok, hv, sLnew_eq, sUpd_pc, sField_pc]
   rw [vP_eq]
   refine (Token_ok hF hp.k hp.n (st := st.bump) (by have := hE.roOk hro; simp; omega)).thn fun r ⟨x, t, e1, e2, e3, e4⟩ => ?_
   rw [e1]
   have hx := e3.len
   have ht := textOf_len hr
   have a1 := sAdd_T x [32] r.2.bump (by simp; omega)
   have a1' : sBin .add (T x) (.string (bstr [32])) r.2.bump = .ok (T (x ++ [32]), r.2.bump) := a1
   have a2 := sAdd_T (textOf qs) (x ++ [32]) r.2.bump (by simp; omega)
   have hw : IntKind.i64.wrap ((qs.length : Int) + 1) = ((qs.length + 1 : Nat) : Int) := by rw [wrap_id (by omega)]; omega
   have htx : textOf qs ++ (x ++ [32]) = textOf (qs ++ [(x, t)]) := by simp [textOf]
   simp only [sExtract_eq, List.getElem?_toArray, List.getElem?_cons_zero, List.getElem?_cons_succ, Res.of_some, Res.bind_ok, thn_ok, sLnew_eq, sUpd_tok0, a1', a2, refinerylaw04_LexStops_j4_eq hJ, sAdd, hw, htx]
   have := ih (qs ++ [(x, t)]) r.2.bump (by simp; omega) (fun q hq => by
    rcases List.mem_append.1 hq with h | h
    ·exact hr q h
    ·rw [List.mem_singleton.1 h]; exact e3) ((hE.trans ((Ext.refl st).bump.trans e4)).bump)
   simpa using this
theorem LexStops_ok {st : St} (hv : VOk st) {v : Value} {l : List Pc} {k : Int} (hk : 0 ≤ k ∧ k ≤ 255) (hR : RSl (Bel st.next) st 3 RPc v l) : Ok (K.go (.call n_refinerylaw04_LexStops [v, U k]) st) fun r => r.1 = B true := by
 refine refinerylaw04_LexStops_of hF fun J hJ => ?_
 rw [refinerylaw04_LexStops_eq]
 obtain ⟨kk, hkm, hkk⟩ : ∃ m : Nat, k.tmod 20 = m ∧ m < 20 := ⟨(k % 20).toNat, by rw [Int.tmod_eq_emod_of_nonneg hk.1]; omega, by omega⟩
 have q1 : sBox (U k) st = .ok (P st.next 0, st.alloc (.cells [U k])) := rfl
 generalize ha1 : st.alloc (.cells [U k]) = a1 at q1
 have n1 : a1.next = st.next + 1 := by rw [← ha1]; rfl
 have E1 : Ext st a1 := by rw [← ha1]; simp
 have g1 : a1.get st.next = some (.cells [U k]) := by rw [← ha1, get_alloc, if_pos rfl]
 have q2 : sNew [.bool false] a1 = .ok (P a1.next 0, a1.alloc (.cells [B false])) := rfl
 generalize ha2 : a1.alloc (.cells [B false]) = a2 at q2
 have n2 : a2.next = a1.next + 1 := by rw [← ha2]; rfl
 have E2 : Ext a1 a2 := by rw [← ha2]; simp
 have g2 : a2.get a1.next = some (.cells [B false]) := by rw [← ha2, get_alloc, if_pos rfl]
 clear ha1 ha2
 have v2 := (hv.mono E1).mono E2
 simp only [q1, q2, thn_ok]
 refine (Awake04_ok hF v2).call fun s1 E3 => ?_
 have v3 := v2.mono E3
 have gk1 : s1.get st.next = some (.cells [U k]) := by rw [E3.get _ (by omega), E2.get _ (by omega)]; exact g1
 have gr1 : s1.get a1.next = some (.cells [B false]) := by rw [E3.get _ (by omega)]; exact g2
 have nn1 := E3.next
 have ro0 := hv.ro
 have ros1 : s1.ro = st.ro := by rw [E3.ro, E2.ro, E1.ro]
 have EX1 := (E1.trans E2).trans E3
 simp only [sUn_not, Bool.not_true, thn_ok, condX_eq, cond_false, refinerylaw04_LexStops_j0_eq hJ, hR.len, sGtr]
 by_cases h1 : (40 : Int) < l.length
 ·have hst : s1.storeN a1.next 0 [B true] = .ok (s1.put a1.next (.cells [B true])) := by
   have : s1.ro ≤ a1.next := by omega
   simp [gr1, Res.need, this]
  have lr : (s1.put a1.next (.cells [B true])).load1 a1.next 0 = .ok (B true) := load1_eq (xs := [B true]) (by rw [get_put, if_pos rfl]) rfl
  simp only [decide_eq_true h1, cond_true, sStore_bool, decide_true, Res.need_true, Res.bind_ok, hst, thn_ok, sLoad1, lr]
  exact ⟨_, rfl, rfl⟩
 have hR1 : RSl (Bel s1.next) s1 3 RPc v l := hR.mono (fun id h => Nat.lt_of_lt_of_le h EX1.next) (EX1.agree fun _ h => h) fun _ _ _ h => h
 simp only [decide_eq_false h1, cond_false, refinerylaw04_LexStops_j1_eq hJ, hR.len, thn_ok, T_bstr]
 refine Stops_loop hF hJ hR1 v3.ro (by omega) (Q := fun r => r.1 = B true) (fun qs s2 hql hqr E4 => ?_) l.length [] s1 (by simp) (by simp) (.refl _)
 have v4 := v3.mono E4
 have hsl := textOf_len hqr
 rw [refinerylaw04_LexStops_j3_eq hJ]
 refine Split_thn hF (by unfold Short; omega) v4 fun va s3 ia h5 => ?_
 rw [split_text hqr (by omega)] at *
 have v5 := v4.mono h5.ext
 have t1 := toksAt_len qs 0
 generalize hX : toksAt qs 0 ++ [endT (textOf qs).length] = X at *
 have hXl : X.length = qs.length + 1 := by rw [← hX]; simp [t1]
 have r3 : s3.ro ≤ s3.next := v5.ro
 have p1 : sNew [.slice none 0 0] s3 = .ok (P s3.next 0, s3.alloc (.cells [.slice none 0 0])) := rfl
 have p2 : sStore 1 (P s3.next 0) va (s3.alloc (.cells [.slice none 0 0])) = .ok (nothing, (s3.alloc (.cells [.slice none 0 0])).put s3.next (.cells [va])) := by
  rw [sStore_rep h5.toks]
  simp [r3, Res.need, h5.toks.cell]
 generalize hb1 : (s3.alloc (.cells [.slice none 0 0])).put s3.next (.cells [va]) = b1 at p2
 have nb1 : b1.next = s3.next + 1 := by rw [← hb1]; rfl
 have F1 : Ext s3 b1 := by rw [← hb1]; exact (Ext.alloc (Ext.refl _) _).put (Nat.le_refl _) _
 have gb1 : b1.get s3.next = some (.cells [va]) := by rw [← hb1, get_put, if_pos rfl]
 have rb1 : b1.ro ≤ b1.next := F1.roOk r3
 have p3 : sNew [I 0] b1 = .ok (P b1.next 0, b1.alloc (.cells [I 0])) := rfl
 have p4 : sStore 1 (P b1.next 0) (I 0) (b1.alloc (.cells [I 0])) = .ok (nothing, (b1.alloc (.cells [I 0])).put b1.next (.cells [I 0])) := by simp [rb1, Res.need]
 generalize hb2 : (b1.alloc (.cells [I 0])).put b1.next (.cells [I 0]) = b2 at p4
 have nb2 : b2.next = b1.next + 1 := by rw [← hb2]; rfl
 have F2 : Ext b1 b2 := by rw [← hb2]; exact (Ext.alloc (Ext.refl _) _).put (Nat.le_refl _) _
 have gb2 : b2.get b1.next = some (.cells [I 0]) := by rw [← hb2, get_put, if_pos rfl]
 clear hb1 hb2
 simp only [sExtract_eq, List.getElem?_toArray, List.getElem?_cons_zero, List.getElem?_cons_succ, Res.of_some, Res.bind_ok, thn_ok, p1, p2, p3, p4]
 have f5 : Ok (K.go (.call n_lex_Tokens [T (textOf qs)]) b2) fun r => r = (.func (.func n_lex_Tokens_1) #[] #[P b2.next 0], b2.alloc (.cells [T (textOf qs)])) := by
  refine lex_Tokens_of hF fun J hJ => ?_
  rw [lex_Tokens_eq]
  simp
 refine f5.thn fun r hr => ?_
 subst hr
 simp only
 rw [refinerylaw04_LexStops_j5_eq hJ]
 have F3 : Ext b2 (b2.alloc (.cells [T (textOf qs)])) := by simp
 have gb3 : (b2.alloc (.cells [T (textOf qs)])).get b2.next = some (.cells [T (textOf qs)]) := by rw [get_alloc, if_pos rfl]
 have nb3 : (b2.alloc (.cells [T (textOf qs)])).next = b2.next + 1 := rfl
 generalize (b2.alloc (.cells [T (textOf qs)])) = b3 at *
 have hcall : taskOf (.func (.func n_lex_Tokens_1) #[] #[P b2.next 0]) [.func (.yield b3.next) #[] #[]] = .ok (.call n_lex_Tokens_1 [.func (.yield b3.next) #[] #[], P b2.next 0]) := by simp [taskOf]
 refine sRange_any hcall rfl ?_
 generalize ho : AObj.loop _ _ _ _ _ _ = o
 have gL : (b3.alloc o).get b3.next = some o := by rw [get_alloc, if_pos rfl]
 have F4 : Ext b3 (b3.alloc o) := by simp
 have n4 : (b3.alloc o).next = b3.next + 1 := rfl
 generalize (b3.alloc o) = b4 at *
 have e4n := E4.next
 have e5n := h5.ext.next
 have EB : Ext s3 b4 := ((F1.trans F2).trans F3).trans F4
 have vb1 := v5.mono F1
 have EB1 : Ext b1 b4 := (F2.trans F3).trans F4
 have hat : ∀ (i : Nat) t, X[i]? = some t → ∃ b o, (∀ s : St, sIxA 4 none va (I i) s = .ok (P b o, s)) ∧ ∀ s : St, Ext b1 s → s.loadN b o 4 = .ok (cTok t) := fun i t ht => by
  obtain ⟨b, o, k1, _, k2⟩ := h5.at (i := i) (t := t) ht
  exact ⟨b, o, k1, fun s hs => (k2 s (F1.trans hs)).1⟩
 have gkb1 : b1.get st.next = some (.cells [U k]) := by rw [F1.get _ (by omega), h5.ext.get _ (by omega), E4.get _ (by omega)]; exact gk1
 have grb1 : b1.get a1.next = some (.cells [B false]) := by rw [F1.get _ (by omega), h5.ext.get _ (by omega), E4.get _ (by omega)]; exact gr1
 have init : TPs b1 st.next a1.next s3.next b1.next b2.next b3.next k va (I 0) (.func (.func n_lex_Tokens_1) #[] #[P b2.next 0]) (textOf qs) X kk (events (textOf qs)) b4 := by
  refine .inl ⟨0, ?_, by rw [events_text hqr (by omega), hX]; rfl, by omega, by omega⟩
  exact {
   ext := EB1
   vars := vb1.mono EB1
   m0 := Nat.le_refl _, m1 := by omega, m2 := by omega, lt := by omega
   kr := ⟨by omega, by omega, by omega⟩
   gk := gkb1, ga := gb1
   gm := by rw [F4.get _ (by omega), F3.get _ (by omega)]; exact gb2
   gx := by rw [F4.get _ (by omega)]; exact gb3
   gL := by rw [gL, ← ho]; rfl }
 refine (Tokens1_ok hF (Stops_sees hF vb1.ro vb1 hkm hkk hat) (by unfold Short; omega) init).mono fun r ⟨_, hr⟩ => ?_
 have hlen : ∀ s, sLen .slice va s = .ok (I (X.length : Nat), s) := h5.len
 have fin : ∀ (m : Nat) (sl : LoopState) (pd : AExit), TP b1 r.2 st.next a1.next s3.next b1.next b2.next b3.next k va (I 0) (.func (.func n_lex_Tokens_1) #[] #[P b2.next 0]) (textOf qs) m sl pd → (m = if kk + 1 ≤ X.length then kk + 1 else X.length) →
  Ok (refinerylaw04_LexStops_j6 J (P st.next 0) (P a1.next 0) (P s3.next 0) (I 0) (P b1.next 0) (r.2.put b3.next .dead)) fun r => r.1 = B true := fun m sl pd h hm => by
  have hn := h.ext.next
  have hl := h.lt
  have EE : Ext b1 (r.2.put b3.next .dead) := h.ext.put (by omega) _
  exact Stops_end hF hJ hkm hkk (vb1.mono EE) (by rw [EE.get _ (by omega)]; exact gkb1) (by rw [EE.get _ (by omega)]; exact grb1) (by rw [EE.get _ (by omega)]; exact gb1) (by rw [get_put, if_neg (by omega)]; exact h.gm) (by rw [EE.ro, F1.ro, h5.ext.ro, E4.ro]; omega) (by show _ < r.2.next; omega) (by show _ < r.2.next; omega) (by show _ < r.2.next; omega) (by show _ < r.2.next; omega) hlen hm
 rcases hr with ⟨j, h, hl, hjk, hjX⟩ | ⟨_, h1, h⟩
 ·refine ⟨_, _, _, _, _, _, h.gL, rfl, ?_⟩
  rw [refinerylaw04_LexStops_x0_n]
  refine fin j _ _ h ?_
  have : X.drop j = [] := by
   cases e : X.drop j with
   | nil => rfl
   | cons a b => rw [e] at hl; cases hl
  rw [List.drop_eq_nil_iff] at this
  rw [if_neg (by omega)]
  omega
 ·refine ⟨_, _, _, _, _, _, h.gL, rfl, ?_⟩
  rw [refinerylaw04_LexStops_x0_e2]
  refine fin (kk + 1) _ _ h ?_
  rw [if_pos h1]
theorem LexStops_args {st : St} (hv : VOk st) (args : List Value) (h : WVs pg st [41, 5] args) : Ok (K.go (.call n_refinerylaw04_LexStops args) st) fun r => r.1 = .bool true := by
 match args, h with
 | [v0, v1], ⟨h0, h1, _⟩ =>
   obtain ⟨pa, ha⟩ := pieces_of h0
   obtain ⟨k, rfl, w⟩ := h1.int Tryd.underlying5
   have b1 : 0 ≤ k ∧ k ≤ 255 := by simpa [Lit.wf, IntKind.min, IntKind.max, IntKind.signed, IntKind.bits] using w
   exact LexStops_ok hF hv b1 ha
end Go.Proofs.YtefdkodjpcabmaaDoor.Sh
