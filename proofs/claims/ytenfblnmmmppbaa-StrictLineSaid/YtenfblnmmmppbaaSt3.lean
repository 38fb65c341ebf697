/-
  Strict programs of one block: is each register set ahead of being read?
-/
import Derived.Test.YtenfblnmmmppbaaSt2
set_option linter.unusedVariables false
set_option linter.unusedSimpArgs false
set_option linter.unusedSectionVars false
set_option maxRecDepth 100000
namespace Go.Proofs.Ytenfblnmmmppbaa.Sh
open Go Go.AM Go.Proofs

def aheadP (l : List (Int × (Int × Int))) (r k : Int) : Bool := match pget l r with | some x => decide (x.2 < k) | none => false
def okAt (l : List (Int × (Int × Int))) (j : Int) (x : Instr) : Bool := x.reads.all fun r => aheadP l r j
def restOk (l : List (Int × (Int × Int))) : Nat → List Instr → Bool
  | _, [] => true
  | j, x :: t => okAt l j x && restOk l (j + 1) t
def readsOk (l : List (Int × (Int × Int))) (li : List Instr) (m : Last) : Bool := restOk l 0 li && (!m.reads.2 || aheadP l m.reads.1 li.length)
def inBlock0 (l : List (Int × (Int × Int))) : Prop := ∀ r x, pget l r = some x → x.1 = 0

def aheadF (sb tb : Nat) : Value := .func (.func n_strict_reads_1) #[] #[P sb 0, P tb 0]

variable {K : Ctx} (hF : Fix pgF K)
include hF

theorem AheadF_ok {st : St} {m sb tb : Nat} {l : List (Int × (Int × Int))} (h0 : inBlock0 l) (hm : st.get m = some (mPairs fPl l)) (hsb : st.get sb = some (.cells [.map (some m)])) (hml : m < st.next) (r k : Int) :
    Ok (sCall K (aheadF sb tb) [I r, I 0, I k] st) fun x => x.1 = B (aheadP l r k) ∧ Ext st x.2 := by
  have e : sCall K (aheadF sb tb) [I r, I 0, I k] st = K.go (.call n_strict_reads_1 [I r, I 0, I k, P sb 0, P tb 0]) st := by simp [sCall, aheadF, taskOf]
  rw [e]
  generalize hQ : (fun x : Value × St => x.1 = B (aheadP l r k) ∧ Ext st x.2) = Q
  refine strict_reads_1_of hF fun J hJ => ?_
  rw [strict_reads_1_eq]
  have l1 : st.load1 sb 0 = .ok (.map (some m)) := load1_eq hsb rfl
  have lk := sLook_pairs hm r (.agg #[I 0, I 0]) true
  have hE : Ext st st.bump := by simp
  cases hg : pget l r with
  | none =>
    rw [hg] at lk
    have ha : aheadP l r k = false := by unfold aheadP; rw [hg]
    simp [l1, lk, Res.of, Res.need]
    rw [← hQ, ha]
    exact ⟨rfl, hE⟩
  | some x =>
    rw [hg] at lk
    have hx := h0 r x hg
    have ha : aheadP l r k = decide (x.2 < k) := by unfold aheadP; rw [hg]
    have hf : fPl x = .agg #[I 0, I x.2] := by unfold fPl; rw [hx]
    simp only [if_true, hf] at lk
    by_cases hlt : x.2 < k
    · simp [l1, lk, Res.of, Res.need, hlt]
      rw [← hQ, ha, decide_eq_true hlt]
      exact ⟨rfl, hE⟩
    · simp [l1, lk, Res.of, Res.need, hlt]
      rw [← hQ, ha, decide_eq_false hlt]
      exact ⟨rfl, hE⟩

section
variable {J : JT (Value × St)} (hJ : IsJ K (retK strict_reads_c.results) J) {Q : Value × St → Prop} {st0 : St} {m sb tb : Nat} {l : List (Int × (Int × Int))} (h0 : inBlock0 l) (hm : st0.get m = some (mPairs fPl l)) (hsb : st0.get sb = some (.cells [.map (some m)])) (hml : m < st0.next) (hsl : sb < st0.next)
include hJ h0 hm hsb hml hsl

theorem Reads_l5 {v3 v7 v12 v40 v84 v85 v92 : Value} {j : Nat} {A : Nat → Prop} {st1 : St} {rs : List Int} (hr : RSl A st1 1 RInt v92 rs) (hrl : rs.length < 1000) (hfalse : (rs.all fun r => aheadP l r j) = false → ∀ s, Ext st0 s → Q (.bool false, s))
    (htrue : (rs.all fun r => aheadP l r j) = true → ∀ s, Ext st0 s → Ok (strict_reads_j14 J v3 v7 (aheadF sb tb) (I 0) v12 v40 (I 1) (I 0) v84 v85 (I j) s) Q) (hA : ∀ id, A id → id < st1.next) (d : Nat) : ∀ (i : Nat) (s : St), i + d = rs.length → Ext st0 s → Ext st1 s → ((rs.take i).all fun r => aheadP l r j) = true →
    Ok (strict_reads_l5 J v3 v7 (aheadF sb tb) (I 0) v12 (I j) v40 (I 1) (I 0) v84 v85 (I j) v92 (I rs.length) (I i) s) Q := by
  induction d with
  | zero =>
    intro i s hi hE hE1 hall
    refine strict_reads_l5_of hF hJ ?_
    rw [strict_reads_l5_eq]
    have : i = rs.length := by omega
    subst this
    rw [List.take_length] at hall
    simp
    exact htrue hall s hE
  | succ d ih =>
    intro i s hi hE hE1 hall
    refine strict_reads_l5_of hF hJ ?_
    rw [strict_reads_l5_eq]
    have hlt : i < rs.length := by omega
    have hlt' : (i : Int) < rs.length := by omega
    obtain ⟨b, o, k1, k2, _⟩ := hr.at1 (f := I) (List.getElem?_eq_getElem hlt)
    simp [hlt', strict_reads_j13_eq hJ, k1, k2 s (hE1.agree hA)]
    refine (AheadF_ok hF (tb := tb) h0 (by rw [hE.get _ hml]; exact hm) (by rw [hE.get _ hsl]; exact hsb) (Nat.lt_of_lt_of_le hml hE.next) rs[i] j).call fun s2 hE2 => ?_
    have htk : rs.take (i + 1) = rs.take i ++ [rs[i]] := by rw [List.take_add_one, List.getElem?_eq_getElem hlt]; rfl
    cases ha : aheadP l rs[i] j with
    | false =>
      simp
      refine hfalse ?_ s2 (hE.trans hE2)
      rw [List.all_eq_false]
      exact ⟨rs[i], List.getElem_mem hlt, by rw [ha]; decide⟩
    | true =>
      simp [strict_reads_j15_eq hJ]
      rw [wrap_id (n := (i : Int) + 1) (by omega)]
      exact ih (i + 1) s2 (by omega) (hE.trans hE2) (hE1.trans hE2) (by rw [htk, List.all_append, hall]; simp [ha])

theorem Reads_l4 {A : Nat → Prop} {v3 v7 v40 v84 vp vi : Value} {n : Int} {li : List Instr} {mm : Last} (hA : ∀ id, A id → id < st0.next) (hl : RSl A st0 7 RInstr v84 li) (hll : li.length < 1000)
    (hend : ∀ s, Ext st0 s → Ok (strict_reads_j10 J v3 v7 (aheadF sb tb) (I 0) (vB n vp vi mm) v40 (I 1) (I 0) s) fun r => r.1 = B (!mm.reads.2 || aheadP l mm.reads.1 li.length) ∧ Ext st0 r.2) (d : Nat) : ∀ (j : Nat) (s : St), j + d = li.length → Ext st0 s →
    Ok (strict_reads_l4 J v3 v7 (aheadF sb tb) (I 0) (vB n vp vi mm) v40 (I 1) (I 0) v84 (I li.length) (I j) s) fun r => r.1 = B (restOk l j (li.drop j) && (!mm.reads.2 || aheadP l mm.reads.1 li.length)) ∧ Ext st0 r.2 := by
  induction d with
  | zero =>
    intro j s hj hE
    have : j = li.length := by omega
    subst this
    rw [List.drop_length]
    generalize hQ : (fun r : Value × St => r.1 = B (restOk l li.length [] && (!mm.reads.2 || aheadP l mm.reads.1 li.length)) ∧ Ext st0 r.2) = Q
    refine strict_reads_l4_of hF hJ ?_
    rw [strict_reads_l4_eq]
    simp
    rw [← hQ]
    exact hend s hE
  | succ d ih =>
    intro j s hj hE
    have hlt : j < li.length := by omega
    rw [List.drop_eq_getElem_cons hlt]
    generalize hQ : (fun r : Value × St => r.1 = B (restOk l j (li[j] :: li.drop (j + 1)) && (!mm.reads.2 || aheadP l mm.reads.1 li.length)) ∧ Ext st0 r.2) = Q
    refine strict_reads_l4_of hF hJ ?_
    rw [strict_reads_l4_eq]
    have hlt' : (j : Int) < li.length := by omega
    obtain ⟨b, o, cs, k1, k2, k3, -⟩ := hl.at (List.getElem?_eq_getElem hlt)
    have k3 : cs = cI li[j] := k3
    subst k3
    have hv : ∀ x, Value.agg (cI x).toArray = vI x := fun x => rfl
    simp [hlt', strict_reads_j9_eq hJ, k1, k2 s (hE.agree hA), hv]
    refine (Reads_ok hF li[j] _).thn fun ⟨q1, s2⟩ ⟨g1, hE2⟩ => ?_
    simp only at g1 hE2 ⊢
    have hE2' : Ext st0 s2 := hE.trans (Ext.trans (by simp) hE2)
    simp [g1.len]
    have hrl : li[j].reads.length < 1000 := by
      unfold Instr.reads
      split
      · simp
      · split <;> simp
    refine Reads_l5 hF hJ h0 hm hsb hml hsl (Q := Q) g1 hrl (fun hf s3 h3 => ?_) (fun ht s3 h3 => ?_) (fun id h => h.2) li[j].reads.length 0 s2 (by omega) hE2' (Ext.refl _) rfl
    · rw [← hQ]
      have : restOk l j (li[j] :: li.drop (j + 1)) = false := by
        unfold restOk okAt
        rw [hf, Bool.false_and]
      rw [this]
      exact ⟨rfl, h3⟩
    · rw [strict_reads_j14_eq hJ]
      simp
      rw [wrap_id (n := (j : Int) + 1) (by omega)]
      have hr : restOk l j (li[j] :: li.drop (j + 1)) = restOk l (j + 1) (li.drop (j + 1)) := by
        conv => lhs; unfold restOk okAt
        rw [ht, Bool.true_and]
      rw [← hQ, hr]
      exact ih (j + 1) s3 (by omega) h3
end

theorem Reads1_ok {A : Nat → Prop} {st : St} {v vt : Value} {m : Nat} {t1 t2 t3 : Value} {b : Block} {l : List (Int × (Int × Int))} (h0 : inBlock0 l) (hm : st.get m = some (mPairs fPl l)) (hml : m < st.next) (hA : ∀ id, A id → id < st.next) (hro : st.ro ≤ st.next) (hp : RProg A st v [b]) (hph : b.phis = []) (hll : b.instrs.length < 1000) :
    Ok (K.go (.call n_strict_reads [.agg #[v], .map (some m), .agg #[t1, t2, t3]]) st) fun r => r.1 = B (readsOk l b.instrs b.last) ∧ Ext st r.2 := by
  generalize hQ : (fun r : Value × St => r.1 = B (readsOk l b.instrs b.last) ∧ Ext st r.2) = Q
  refine strict_reads_of hF fun J hJ => ?_
  rw [strict_reads_eq]
  generalize hs1 : st.bump.alloc (.cells [.map (some m)]) = s1
  have q1 : sBox (.map (some m)) st.bump = .ok (P (st.next + 1) 0, s1) := by rw [← hs1]; rfl
  have n1 : s1.next = st.next + 2 := by rw [← hs1]; rfl
  have g1 : s1.get (st.next + 1) = some (.cells [.map (some m)]) := by rw [← hs1, get_alloc, if_pos (by rfl)]
  have E1 : Ext st s1 := by rw [← hs1]; simp
  clear hs1
  have q2 : sBox (.agg #[t1, t2, t3]) s1 = .ok (P s1.next 0, s1.alloc (.cells [t1, t2, t3])) := rfl
  generalize hs2 : s1.alloc (.cells [t1, t2, t3]) = s2 at q2
  have n2 : s2.next = s1.next + 1 := by rw [← hs2]; rfl
  have E2 : Ext s1 s2 := by rw [← hs2]; simp
  clear hs2
  have q3 : sNewMap s2 = .ok (.map (some s2.next), s2.alloc (.map [])) := rfl
  generalize hs3 : s2.alloc (.map []) = s3 at q3
  have n3 : s3.next = s2.next + 1 := by rw [← hs3]; rfl
  have g3 : s3.get s2.next = some (.map []) := by rw [← hs3, get_alloc, if_pos rfl]
  have E3 : Ext s2 s3 := by rw [← hs3]; simp
  clear hs3
  have hX := (E1.trans E2).trans E3
  have hlen : ∀ s, sLen .slice v s = .ok (I 1, s) := RSl.len hp
  simp [-sBox_map, -sBox_agg, -sLen_slice, q1, q2, q3, hlen, Res.of]
  refine strict_reads_l0_of hF hJ ?_
  rw [strict_reads_l0_eq]
  obtain ⟨bb, o, cs, k1, k2, ⟨vp, vi, rfl, p1, p2⟩, -⟩ := RSl.at hp (i := 0) (x := b) rfl
  have k1 : ∀ s, sIxA 7 none v (I 0) s = .ok (P bb o, s) := k1
  have hv : ∀ (b : Block) (vp vi : Value), Value.agg #[I b.label, vp, vi, U b.last.kind, I b.last.a, I b.last.yes, I b.last.no] = vB b.label vp vi b.last := fun b vp vi => rfl
  have hup : ∀ (b : Block) s, sUpd 7 0 (.agg #[I 0, .slice none 0 0, .slice none 0 0, U 0, I 0, I 0, I 0]) (vB b.label vp vi b.last) s = .ok (vB b.label vp vi b.last, s) := fun b s => by simp [vB, Res.need, p1.cell, p2.cell]
  rw [hph] at p1
  have l1 : ∀ s, sLen .slice vp s = .ok (I 0, s) := p1.len
  have l2 := p2.len
  have hms : sMapSet (.cell .int) (.map (some s2.next)) (I b.label) (I 0) s3.bump = .ok (nothing, s3.bump.put s2.next (.map [(I b.label, I 0)])) := by
    have hr : s3.ro ≤ s2.next := by rw [hX.ro]; omega
    have hne : ¬ s2.next = s3.next := by omega
    simp [sMapSet, amapSet, St.map, g3, hne, keyOk, cellIs, Res.need, hr, findK]
  simp [strict_reads_j0_eq hJ, k1, k2 s3 (hX.agree hA), hv, hup, hms, strict_reads_j2_eq hJ]
  rw [wrap_id (n := 1) (by omega)]
  refine strict_reads_l0_of hF hJ ?_
  rw [strict_reads_l0_eq]
  generalize hs4 : s3.bump.put s2.next (.map [(I b.label, I 0)]) = s4
  have E4 : Ext s2 s4 := by rw [← hs4]; exact E3.bump.put (Nat.le_refl _) _
  clear hs4
  have hX4 := (E1.trans E2).trans E4
  have hf : Value.func (.func n_strict_reads_1) #[] #[P (st.next + 1) 0, P s1.next 0] = aheadF (st.next + 1) s1.next := rfl
  simp [-sLen_slice, strict_reads_j1_eq hJ, hlen, Res.of, hf]
  refine strict_reads_l1_of hF hJ ?_
  rw [strict_reads_l1_eq]
  simp [-sLen_slice, strict_reads_j3_eq hJ, k1, k2 s4 (hX4.agree hA), hv, hup, l1]
  refine strict_reads_l2_of hF hJ ?_
  rw [strict_reads_l2_eq]
  simp [-sLen_slice, strict_reads_j6_eq hJ, l2]
  have hX5 : Ext st s4.bump := hX4.bump
  have g5 : s4.bump.get (st.next + 1) = some (.cells [.map (some m)]) := by
    have := E4.next
    rw [get_bump, if_neg (by omega), E4.get _ (by omega), E2.get _ (by omega)]; exact g1
  have hsl5 : st.next + 1 < s4.bump.next := by
    have := E4.next
    show st.next + 1 < s4.next + 1
    omega
  generalize s4.bump = s5 at *
  have hm5 : s5.get m = some (mPairs fPl l) := by rw [hX5.get _ hml]; exact hm
  have hA5 : ∀ id, A id → id < s5.next := fun id h => Nat.lt_of_lt_of_le (hA id h) hX5.next
  refine (Reads_l4 hF hJ (st0 := s5) (sb := st.next + 1) (tb := s1.next) h0 hm5 g5 (Nat.lt_of_lt_of_le hml hX5.next) hsl5 hA5 (p2.mono (fun _ h => h) (hX5.agree hA) fun _ _ _ h => h) hll (fun s hE => ?_) b.instrs.length 0 s5 (by omega) (Ext.refl _)).mono fun r hr => ?_
  · generalize hQ : (fun r : Value × St => r.1 = B (!b.last.reads.2 || aheadP l b.last.reads.1 b.instrs.length) ∧ Ext s5 r.2) = Q
    rw [strict_reads_j10_eq hJ]
    simp
    refine (LReads_ok hF b.last _).call fun s6 hE6 => ?_
    have hE6' := hE.trans hE6
    have hfin : ∀ s, Ext s5 s → Ok (strict_reads_j12 J (.agg #[v]) (.map (some s2.next)) (aheadF (st.next + 1) s1.next) v (I 1) (I 0) s) fun r => r.1 = B true ∧ Ext s5 r.2 := fun s hs => by
      generalize hQ2 : (fun r : Value × St => r.1 = B true ∧ Ext s5 r.2) = Q2
      rw [strict_reads_j12_eq hJ]
      simp
      rw [wrap_id (n := 1) (by omega)]
      refine strict_reads_l1_of hF hJ ?_
      rw [strict_reads_l1_eq]
      simp [strict_reads_j4_eq hJ]
      rw [← hQ2]
      exact ⟨rfl, hs⟩
    cases hr : b.last.reads.2 with
    | false =>
      simp [Res.of, hr]
      rw [← hQ, hr]
      exact hfin s6 hE6'
    | true =>
      simp [-sLen_slice, Res.of, hr, l2]
      refine (AheadF_ok hF (tb := s1.next) h0 (by rw [hE6'.get _ (Nat.lt_of_lt_of_le hml hX5.next)]; exact hm5) (by rw [hE6'.get _ hsl5]; exact g5) (Nat.lt_of_lt_of_le hml (hX5.trans hE6').next) b.last.reads.1 b.instrs.length).call fun s7 hE7 => ?_
      cases ha : aheadP l b.last.reads.1 b.instrs.length with
      | false =>
        simp
        rw [← hQ, hr, ha]
        exact ⟨rfl, hE6'.trans hE7⟩
      | true =>
        simp
        rw [← hQ, hr, ha]
        exact hfin s7 (hE6'.trans hE7)
  · rw [← hQ]
    exact ⟨by rw [hr.1]; rfl, hX5.trans hr.2⟩
end Go.Proofs.Ytenfblnmmmppbaa.Sh

