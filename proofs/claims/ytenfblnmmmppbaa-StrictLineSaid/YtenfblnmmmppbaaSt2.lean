/-
  Strict programs of one block: where registers are set.
-/
import Derived.Test.YtenfblnmmmppbaaSt1
set_option linter.unusedVariables false
set_option linter.unusedSimpArgs false
set_option linter.unusedSectionVars false
set_option maxRecDepth 100000
namespace Go.Proofs.Ytenfblnmmmppbaa.Sh
open Go Go.AM Go.Proofs

def fPl (x : Int × Int) : Value := .agg #[I x.1, I x.2]
/-- Where each register is set (last), and whether each is set once. -/
def plStep (q : List (Int × (Int × Int)) × Bool) (x : Instr) (k : Nat) : List (Int × (Int × Int)) × Bool := if x.sets.2 = true then (pput q.1 x.sets.1 (0, (k : Int)), q.2 && (pget q.1 x.sets.1).isNone) else q
def plTo (li : List Instr) : Nat → List (Int × (Int × Int)) × Bool
  | 0 => ([], true)
  | k + 1 => match li[k]? with | some x => plStep (plTo li k) x k | none => plTo li k
def places (li : List Instr) : List (Int × (Int × Int)) × Bool := plTo li li.length

def setF (mb ob : Nat) : Value := .func (.func n_strict_places_1) #[] #[P mb 0, P ob 0]

structure PS (st0 s : St) (m mb ob : Nat) (q : List (Int × (Int × Int)) × Bool) : Prop where
  ext : Ext st0 s
  k1 : st0.next ≤ m
  k2 : m < mb
  k3 : mb < ob
  k4 : ob < s.next
  g1 : s.get m = some (mPairs fPl q.1)
  g2 : s.get mb = some (.cells [.map (some m)])
  g3 : s.get ob = some (.cells [B q.2])
theorem PS.mono {st0 s s' : St} {m mb ob : Nat} {q : List (Int × (Int × Int)) × Bool} (h : PS st0 s m mb ob q) (hE : Ext s s') : PS st0 s' m mb ob q :=
  have k1 := h.k1; have k2 := h.k2; have k3 := h.k3; have k4 := h.k4
  ⟨h.ext.trans hE, k1, k2, k3, Nat.lt_of_lt_of_le k4 hE.next, by rw [hE.get _ (by omega)]; exact h.g1, by rw [hE.get _ (by omega)]; exact h.g2, by rw [hE.get _ (by omega)]; exact h.g3⟩

variable {K : Ctx} (hF : Fix pgF K)
include hF

theorem Set_ok {st0 s : St} {m mb ob : Nat} {q : List (Int × (Int × Int)) × Bool} (h : PS st0 s m mb ob q) (hro : st0.ro ≤ st0.next) (r k : Int) :
    Ok (sCall K (setF mb ob) [I r, .agg #[I 0, I k]] s) fun x => x.1 = .tuple #[] ∧ PS st0 x.2 m mb ob (pput q.1 r (0, k), q.2 && (pget q.1 r).isNone) := by
  have e : sCall K (setF mb ob) [I r, .agg #[I 0, I k]] s = K.go (.call n_strict_places_1 [I r, .agg #[I 0, I k], P mb 0, P ob 0]) s := by simp [sCall, setF, taskOf]
  rw [e]
  generalize hQ : (fun x : Value × St => x.1 = .tuple #[] ∧ PS st0 x.2 m mb ob (pput q.1 r (0, k), q.2 && (pget q.1 r).isNone)) = Q
  refine strict_places_1_of hF fun J hJ => ?_
  rw [strict_places_1_eq]
  have k1 := h.k1; have k2 := h.k2; have k3 := h.k3; have k4 := h.k4
  have h1 := h.mono (s' := s.bump) (by simp)
  have h2 := h1.mono (s' := s.bump.bump) (by simp)
  have l1 : s.bump.load1 mb 0 = .ok (.map (some m)) := load1_eq h1.g2 rfl
  have lk := sLook_pairs h1.g1 r (.agg #[I 0, I 0]) true
  have l2 : s.bump.bump.load1 ob 0 = .ok (B q.2) := load1_eq h2.g3 rfl
  have hr : s.ro ≤ ob := by rw [h.ext.ro]; omega
  have t1 : s.bump.bump.storeN ob 0 [B (q.2 && (pget q.1 r).isNone)] = .ok (s.bump.bump.put ob (.cells [B (q.2 && (pget q.1 r).isNone)])) := by
    rw [storeN_def, h2.g3]; simp [hr, Res.need]
  generalize hs3 : s.bump.bump.put ob (.cells [B (q.2 && (pget q.1 r).isNone)]) = s3 at t1
  have h3 : PS st0 s3 m mb ob (q.1, q.2 && (pget q.1 r).isNone) := by
    rw [← hs3]
    exact ⟨h2.ext.put (by omega) _, k1, k2, k3, by show ob < s.bump.bump.next; exact h2.k4, by rw [get_put, if_neg (by omega)]; exact h2.g1, by rw [get_put, if_neg (by omega)]; exact h2.g2, by rw [get_put, if_pos rfl]⟩
  clear hs3
  have l3 : s3.load1 mb 0 = .ok (.map (some m)) := load1_eq h3.g2 rfl
  have st := sMapSet_pairs h3.g1 r ((0, k) : Int × Int) (by rw [h3.ext.ro]; omega)
  have hf : fPl (0, k) = .agg #[I 0, I k] := rfl
  rw [hf] at st
  have hfin : Q (.tuple #[], s3.put m (mPairs fPl (pput q.1 r (0, k)))) := by
    rw [← hQ]
    exact ⟨rfl, h3.ext.put k1 _, k1, k2, k3, h3.k4, by rw [get_put, if_pos rfl], by rw [get_put, if_neg (by omega)]; exact h3.g2, by rw [get_put, if_neg (by omega)]; exact h3.g3⟩
  cases hg : pget q.1 r with
  | none =>
    rw [hg] at lk t1
    simp only [Option.isNone_none, Bool.and_true] at t1
    cases hq : q.2 with
    | true =>
      rw [hq] at t1 l2
      simp [-storeN_def, l1, lk, Res.of, Res.need, l2, t1, l3, st]
      exact hfin
    | false =>
      rw [hq] at t1 l2
      simp [-storeN_def, l1, lk, Res.of, Res.need, l2, t1, l3, st]
      exact hfin
  | some y =>
    rw [hg] at lk t1
    simp only [Option.isNone_some, Bool.and_false] at t1
    cases hq : q.2 with
    | true =>
      rw [hq] at l2
      simp [-storeN_def, l1, lk, fPl, Res.of, Res.need, l2, t1, l3, st]
      exact hfin
    | false =>
      rw [hq] at l2
      simp [-storeN_def, l1, lk, fPl, Res.of, Res.need, l2, t1, l3, st]
      exact hfin

theorem Places_l2 {J} (hJ : IsJ K (retK strict_places_c.results) J) {Q : Value × St → Prop} {A : Nat → Prop} {st0 : St} {m mb ob : Nat} {v18 v40 : Value} {li : List Instr} (hro : st0.ro ≤ st0.next) (hA : ∀ id, A id → id < st0.next) (hl : RSl A st0 7 RInstr v40 li) (hll : li.length < 1000)
    (hk : ∀ s, PS st0 s m mb ob (places li) → Ok (strict_places_j6 J (P mb 0) (P ob 0) (setF mb ob) v18 (I 1) (I 0) s) Q) (d : Nat) : ∀ (j : Nat) (s : St), j + d = li.length → PS st0 s m mb ob (plTo li j) →
    Ok (strict_places_l2 J (P mb 0) (P ob 0) (setF mb ob) (I 0) v18 (I 1) (I 0) v40 (I li.length) (I j) s) Q := by
  induction d with
  | zero =>
    intro j s hj h
    refine strict_places_l2_of hF hJ ?_
    rw [strict_places_l2_eq]
    have : j = li.length := by omega
    subst this
    simp
    exact hk s h
  | succ d ih =>
    intro j s hj h
    refine strict_places_l2_of hF hJ ?_
    rw [strict_places_l2_eq]
    have hlt : j < li.length := by omega
    have hlt' : (j : Int) < li.length := by omega
    obtain ⟨b, o, cs, k1, k2, k3, -⟩ := hl.at (List.getElem?_eq_getElem hlt)
    have k3 : cs = cI li[j] := k3
    subst k3
    have hv : ∀ x, Value.agg (cI x).toArray = vI x := fun x => rfl
    have hstep : plTo li (j + 1) = plStep (plTo li j) li[j] j := by
      have : plTo li (j + 1) = (match li[j]? with | some x => plStep (plTo li j) x j | none => plTo li j) := rfl
      rw [this, List.getElem?_eq_getElem hlt]
    have hnext := ih (j + 1)
    rw [hstep] at hnext
    simp [hlt', strict_places_j5_eq hJ, k1, k2 s (h.ext.agree hA), hv]
    refine (Sets_ok hF li[j] _).call fun s2 hE2 => ?_
    have h2 := h.mono (Ext.trans (by simp : Ext s s.bump) hE2)
    have hend : ∀ s', PS st0 s' m mb ob (plStep (plTo li j) li[j] j) → Ok (strict_places_j7 J (P mb 0) (P ob 0) (setF mb ob) (I 0) v18 (I 1) (I 0) v40 (I li.length) (I j) s') Q := fun s' h' => by
      rw [strict_places_j7_eq hJ]
      simp
      rw [wrap_id (n := (j : Int) + 1) (by omega)]
      exact hnext s' (by omega) h'
    by_cases hs : li[j].sets.2 = true
    · have hbu : ∀ s, sBuild [I 0, I 0] [(0, 1, I 0), (1, 1, I j)] s = .ok (.agg #[I 0, I j], s) := fun s => rfl
      simp [Res.of, hs, hbu]
      refine (Set_ok hF h2 hro li[j].sets.1 j).thn fun ⟨r1, s3⟩ ⟨e1, h3⟩ => ?_
      simp only at e1 h3 ⊢
      exact hend s3 (by unfold plStep; rw [if_pos hs]; exact h3)
    · have hs' : li[j].sets.2 = false := by simpa using hs
      simp [Res.of, hs']
      exact hend s2 (by unfold plStep; rw [if_neg hs]; exact h2)

theorem Places_ok {A : Nat → Prop} {st : St} {v : Value} {b : Block} (hA : ∀ id, A id → id < st.next) (hro : st.ro ≤ st.next) (hp : RProg A st v [b]) (hph : b.phis = []) (hll : b.instrs.length < 1000) :
    Ok (K.go (.call n_strict_places [.agg #[v]]) st) fun r => ∃ m, r.1 = .tuple #[.map (some m), B (places b.instrs).2] ∧ r.2.get m = some (mPairs fPl (places b.instrs).1) ∧ m < r.2.next ∧ Ext st r.2 := by
  generalize hQ : (fun r : Value × St => ∃ m, r.1 = .tuple #[.map (some m), B (places b.instrs).2] ∧ r.2.get m = some (mPairs fPl (places b.instrs).1) ∧ m < r.2.next ∧ Ext st r.2) = Q
  refine strict_places_of hF fun J hJ => ?_
  rw [strict_places_eq]
  have hnm : sNewMap st.bump = .ok (.map (some (st.next + 1)), st.bump.alloc (.map [])) := rfl
  generalize hs1 : st.bump.alloc (.map []) = s1 at hnm
  have n1 : s1.next = st.next + 2 := by rw [← hs1]; rfl
  have g1 : s1.get (st.next + 1) = some (.map []) := by rw [← hs1, get_alloc, if_pos (by rfl)]
  have E1 : Ext st s1 := by rw [← hs1]; simp
  clear hs1
  have hro1 := E1.roOk hro
  have q2 : sNew [.map none] s1 = .ok (P s1.next 0, s1.alloc (.cells [.map none])) := rfl
  have q3 : (s1.alloc (.cells [.map none])).storeN s1.next 0 [.map (some (st.next + 1))] = .ok ((s1.alloc (.cells [.map none])).put s1.next (.cells [.map (some (st.next + 1))])) := by simp [hro1, Res.need]
  generalize hs2 : (s1.alloc (.cells [.map none])).put s1.next (.cells [.map (some (st.next + 1))]) = s2 at q3
  have n2 : s2.next = s1.next + 1 := by rw [← hs2]; rfl
  have g2 : s2.get s1.next = some (.cells [.map (some (st.next + 1))]) := by rw [← hs2, get_put, if_pos rfl]
  have E2 : Ext s1 s2 := by rw [← hs2]; exact (Ext.alloc (Ext.refl _) _).put (Nat.le_refl _) _
  clear hs2
  have hro2 := E2.roOk hro1
  have q4 : sNew [.bool false] s2 = .ok (P s2.next 0, s2.alloc (.cells [.bool false])) := rfl
  have q5 : (s2.alloc (.cells [.bool false])).storeN s2.next 0 [.bool true] = .ok ((s2.alloc (.cells [.bool false])).put s2.next (.cells [.bool true])) := by simp [hro2, Res.need]
  generalize hs3 : (s2.alloc (.cells [.bool false])).put s2.next (.cells [.bool true]) = s3 at q5
  have n3 : s3.next = s2.next + 1 := by rw [← hs3]; rfl
  have g3 : s3.get s2.next = some (.cells [.bool true]) := by rw [← hs3, get_put, if_pos rfl]
  have E3 : Ext s2 s3 := by rw [← hs3]; exact (Ext.alloc (Ext.refl _) _).put (Nat.le_refl _) _
  clear hs3
  have hX := (E1.trans E2).trans E3
  have hps : PS st s3 (st.next + 1) s1.next s2.next ([], true) := ⟨hX, by omega, by omega, by omega, by omega, by rw [E3.get _ (by omega), E2.get _ (by omega)]; exact g1, by rw [E3.get _ (by omega)]; exact g2, g3⟩
  have hsf : Value.func (.func n_strict_places_1) #[] #[P s1.next 0, P s2.next 0] = setF s1.next s2.next := rfl
  have hlen : ∀ s, sLen .slice v s = .ok (I 1, s) := RSl.len hp
  have t3 : sStore 1 (P s1.next 0) (.map (some (st.next + 1))) (s1.alloc (.cells [.map none])) = .ok (nothing, s2) := by simp [-storeN_def, q3, Res.need]
  have t5 : sStore 1 (P s2.next 0) (.bool true) (s2.alloc (.cells [.bool false])) = .ok (nothing, s3) := by simp [-storeN_def, q5, Res.need]
  simp [-sNew_eq, -sStore_map, -sStore_bool, -storeN_def, -sLen_slice, hnm, q2, t3, q4, t5, Res.of, hlen, hsf]
  refine strict_places_l0_of hF hJ ?_
  rw [strict_places_l0_eq]
  obtain ⟨bb, o, cs, k1, k2, ⟨vp, vi, rfl, p1, p2⟩, -⟩ := RSl.at hp (i := 0) (x := b) rfl
  have k1 : ∀ s, sIxA 7 none v (I 0) s = .ok (P bb o, s) := k1
  have hv : ∀ (b : Block) (vp vi : Value), Value.agg #[I b.label, vp, vi, U b.last.kind, I b.last.a, I b.last.yes, I b.last.no] = vB b.label vp vi b.last := fun b vp vi => rfl
  have hup : ∀ (b : Block) s, sUpd 7 0 (.agg #[I 0, .slice none 0 0, .slice none 0 0, U 0, I 0, I 0, I 0]) (vB b.label vp vi b.last) s = .ok (vB b.label vp vi b.last, s) := fun b s => by simp [vB, Res.need, p1.cell, p2.cell]
  rw [hph] at p1
  have l1 : ∀ s, sLen .slice vp s = .ok (I 0, s) := p1.len
  have l2 := p2.len
  simp [-sLen_slice, strict_places_j0_eq hJ, k1, k2 s3 (hX.agree hA), hv, hup, l1]
  refine strict_places_l1_of hF hJ ?_
  rw [strict_places_l1_eq]
  simp [-sLen_slice, strict_places_j3_eq hJ, l2]
  refine Places_l2 hF hJ hro hA p2 hll (fun s h => ?_) b.instrs.length 0 s3.bump (by omega) (hps.mono (by simp))
  rw [strict_places_j6_eq hJ]
  simp
  rw [wrap_id (n := 1) (by omega)]
  refine strict_places_l0_of hF hJ ?_
  rw [strict_places_l0_eq]
  have m1 : s.load1 s1.next 0 = .ok (.map (some (st.next + 1))) := load1_eq h.g2 rfl
  have m2 : s.load1 s2.next 0 = .ok (B (places b.instrs).2) := load1_eq h.g3 rfl
  simp [strict_places_j1_eq hJ, m1, m2]
  rw [← hQ]
  exact ⟨st.next + 1, rfl, h.g1, by have := h.k2; have := h.k3; have := h.k4; show st.next + 1 < s.next; omega, h.ext⟩
end Go.Proofs.Ytenfblnmmmppbaa.Sh

