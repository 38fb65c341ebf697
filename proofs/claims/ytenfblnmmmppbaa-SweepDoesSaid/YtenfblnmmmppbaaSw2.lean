/-
  Sweep of a fixed program: Needed.
-/
import Derived.Test.YtenfblnmmmppbaaSw1
set_option linter.unusedVariables false
set_option linter.unusedSimpArgs false
set_option linter.unusedSectionVars false
set_option maxRecDepth 100000
namespace Go.Proofs.Ytenfblnmmmppbaa.Sh
open Go Go.AM Go.Proofs

def needF (ob qb : Nat) : Value := .func (.func n_sweep_Needed_1) #[] #[P ob 0, P qb 0]

/-- What there is while Needed goes on: nothing is needed yet. -/
structure NI (st0 s : St) (ob qb mb fb nb : Nat) (es : List (Value × Value)) : Prop where
  ext : Ext st0 s
  k1 : st0.next ≤ ob
  k2 : ob < qb
  k3 : qb < mb
  k4 : mb < fb
  k5 : fb < nb
  k6 : nb < s.next
  g1 : s.get ob = some (.cells [.slice none 0 0])
  g2 : s.get qb = some (.cells [.slice none 0 0, .map none])
  g3 : s.get mb = some (.map es)
  g4 : s.get fb = some (.cells [.map (some mb)])
  g5 : s.get nb = some (.cells [needF ob qb])
section
variable {st0 s s' : St} {ob qb mb fb nb : Nat} {es : List (Value × Value)}
theorem NI.mono (h : NI st0 s ob qb mb fb nb es) (hE : Ext s s') : NI st0 s' ob qb mb fb nb es :=
  have k1 := h.k1; have k2 := h.k2; have k3 := h.k3; have k4 := h.k4; have k5 := h.k5; have k6 := h.k6
  ⟨h.ext.trans hE, k1, k2, k3, k4, k5, Nat.lt_of_lt_of_le k6 hE.next, by rw [hE.get _ (by omega)]; exact h.g1, by rw [hE.get _ (by omega)]; exact h.g2, by rw [hE.get _ (by omega)]; exact h.g3, by rw [hE.get _ (by omega)]; exact h.g4, by rw [hE.get _ (by omega)]; exact h.g5⟩
theorem NI.map (h : NI st0 s ob qb mb fb nb es) (es' : List (Value × Value)) : NI st0 (s.put mb (.map es')) ob qb mb fb nb es' :=
  have k1 := h.k1; have k2 := h.k2; have k3 := h.k3; have k4 := h.k4; have k5 := h.k5; have k6 := h.k6
  ⟨h.ext.put (by omega) _, k1, k2, k3, k4, k5, k6, by rw [get_put, if_neg (by omega)]; exact h.g1, by rw [get_put, if_neg (by omega)]; exact h.g2, by rw [get_put, if_pos rfl], by rw [get_put, if_neg (by omega)]; exact h.g4, by rw [get_put, if_neg (by omega)]; exact h.g5⟩
theorem NI.loads (h : NI st0 s ob qb mb fb nb es) : s.load1 fb 0 = .ok (.map (some mb)) ∧ s.load1 nb 0 = .ok (needF ob qb) := ⟨load1_eq h.g4 rfl, load1_eq h.g5 rfl⟩
/-- A key that isn't there. -/
theorem NI.look (h : NI st0 s ob qb mb fb nb es) {d : Int} (hd : findK (.cell .int) (I d) es 0 = .ok none) : sLook (.cell .int) (.slice none 0 0) false (.map (some mb)) (I d) s = .ok (.slice none 0 0, s) := by
  simp [sLook, alook, keyOk, cellIs, Res.need, mapOf, St.map, h.g3, hd]
theorem NI.set (h : NI st0 s ob qb mb fb nb es) (hro : st0.ro ≤ st0.next) {d : Int} (hd : findK (.cell .int) (I d) es 0 = .ok none) : sMapSet (.cell .int) (.map (some mb)) (I d) (.slice none 0 0) s = .ok (nothing, s.put mb (.map (es ++ [(I d, .slice none 0 0)]))) := by
  have hr : s.ro ≤ mb := by have := h.k1; have := h.k2; have := h.k3; rw [h.ext.ro]; omega
  simp [sMapSet, amapSet, St.map, h.g3, keyOk, cellIs, Res.need, hr, hd]
end

variable {K : Ctx} (hF : Fix pgF K)
include hF
variable {J : JT (Value × St)} (hJ : IsJ K (retK sweep_Needed_c.results) J) {Q : Value × St → Prop}
include hJ

theorem Needed_step {A : Nat → Prop} {st0 : St} {ob qb mb fb nb : Nat} {v2 v8 v17 v21 v22 v23 v46 : Value} {li : List Instr} (hro : st0.ro ≤ st0.next) (hA : ∀ id, A id → id < st0.next) (hl : RSl A st0 7 RInstr v46 li) (hll : li.length < 1000) {j : Nat} (hj : j < li.length) (hr : li[j].reads = []) (hs : li[j].sets.2 = true) {st : St} {es : List (Value × Value)} (h : NI st0 st ob qb mb fb nb es) (hd : findK (.cell .int) (I li[j].sets.1) es 0 = .ok none)
    (hk : ∀ s, NI st0 s ob qb mb fb nb (es ++ [(I li[j].sets.1, .slice none 0 0)]) → Ok (sweep_Needed_l2 J v2 (P ob 0) (P qb 0) (P fb 0) (P nb 0) v8 v17 v21 v22 v23 v46 (I li.length) (I ((j + 1 : Nat) : Int)) s) Q) :
    Ok (sweep_Needed_l2 J v2 (P ob 0) (P qb 0) (P fb 0) (P nb 0) v8 v17 v21 v22 v23 v46 (I li.length) (I j) st) Q := by
  refine sweep_Needed_l2_of hF hJ ?_
  rw [sweep_Needed_l2_eq]
  have hlt' : (j : Int) < li.length := by omega
  obtain ⟨b, o, cs, k1, k2, k3, -⟩ := hl.at (List.getElem?_eq_getElem hj)
  have k3 : cs = cI li[j] := k3
  subst k3
  have hv : ∀ x, Value.agg (cI x).toArray = vI x := fun x => rfl
  simp [hlt', sweep_Needed_j7_eq hJ, k1, k2 st (h.ext.agree hA), hv]
  refine (Sets_ok hF li[j] _).call fun s2 hE2 => ?_
  have h2 := h.mono (Ext.trans (by simp : Ext st st.bump) hE2)
  simp [Res.of, hs]
  refine (Reads_ok hF li[j] _).thn fun ⟨q1, s3⟩ ⟨g1, hE3⟩ => ?_
  simp only at g1 hE3 ⊢
  rw [hr] at g1
  have h3 := h2.mono hE3
  obtain ⟨l2, m2⟩ := h2.loads
  obtain ⟨l3, m3⟩ := h3.loads
  have f2 := h2.look hd
  have f3 := h3.look hd
  have ap := append_empty g1
  have st3 := h3.set hro hd
  simp [l2, l3, f2, f3, ap, st3, sStays]
  have h4 := h3.map (es ++ [(I li[j].sets.1, .slice none 0 0)])
  generalize hs4 : s3.put mb (.map (es ++ [(I li[j].sets.1, .slice none 0 0)])) = s4 at h4
  rw [sweep_Needed_j9_eq hJ]
  simp
  refine (Does_ok hF li[j] _).call fun s5 hE5 => ?_
  have h5 := h4.mono hE5
  have hfin : ∀ s, NI st0 s ob qb mb fb nb (es ++ [(I li[j].sets.1, .slice none 0 0)]) → Ok (sweep_Needed_j11 J v2 (P ob 0) (P qb 0) (P fb 0) (P nb 0) v8 v17 v21 v22 v23 v46 (I li.length) (I j) s) Q := fun s hs => by
    rw [sweep_Needed_j11_eq hJ]
    simp
    rw [wrap_id (n := (j : Int) + 1) (by omega)]
    exact hk s hs
  cases hdo : (!li[j].pure && !decide (li[j].kind = 5)) with
  | false =>
    simp
    exact hfin s5 h5
  | true =>
    simp
    refine (Reads_ok hF li[j] _).thn fun ⟨q2, s6⟩ ⟨g2, hE6⟩ => ?_
    simp only at g2 hE6 ⊢
    rw [hr] at g2
    have h6 := h5.mono hE6
    obtain ⟨l5, m5⟩ := h5.loads
    obtain ⟨l6, m6⟩ := h6.loads
    have hn : sCall K (needF ob qb) [q2] s6 = .ok (.tuple #[], s6) := Need0_eq hF g2 s6
    have hsv : sameVal (needF ob qb) (needF ob qb) = true := by simp [needF, sameVal, sameOne, sameCell, sameCells]
    simp [m5, m6, sStays, hsv, hn]
    exact hfin s6 h6
end Go.Proofs.Ytenfblnmmmppbaa.Sh

