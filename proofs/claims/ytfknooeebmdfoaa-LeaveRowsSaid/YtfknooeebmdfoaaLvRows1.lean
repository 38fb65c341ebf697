/-
  LeaveRows: the rounds, counted.
-/
import Derived.Test.YtfknooeebmdfoaaLvRows0
set_option linter.unusedVariables false
set_option linter.unusedSimpArgs false
set_option linter.unusedSectionVars false
set_option maxRecDepth 100000
namespace Go.Proofs.Ytfknooeebmdfoaa.Sh
open Go Go.AM Go.Proofs

variable {K : Ctx} (hF : Fix pgF K)
include hF
variable {J : JT (Value × St)} (hJ : IsJ K (retK refinerylaw22_LeaveRows_c.results) J) {Q : Value × St → Prop}
include hJ

section
variable {st1 : St} {mt ms n : Nat} {v0 v1 v5 : Value} {l : List Mv}

/-- All of one round are seen. -/
theorem Rows_l5 {st2 : St} {A : Nat → Prop} {v : Value} {d : List Int} {w i : Int} (hd : RSl A st2 1 RInt v d) (hA : ¬ A ms) (hdl : d.length < 1000) (hro : st1.ro ≤ ms) (hms : st1.next ≤ ms) (k : Nat) : ∀ (j : Nat) (st : St) (s : List Int), j + k = d.length → Agree A st2 st → Ext st1 st → ms < st.next → st.get ms = some (mSet s) →
    (∀ st', Ext st1 st' → ms < st'.next → st'.get ms = some (mSet ((d.drop j).foldl addS s)) → Ok (refinerylaw22_LeaveRows_j9 J v0 v1 v5 (.map (some mt)) (I w) (.map (some ms)) (I n) (I i) st') Q) →
    Ok (refinerylaw22_LeaveRows_l5 J v0 v1 v5 (.map (some mt)) (I w) (.map (some ms)) (I n) (I i) v (I d.length) (I j) st) Q := by
  induction k with
  | zero =>
    intro j st s hj hE hX hlt hg hk
    refine refinerylaw22_LeaveRows_l5_of hF hJ ?_
    rw [refinerylaw22_LeaveRows_l5_eq]
    have : j = d.length := by omega
    subst this
    rw [List.drop_length] at hk
    simp [refinerylaw22_LeaveRows_j19_eq hJ]
    exact hk st hX hlt hg
  | succ k ih =>
    intro j st s hj hE hX hlt hg hk
    refine refinerylaw22_LeaveRows_l5_of hF hJ ?_
    rw [refinerylaw22_LeaveRows_l5_eq]
    have hjl : j < d.length := by omega
    have hjl' : (j : Int) < d.length := by omega
    obtain ⟨b, o, hix, hld, _⟩ := RSl.at1 (f := I) hd (List.getElem?_eq_getElem hjl)
    have hset := sMapSet_add hg d[j] (by rw [hX.ro]; exact hro)
    rw [List.drop_eq_getElem_cons hjl, List.foldl_cons] at hk
    simp [hjl', refinerylaw22_LeaveRows_j18_eq hJ, refinerylaw22_LeaveRows_j21_eq hJ, hix, hld st hE, hset]
    rw [wrap_id (n := (j : Int) + 1) (by omega)]
    exact ih (j + 1) _ _ (by omega) (hE.put hA _) (hX.put hms _) hlt (by rw [get_put, if_pos rfl]) hk

/-- One way, from its beginning. -/
theorem Rows_l2 (hg1 : st1.get mt = some (mTo l)) (hmt : mt < st1.next) (hms : st1.next ≤ ms) (hro : st1.ro ≤ st1.next) (hn : n < 100) (hlen : ∀ s, sLen .slice v0 s = .ok (I n, s)) {st2 : St} (hX2 : Ext st1 st2) (hlt : ms < st2.next) {s : List Int} (hs : st2.get ms = some (mSet s)) {w : Nat} (hw : w < 1000) {i : Nat} (hi : i < 100)
    (F : Nat) : ∀ (k : Nat) (x : Int) (st : St) (v : Value) (mine : List Int), k + F = n + 1 → mine.length = k → Ext st2 st → Own st2.next st 1 v (mine.map I) →
    (∀ st' s' (w' : Nat), Ext st1 st' → ms < st'.next → st'.get ms = some (mSet s') → (match walk (cut (gr l) s) i F x with | none => s' = s ∧ w' = w | some d => s' = (mine ++ d).foldl addS s ∧ w' = w + if 1 < (mine ++ d).length then 1 else 0) →
      Ok (refinerylaw22_LeaveRows_j9 J v0 v1 v5 (.map (some mt)) (I w') (.map (some ms)) (I n) (I i) st') Q) →
    Ok (refinerylaw22_LeaveRows_l2 J v0 v1 v5 (.map (some mt)) (I w) (.map (some ms)) (I i) (I x) (I k) v (I n) (I i) st) Q := by
  have hend : ∀ st, Ext st2 st → (∀ st' s' (w' : Nat), Ext st1 st' → ms < st'.next → st'.get ms = some (mSet s') → (s' = s ∧ w' = w) → Ok (refinerylaw22_LeaveRows_j9 J v0 v1 v5 (.map (some mt)) (I w') (.map (some ms)) (I n) (I i) st') Q) → Ok (refinerylaw22_LeaveRows_j9 J v0 v1 v5 (.map (some mt)) (I w) (.map (some ms)) (I n) (I i) st) Q := fun st hE hk =>
    hk st s w (hX2.trans hE) (Nat.lt_of_lt_of_le hlt hE.next) ((hE.get _ hlt).trans hs) ⟨rfl, rfl⟩
  induction F with
  | zero =>
    intro k x st v mine hk hm hE ho hfin
    refine refinerylaw22_LeaveRows_l2_of hF hJ ?_
    rw [refinerylaw22_LeaveRows_l2_eq]
    have : ¬ (k : Int) ≤ n := by omega
    simp [-sLen_slice, hlen, this]
    exact hend st hE hfin
  | succ F ih =>
    intro k x st v mine hk hm hE ho hfin
    refine refinerylaw22_LeaveRows_l2_of hF hJ ?_
    rw [refinerylaw22_LeaveRows_l2_eq]
    have hle : (k : Int) ≤ n := by omega
    have hX := hX2.trans hE
    have hgt : st.get mt = some (mTo l) := by rw [hX.get _ hmt]; exact hg1
    have hgs : st.get ms = some (mSet s) := (hE.get _ hlt).trans hs
    have hlook := sLook_to hgt x
    cases hg : gr l x with
    | none =>
      rw [hg] at hlook
      have hw : walk (cut (gr l) s) i (F + 1) x = none := walk_stop (by unfold cut; split <;> simp [hg])
      rw [hw] at hfin
      simp [-sLen_slice, hlen, Int.ofNat_le.1 hle, refinerylaw22_LeaveRows_j8_eq hJ, hlook, Res.of]
      exact hend st hE hfin
    | some t =>
      rw [hg] at hlook
      by_cases hx : x ∈ s
      · have hw : walk (cut (gr l) s) i (F + 1) x = none := walk_stop (by unfold cut; rw [if_pos hx])
        rw [hw] at hfin
        simp [-sLen_slice, hlen, Int.ofNat_le.1 hle, refinerylaw22_LeaveRows_j8_eq hJ, hlook, Res.of, sLook_set hgs, hx]
        exact hend st hE hfin
      · have hc : cut (gr l) s x = some t := by unfold cut; rw [if_neg hx]; exact hg
        rw [walk_step hc] at hfin
        have hro2 : st2.ro ≤ st2.next := hX2.roOk hro
        obtain ⟨v', st', e1, e2, e3, _⟩ := Own.push (bytes := 8) (new := [I x]) hE hro2 ho (by decide) rfl rfl (by rw [List.length_map]; omega)
        have e2 : Own st2.next st' 1 v' ((mine ++ [x]).map I) := by rw [List.map_append]; exact e2
        have hmine : ∀ s, sLen .slice v' s = .ok (I ((mine ++ [x]).length : Nat), s) := fun s => e2.len (by decide) (by simp) s
        simp [-sLen_slice, hlen, Int.ofNat_le.1 hle, refinerylaw22_LeaveRows_j8_eq hJ, hlook, Res.of, sLook_set hgs, hx, refinerylaw22_LeaveRows_j10_eq hJ, e1]
        have hX' := hX2.trans e3
        have hlt' : ms < st'.next := Nat.lt_of_lt_of_le hlt e3.next
        have hgs' : st'.get ms = some (mSet s) := (e3.get _ hlt).trans hs
        by_cases ht : t = i
        · rw [if_pos ht] at hfin
          have hrs := Own.rsl1 (f := I) e2
          have hnA : ¬ Rng st2.next st'.next ms := fun h => by have := h.1; omega
          have hml : (mine ++ [x]).length < 1000 := by simp; omega
          have hend5 : ∀ (w' : Nat), w' = w + (if 1 < (mine ++ [x]).length then 1 else 0) → Ok (refinerylaw22_LeaveRows_j13 J v0 v1 v5 (.map (some mt)) (I w') (.map (some ms)) v' (I n) (I i) st') Q := fun w' hw' => by
            rw [refinerylaw22_LeaveRows_j13_eq hJ]
            simp [-sLen_slice, hmine]
            have := Rows_l5 hF hJ (Q := Q) (v0 := v0) (v1 := v1) (v5 := v5) (mt := mt) (ms := ms) (n := n) (w := w') (i := i) hrs hnA hml (Nat.le_trans hro hms) hms (mine ++ [x]).length 0 st' s (by omega) (Agree.refl _ _) hX' hlt' hgs' fun st'' q1 q2 q3 => hfin st'' _ w' q1 q2 q3 ⟨rfl, hw'⟩
            simpa using this
          by_cases h1 : 1 < (mine ++ [x]).length
          · have hw2 : IntKind.i64.wrap ((w : Int) + 1) = ((w + 1 : Nat) : Int) := by rw [wrap_id (by omega)]; simp
            have := hend5 (w + 1) (by rw [if_pos h1])
            simp [-sLen_slice, ht, hmine]
            rw [List.length_append, List.length_singleton] at h1
            have h1' : (1 : Int) < (mine.length : Int) + 1 := by omega
            simp [h1', hw2]
            simpa using this
          · have := hend5 w (by rw [if_neg h1]; rfl)
            simp [-sLen_slice, ht, hmine]
            rw [List.length_append, List.length_singleton] at h1
            have h1' : ¬ (1 : Int) < (mine.length : Int) + 1 := by omega
            simp [h1']
            simpa using this
        · rw [if_neg ht] at hfin
          have ht' : ¬ t = (i : Int) := ht
          simp [ht', refinerylaw22_LeaveRows_j14_eq hJ]
          rw [wrap_id (n := (k : Int) + 1) (by omega)]
          refine ih (k + 1) t st' v' (mine ++ [x]) (by omega) (by simp [hm]) e3 e2 fun st'' s' w' q1 q2 q3 q4 => hfin st'' s' w' q1 q2 q3 ?_
          cases hwk : walk (cut (gr l) s) i F t with
          | none => rw [hwk] at q4; exact q4
          | some d =>
            rw [hwk] at q4
            simp only [Option.map_some, List.append_assoc, List.singleton_append] at q4 ⊢
            exact q4

theorem Rows_l1 (hg1 : st1.get mt = some (mTo l)) (hmt : mt < st1.next) (hms : st1.next ≤ ms) (hro : st1.ro ≤ st1.next) (hn : n < 13) (hlen : ∀ s, sLen .slice v0 s = .ok (I n, s))
    (d : Nat) : ∀ (i : Nat) (st : St) (s : List Int) (w : Nat), i + d = n → w ≤ 12 + i → Ext st1 st → ms < st.next → st.get ms = some (mSet s) →
    (∀ st', Ext st1 st' → Ok (refinerylaw22_LeaveRows_j6 J v1 v5 (.map (some mt)) (I ((w + cntL (n + 1) (gr l) ((List.range' i d).map fun (i : Nat) => (i : Int)) s : Nat) : Int)) st') Q) →
    Ok (refinerylaw22_LeaveRows_l1 J v0 v1 v5 (.map (some mt)) (I w) (.map (some ms)) (I n) (I i) st) Q := by
  induction d with
  | zero =>
    intro i st s w hi hw hX hlt hg hk
    refine refinerylaw22_LeaveRows_l1_of hF hJ ?_
    rw [refinerylaw22_LeaveRows_l1_eq]
    have : i = n := by omega
    subst this
    simp
    exact hk st hX
  | succ d ih =>
    intro i st s w hi hw hX hlt hg hk
    refine refinerylaw22_LeaveRows_l1_of hF hJ ?_
    rw [refinerylaw22_LeaveRows_l1_eq]
    have hlt' : (i : Int) < n := by omega
    have hltn : i < n := by omega
    simp [hltn, refinerylaw22_LeaveRows_j5_eq hJ]
    have := Rows_l2 hF hJ (Q := Q) (v1 := v1) (v5 := v5) (n := n) hg1 hmt hms hro (by omega) hlen hX hlt hg (w := w) (by omega) (i := i) (by omega) (n + 1) 0 i st (.slice none 0 0) [] (by omega) rfl (Ext.refl _) (.nil _ _ _ _) fun st' s' w' q1 q2 q3 q4 => ?_
    · simpa using this
    rw [refinerylaw22_LeaveRows_j9_eq hJ]
    simp
    rw [wrap_id (n := (i : Int) + 1) (by omega)]
    have hr : List.range' i (d + 1) = i :: List.range' (i + 1) d := rfl
    rw [hr, List.map_cons, cntL] at hk
    cases hw2 : walk (cut (gr l) s) i (n + 1) i with
    | none =>
      rw [hw2] at q4 hk
      obtain ⟨rfl, rfl⟩ := q4
      exact ih (i + 1) st' s' w' (by omega) (by omega) q1 q2 q3 hk
    | some c =>
      rw [hw2] at q4 hk
      simp only [List.nil_append] at q4
      obtain ⟨rfl, rfl⟩ := q4
      simp only [← Nat.add_assoc] at hk
      exact ih (i + 1) st' _ _ (by omega) (by split <;> omega) q1 q2 q3 hk
end
end Go.Proofs.Ytfknooeebmdfoaa.Sh

