/-
  Strict programs of one block: Check; Awake.
-/
import Derived.Test.YtenfblnmmmppbaaSt3
set_option linter.unusedVariables false
set_option linter.unusedSimpArgs false
set_option linter.unusedSectionVars false
set_option maxRecDepth 100000
namespace Go.Proofs.Ytenfblnmmmppbaa.Sh
open Go Go.AM Go.Proofs

theorem places_block0 (li : List Instr) : inBlock0 (places li).1 := by
  have : ∀ k, inBlock0 (plTo li k).1 := by
    intro k
    induction k with
    | zero => intro r x h; cases h
    | succ k ih =>
      have e : plTo li (k + 1) = (match li[k]? with | some x => plStep (plTo li k) x k | none => plTo li k) := rfl
      rw [e]
      split
      · unfold plStep
        split
        · intro r x h
          simp only [pget_put] at h
          split at h
          · cases h; rfl
          · exact ih r x h
        · exact ih
      · exact ih
  exact this _

def strictErr (b : Block) : Int := if check [b] = 0 then (if (places b.instrs).2 = false then 8 else if readsOk (places b.instrs).1 b.instrs b.last = true then 0 else 10) else check [b]

variable {K : Ctx} (hF : Fix pgF K)
include hF

theorem same_rsl {α : Type} {A : Nat → Prop} {s : Nat} {R : List Value → α → Prop} {st : St} {v : Value} {l : List α} (h : RSl A st s R v l) : sameVal (.agg #[v]) (.agg #[v]) = true := by
  rcases h with ⟨_, c, rfl⟩ | ⟨b, o, xs, rfl, _⟩ <;> simp [sameVal, sameOne, sameCells, sameCell]

theorem StrictCheck_ok {A : Nat → Prop} {st : St} {v : Value} {b : Block} (hA : ∀ id, A id → id < st.next) (hro : st.ro ≤ st.next) (hp : RProg A st v [b]) (hph : b.phis = []) (hl : b.last.labels = []) (hll : b.instrs.length < 1000) :
    Ok (K.go (.call n_strict_Check [.agg #[v]]) st) fun r => r.1 = I (strictErr b) ∧ Ext st r.2 := by
  generalize hQ : (fun r : Value × St => r.1 = I (strictErr b) ∧ Ext st r.2) = Q
  refine strict_Check_of hF fun J hJ => ?_
  rw [strict_Check_eq]
  have hE0 : Ext st st.bump := by simp
  have hA0 : ∀ s, Ext st s → ∀ id, A id → id < s.next := fun s hE id h => Nat.lt_of_lt_of_le (hA id h) hE.next
  have R : ∀ s, Ext st s → RProg A s v [b] := fun s hE => hp.mono (hE.agree hA)
  have hfc : ∀ v s, sField (some 1) 0 (.agg #[v]) s = .ok (.agg #[v], s) := fun v s => rfl
  have hc : count [b] < 2 ^ 62 := by simp [count, hph]; omega
  simp [hfc]
  refine (Check_ok hF (hA0 _ hE0) (R _ hE0) hc (fun x hx g hg => by rw [List.mem_singleton.1 hx, hph] at hg; cases hg) (hE0.roOk hro)).call fun s1 hE1 => ?_
  have hE1 := hE0.trans hE1
  unfold strictErr at hQ
  by_cases hck : check [b] = 0
  · rw [if_pos hck] at hQ
    rw [hck]
    simp [strict_Check_j0_eq hJ, hfc]
    refine (GOf_ok hF (hA0 _ hE1) (hE1.roOk hro) (R _ hE1) hl).thn fun ⟨r1, s2⟩ ⟨bh, ah, e1, e2, hE2⟩ => ?_
    simp only at e1 e2 hE2 ⊢
    subst e1
    have hE2 := hE1.trans hE2
    have hE2b : Ext st s2.bump := hE2.bump
    have e2b : G1 s2.bump bh ah := e2.mono (by simp)
    simp
    refine (Reached_ok hF e2b (hE2b.roOk hro)).thn fun ⟨r1, s3⟩ ⟨c, e3, e4, hE3⟩ => ?_
    simp only at e3 e4 hE3 ⊢
    subst e3
    have hE3' := hE2b.trans hE3
    have g3 := e2b.mono hE3
    have hl0 : ∀ s, sLen .slice (.slice none 0 0) s = .ok (I 0, s) := fun s => rfl
    simp [-sLen_slice, ContainsB_ok hF e4]
    refine (Ahead_ok hF g3).call fun s4 hE4 => ?_
    have hE4' := hE3'.trans hE4
    have g4 := g3.mono hE4
    simp [-sLen_slice, hl0, strict_Check_j1_eq hJ, hfc]
    refine (Places_ok hF (hA0 _ hE4') (hE4'.roOk hro) (R _ hE4') hph hll).thn fun ⟨r1, s5⟩ ⟨m, e5, e6, e7, hE5⟩ => ?_
    simp only at e5 e6 e7 hE5 ⊢
    subst e5
    have hE5' := hE4'.trans hE5
    have g5 := g4.mono hE5
    cases hone : (places b.instrs).2 with
    | false =>
      simp [Res.of]
      rw [← hQ, if_pos hone]
      exact ⟨rfl, hE5'⟩
    | true =>
      rw [if_neg (by rw [hone]; decide)] at hQ
      have hlen : ∀ s, sLen .slice v s = .ok (I 1, s) := RSl.len hp
      simp [-sLen_slice, Res.of, strict_Check_j2_eq hJ, hlen]
      refine strict_Check_l0_of hF hJ ?_
      rw [strict_Check_l0_eq]
      obtain ⟨bb, o, cs, k1, k2, ⟨vp, vi, rfl, p1, p2⟩, -⟩ := RSl.at hp (i := 0) (x := b) rfl
      have k1 : ∀ s, sIxA 7 none v (I 0) s = .ok (P bb o, s) := k1
      have hv : ∀ (b : Block) (vp vi : Value), Value.agg #[I b.label, vp, vi, U b.last.kind, I b.last.a, I b.last.yes, I b.last.no] = vB b.label vp vi b.last := fun b vp vi => rfl
      have hup : ∀ (b : Block) s, sUpd 7 0 (.agg #[I 0, .slice none 0 0, .slice none 0 0, U 0, I 0, I 0, I 0]) (vB b.label vp vi b.last) s = .ok (vB b.label vp vi b.last, s) := fun b s => by simp [vB, Res.need, p1.cell, p2.cell]
      rw [hph] at p1
      have l1 : ∀ s, sLen .slice vp s = .ok (I 0, s) := p1.len
      simp [-sLen_slice, strict_Check_j3_eq hJ, k1, k2 s5 (hE5'.agree hA), hv, hup]
      have g5b : G1 s5.bump bh ah := g5.mono (by simp)
      refine (Ahead_ok hF g5b).call fun s6 hE6 => ?_
      have hE56 : Ext s5 s6 := Ext.trans (by simp) hE6
      simp [-sLen_slice, hl0]
      refine strict_Check_l1_of hF hJ ?_
      rw [strict_Check_l1_eq]
      simp [-sLen_slice, strict_Check_j7_eq hJ, SortNil_eq hF, l1]
      refine strict_Check_l2_of hF hJ ?_
      rw [strict_Check_l2_eq]
      simp [strict_Check_j10_eq hJ]
      rw [wrap_id (n := 1) (by omega)]
      refine strict_Check_l0_of hF hJ ?_
      rw [strict_Check_l0_eq]
      simp [strict_Check_j4_eq hJ]
      refine (DomOf_ok hF (g5.mono hE56) ((hE5'.trans hE56).roOk hro)).thn fun ⟨r1, s7⟩ ⟨ub, lb, db, e8, _, _, hE7⟩ => ?_
      simp only at e8 hE7 ⊢
      subst e8
      have hE57 := hE56.trans hE7
      have hX := hE5'.trans hE57
      have hsv : sameVal (.agg #[v]) (.agg #[v]) = true := same_rsl hF hp
      simp [hfc, hsv]
      refine (Reads1_ok hF (vt := .nilIface) (places_block0 b.instrs) (by rw [hE57.get _ e7]; exact e6) (Nat.lt_of_lt_of_le e7 hE57.next) (hA0 _ hX) (hX.roOk hro) (R _ hX) hph hll).call fun s8 hE8 => ?_
      cases hrd : readsOk (places b.instrs).1 b.instrs b.last with
      | true =>
        simp [strict_Check_j5_eq hJ]
        rw [← hQ, if_pos hrd]
        exact ⟨rfl, hX.trans hE8⟩
      | false =>
        simp
        rw [← hQ, if_neg (by rw [hrd]; decide)]
        exact ⟨rfl, hX.trans hE8⟩
  · rw [if_neg hck] at hQ
    simp [hck]
    rw [← hQ]
    exact ⟨rfl, hE1⟩

theorem StrictCheck0_ok (c : Nat) (st : St) (hro : st.ro ≤ st.next) : Ok (K.go (.call n_strict_Check [.agg #[.slice none 0 c]]) st) fun r => r.1 = I 7 ∧ Ext st r.2 := by
  generalize hQ : (fun r : Value × St => r.1 = I 7 ∧ Ext st r.2) = Q
  refine strict_Check_of hF fun J hJ => ?_
  rw [strict_Check_eq]
  have hE0 : Ext st st.bump := by simp
  have hfc : ∀ v s, sField (some 1) 0 (.agg #[v]) s = .ok (.agg #[v], s) := fun v s => rfl
  simp [hfc]
  refine (Check_ok hF (A := fun _ => False) (p := []) (fun id h => h.elim) (.nil _ _ _ _ _) (by decide) (by simp) (hE0.roOk hro)).call fun s1 hE1 => ?_
  have hc : check [] = 7 := rfl
  rw [hc]
  simp
  rw [← hQ]
  exact ⟨rfl, hE0.trans hE1⟩

/-- A program of one block, just laid down. -/
theorem one_prog {st : St} {c d : Nat} {li : List Instr} {m : Last} {A : Nat → Prop} (hc : st.get c = some (.cells (li.map cI).flatten)) (hd : st.get d = some (.cells (cB 0 (.slice none 0 0) (Sl c 0 li.length 7) m))) (hAc : A c) (hAd : A d) : RProg A st (Sl d 0 1 7) [⟨0, [], li, m⟩] :=
  .inr ⟨d, 0, _, rfl, hAd, hd, by simp [cB], fun i x hx => by
    cases i with
    | zero =>
      simp at hx
      subst hx
      exact ⟨.slice none 0 0, Sl c 0 li.length 7, rfl, .nil _ _ _ _ _, rsl_instrs li hc hAc⟩
    | succ i => simp at hx⟩

theorem Awake17_ok (st : St) (hro : st.ro ≤ st.next) : Ok (K.go (.call n_refinerylaw17_Awake []) st) fun r => r.1 = B true ∧ Ext st r.2 := by
  generalize hQ : (fun r : Value × St => r.1 = B true ∧ Ext st r.2) = Q
  refine refinerylaw17_Awake_of hF fun J hJ => ?_
  rw [refinerylaw17_Awake_eq]
  have b1 : ∀ s, sBuild [U 0, U 0, I 0, I 0, I 0, I 0, I 0] [(2, 1, I 1)] s = .ok (vI ⟨0, 0, 1, 0, 0, 0, 0⟩, s) := fun s => rfl
  have b3 : sLit 7 2 [U 0, U 0, I 0, I 0, I 0, I 0, I 0, U 0, U 0, I 0, I 0, I 0, I 0, I 0] [(0, 7, vI ⟨0, 0, 1, 0, 0, 0, 0⟩), (7, 7, vI ⟨0, 0, 1, 0, 0, 0, 0⟩)] st = .ok (Sl st.next 0 2 7, st.alloc (.cells ([(⟨0, 0, 1, 0, 0, 0, 0⟩ : Instr), ⟨0, 0, 1, 0, 0, 0, 0⟩].map cI).flatten)) := rfl
  have b4 : ∀ s, sBuild [U 0, I 0, I 0, I 0] [(0, 1, U 2), (1, 1, I 1)] s = .ok (vL ⟨2, 1, 0, 0⟩, s) := fun s => rfl
  have b5 : ∀ s, sBuild [I 0, .slice none 0 0, .slice none 0 0, U 0, I 0, I 0, I 0] [(2, 1, Sl st.next 0 2 7), (3, 4, vL ⟨2, 1, 0, 0⟩)] s = .ok (vB 0 (.slice none 0 0) (Sl st.next 0 2 7) ⟨2, 1, 0, 0⟩, s) := fun s => rfl
  generalize hs1 : st.alloc (.cells ([(⟨0, 0, 1, 0, 0, 0, 0⟩ : Instr), ⟨0, 0, 1, 0, 0, 0, 0⟩].map cI).flatten) = s1 at b3
  have n1 : s1.next = st.next + 1 := by rw [← hs1]; rfl
  have E1 : Ext st s1 := by rw [← hs1]; simp
  have g1 : s1.get st.next = some (.cells ([(⟨0, 0, 1, 0, 0, 0, 0⟩ : Instr), ⟨0, 0, 1, 0, 0, 0, 0⟩].map cI).flatten) := by rw [← hs1, get_alloc, if_pos rfl]
  clear hs1
  have b6 : ∀ v s, sBuild [.slice none 0 0] [(0, 1, .slice v 1 7)] s = .ok (.agg #[.slice v 1 7], s) := fun v s => rfl
  have b7 : ∀ s, sBuild [.slice none 0 0] [] s = .ok (.agg #[.slice none 0 0], s) := fun s => rfl
  have hfc : ∀ v s, sField (some 1) 0 (.agg #[v]) s = .ok (.agg #[v], s) := fun v s => rfl
  have hE2 : Ext s1 ((s1.alloc (.cells (cB 0 (.slice none 0 0) (Sl st.next 0 2 7) ⟨2, 1, 0, 0⟩))).bump) := by simp
  have g2 : ((s1.alloc (.cells (cB 0 (.slice none 0 0) (Sl st.next 0 2 7) ⟨2, 1, 0, 0⟩))).bump).get s1.next = some (.cells (cB 0 (.slice none 0 0) (Sl st.next 0 2 7) ⟨2, 1, 0, 0⟩)) := by
    rw [get_bump, if_neg (by simp), get_alloc, if_pos rfl]
  have hu0 : ∀ s, sUpd 1 0 (.agg #[.slice none 0 0]) (.agg #[Sl s1.next 0 1 7]) s = .ok (.agg #[Sl s1.next 0 1 7], s) := fun s => by simp [Res.need]
  simp [b1, b3, b4, b5, b6, hu0, hfc]
  generalize hs3 : (s1.alloc (.cells (cB 0 (.slice none 0 0) (Sl st.next 0 2 7) ⟨2, 1, 0, 0⟩))).bump = s3 at *
  have n3 : s3.next = st.next + 3 := by rw [← hs3]; simp [n1]
  have hX := E1.trans hE2
  have hp : RProg (Bel s3.next) s3 (Sl s1.next 0 1 7) [⟨0, [], [⟨0, 0, 1, 0, 0, 0, 0⟩, ⟨0, 0, 1, 0, 0, 0, 0⟩], ⟨2, 1, 0, 0⟩⟩] := one_prog hF (c := st.next) (by rw [hE2.get _ (by omega)]; exact g1) g2 (by show st.next < s3.next; omega) (by show s1.next < s3.next; omega)
  refine (StrictCheck_ok hF (fun id h => h) (hX.roOk hro) hp rfl rfl (by decide)).call fun s4 hE4 => ?_
  have h8 : strictErr ⟨0, [], [⟨0, 0, 1, 0, 0, 0, 0⟩, ⟨0, 0, 1, 0, 0, 0, 0⟩], ⟨2, 1, 0, 0⟩⟩ = 8 := by decide
  rw [h8]
  simp [b7]
  refine (StrictCheck0_ok hF 0 s4 ((hX.trans hE4).roOk hro)).call fun s5 hE5 => ?_
  simp
  rw [← hQ]
  exact ⟨rfl, (hX.trans hE4).trans hE5⟩
end Go.Proofs.Ytenfblnmmmppbaa.Sh

