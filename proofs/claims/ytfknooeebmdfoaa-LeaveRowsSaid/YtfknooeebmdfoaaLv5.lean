/-
  Contract: Row; Awake.
-/
import Derived.Test.YtfknooeebmdfoaaLv4
set_option linter.unusedVariables false
set_option linter.unusedSimpArgs false
set_option linter.unusedSectionVars false
set_option maxRecDepth 100000
namespace Go.Proofs.Ytfknooeebmdfoaa.Sh
open Go Go.AM Go.Proofs

theorem RowS.of_nil {spare : Int} {l out : List Mv} (h : RowS spare l out) : l = [] → out = [] := by
  cases h with
  | nil => exact fun _ => rfl
  | free i hi => intro e; subst e; simp at hi
  | round => intro e; cases e

/-- The moves are turned, and another slice of them is in the box. -/
theorem RI.swap {st0 st st' : St} {b1 b2 c : Nat} {v v' : Value} {l l' : List Mv} {vo : Value} {out : List Instr} {ids : List Nat} (h : RI st0 st b1 b2 c v l vo out ids) (hB : But c st st') (hm : ML st' c v' l') : RI st0 (st'.put b1 (.cells [v'])) b1 b2 c v' l' vo out ids :=
  have k1 := h.k1
  have k2 := h.k2
  have kc := h.kc
  have kl := h.kl
  { ext := ⟨Nat.le_trans h.ext.next hB.next, hB.ro.trans h.ext.ro, fun id hi => by
      have := h.ext.next
      rw [get_put, if_neg (by omega), hB.get id (by omega) (by omega)]; exact h.ext.get id hi⟩
    k1 := k1, k2 := k2, kc := kc, kl := Nat.lt_of_lt_of_le kl hB.next
    g1 := by rw [get_put, if_pos rfl]
    g2 := by rw [get_put, if_neg (by omega), hB.get _ (by omega) (by omega)]; exact h.g2
    mv := hm.keep (by rw [get_put, if_neg (by omega)])
    out := h.out.frame PInstr.fr fun id hi => by have := (h.lo id hi).1; rw [get_put, if_neg (by omega)]; exact hB.get id (h.lo id hi).2.1 (h.lo id hi).2.2
    nd := h.nd
    lo := fun id hi => ⟨(h.lo id hi).1, Nat.lt_of_lt_of_le (h.lo id hi).2.1 hB.next, (h.lo id hi).2.2⟩ }

section
variable {K : Ctx} (hF : Fix pgF K)
include hF
variable {J : JT (Value × St)} (hJ : IsJ K (retK leave_Row_c.results) J) {st0 : St} {b1 b2 c : Nat} {spare : Int} (hro : st0.ro ≤ st0.next) {Q : Value × St → Prop}
include hJ hro

/-- What it comes to. -/
theorem Row_out {st : St} {vo : Value} {out : List Instr} {ids : List Nat} {v : Value} {l : List Mv} (h : RI st0 st b1 b2 c v l vo out ids) : Ok (leave_Row_j1 J (P b2 0) st) fun r => RSl (Rng st0.next r.2.next) r.2 7 RInstr r.1 out ∧ Ext st0 r.2 := by
  rw [leave_Row_j1_eq hJ]
  have hl : st.load1 b2 0 = .ok vo := load1_eq h.g2 rfl
  simp [hl]
  exact ⟨(h.out.rsl (R' := RInstr) fun cs x is _ _ hx => hx.1).in fun id hi => ⟨by have := (h.lo id hi).1; have := h.k1; have := h.k2; omega, (h.lo id hi).2.1⟩, h.ext⟩

/-- All reads of one register become reads of the spare one. -/
theorem Row_l1 {m : Mv} {l : List Mv} (hlen : l.length < 1000) (d : Nat) : ∀ (i : Nat) (st : St) (vo : Value) (out : List Instr) (ids : List Nat), i + d = (m :: l).length →
    RI st0 st b1 b2 c (Sl c 0 (m :: l).length 2) (((m :: l).take i).map (rd spare m.to) ++ (m :: l).drop i) vo out ids →
    (∀ st' vo' ids', RI st0 st' b1 b2 c (Sl c 0 (m :: l).length 2) ((m :: l).map (rd spare m.to)) vo' out ids' → Ok (leave_Row_l0 J (I spare) (P b1 0) (P b2 0) (row2F b2) st') Q) →
    Ok (leave_Row_l1 J (I spare) (P b1 0) (P b2 0) (row2F b2) (I (m :: l).length) (I i) st) Q := by
  generalize hL : m :: l = L
  have hLl : L.length < 1001 := by rw [← hL, List.length_cons]; omega
  have hL0 : 0 < L.length := by rw [← hL]; simp
  have hLm : L[0]? = some m := by rw [← hL]; rfl
  induction d with
  | zero =>
    intro i st vo out ids hi h hk
    refine leave_Row_l1_of hF hJ ?_
    rw [leave_Row_l1_eq]
    have : i = L.length := by omega
    subst this
    rw [List.take_length, List.drop_length, List.append_nil] at h
    simp
    exact hk st vo ids h
  | succ d ih =>
    intro i st vo out ids hi h hk
    refine leave_Row_l1_of hF hJ ?_
    rw [leave_Row_l1_eq]
    have hlt : i < L.length := by omega
    have hlt' : (i : Int) < L.length := by omega
    have hld : ∀ s : St, s.get b1 = some (.cells [Sl c 0 L.length 2]) → s.load1 b1 0 = .ok (Sl c 0 L.length 2) := fun s hs => load1_eq hs rfl
    have hlen2 : (((L.take i).map (rd spare m.to)) ++ L.drop i).length = L.length := by simp; omega
    obtain ⟨z, hz⟩ : ∃ z, MB st c (((L.take i).map (rd spare m.to) ++ L.drop i) ++ z) := by
      rcases h.mv with ⟨h0, _⟩ | ⟨_, z, hz⟩
      · rw [h0] at hlen2; simp at hlen2; omega
      · exact ⟨z, hz⟩
    have hti : ((L.take i).map (rd spare m.to)).length = i := by simp; omega
    have hat : (((L.take i).map (rd spare m.to) ++ L.drop i) ++ z)[i]? = some L[i] := by
      rw [List.append_assoc, List.getElem?_append_right (by omega), hti, Nat.sub_self, List.getElem?_append_left (by simp; omega), List.getElem?_drop]
      simp [hlt]
    obtain ⟨m0, hm0, hmt⟩ : ∃ m0, (((L.take i).map (rd spare m.to) ++ L.drop i) ++ z)[0]? = some m0 ∧ m0.to = m.to := by
      by_cases h0 : i = 0
      · subst h0
        refine ⟨L[0], hat, ?_⟩
        rw [List.getElem?_eq_getElem hL0] at hLm
        cases hLm; rfl
      · refine ⟨rd spare m.to m, ?_, by unfold rd; split <;> rfl⟩
        rw [List.append_assoc, List.getElem?_append_left (by omega), List.getElem?_map, List.getElem?_take, if_pos (by omega), hLm]
        rfl
    have hset : (((L.take i).map (rd spare m.to) ++ L.drop i) ++ z).set i ⟨L[i].to, spare⟩ = ((L.take i).map (rd spare m.to) ++ ⟨L[i].to, spare⟩ :: L.drop (i + 1)) ++ z := by
      rw [List.set_append_left _ _ (by omega), List.set_append_right _ _ (by omega), hti, Nat.sub_self, List.drop_eq_getElem_cons hlt, List.set_cons_zero]
    generalize hms : ((L.take i).map (rd spare m.to) ++ L.drop i) ++ z = ms at hz hat hm0 hset
    have hix0 := mb_ix (c := c) (n := L.length) (i := 0) hL0
    have hmb0 := mb_load0 hz hm0
    have hmbi := mb_load0 hz hat
    rw [hmt] at hmb0
    rw [show 0 * 2 = 0 by rfl] at hix0
    rw [show 0 * 2 = 0 by rfl] at hmb0
    have hrc : st.ro ≤ c := by have := h.ro hro; have := h.k2; have := h.kc; omega
    have hsplit : L.take (i + 1) = L.take i ++ [L[i]] := by rw [List.take_add_one, List.getElem?_eq_getElem hlt]; rfl
    have hdrop : L.drop i = L[i] :: L.drop (i + 1) := List.drop_eq_getElem_cons hlt
    have hnext : ∀ st2 vo2 ids2, RI st0 st2 b1 b2 c (Sl c 0 L.length 2) ((L.take (i + 1)).map (rd spare m.to) ++ L.drop (i + 1)) vo2 out ids2 → Ok (leave_Row_j4 J (I spare) (P b1 0) (P b2 0) (row2F b2) (I L.length) (I i) st2) Q := fun st2 vo2 ids2 h2 => by
      rw [leave_Row_j4_eq hJ]
      simp
      rw [wrap_id (n := (i : Int) + 1) (by omega)]
      exact ih (i + 1) st2 vo2 out ids2 (by omega) h2 hk
    have hix0' : ∀ s, sIxA 2 none (Sl c 0 L.length 2) (I 0) s = .ok (P c 0, s) := hix0
    by_cases hs : L[i].src = m.to
    · have hst := mb_src hz hrc hat spare
      simp [-storeN_def, hlt', leave_Row_j3_eq hJ, hld st h.g1, mb_ix hlt, hmbi.1, hmbi.2, hix0', hmb0.1, hs, hst, Res.need]
      refine hnext _ vo ids (h.but ((But.refl c st).put _) (.inr ⟨?_, z, ?_⟩))
      · congr 1
        simp; omega
      · simp only [MB, get_put, if_true]
        rw [hset, hsplit, List.map_append, List.append_assoc _ _ (L.drop (i + 1))]
        have : rd spare m.to L[i] = ⟨L[i].to, spare⟩ := by simp [rd, hs]
        rw [List.map_singleton, this]
        rfl
    · simp [-storeN_def, hlt', leave_Row_j3_eq hJ, hld st h.g1, mb_ix hlt, hmbi.1, hmbi.2, hix0', hmb0.1, hs]
      refine hnext st vo ids ?_
      have : (L.take (i + 1)).map (rd spare m.to) ++ L.drop (i + 1) = (L.take i).map (rd spare m.to) ++ L.drop i := by
        rw [hsplit, hdrop, List.map_append, List.map_singleton, List.append_assoc]
        have : rd spare m.to L[i] = L[i] := by simp [rd, hs]
        rw [this]
        rfl
      rw [this]; exact h

theorem Row_l0 {l rest : List Mv} (hR : RowS spare l rest) : ∀ (st : St) (v vo : Value) (out : List Instr) (ids : List Nat), RI st0 st b1 b2 c v l vo out ids → out.length + rest.length < 1000 → l.length < 1000 →
    Ok (leave_Row_l0 J (I spare) (P b1 0) (P b2 0) (row2F b2) st) fun r => RSl (Rng st0.next r.2.next) r.2 7 RInstr r.1 (out ++ rest.map copyI) ∧ Ext st0 r.2 := by
  induction hR with
  | nil =>
    intro st v vo out ids h hb hl
    generalize hQ : (fun r : Value × St => RSl (Rng st0.next r.2.next) r.2 7 RInstr r.1 (out ++ ([] : List Mv).map copyI) ∧ Ext st0 r.2) = Q
    refine leave_Row_l0_of hF hJ ?_
    rw [leave_Row_l0_eq]
    have hld : st.load1 b1 0 = .ok v := load1_eq h.g1 rfl
    have hlen : ∀ s, sLen .slice v s = .ok (I 0, s) := (h.mv.rsl (A := fun _ => True) trivial).len
    simp [-sLen_slice, hld, hlen]
    rw [← hQ]
    have := Row_out hF hJ hro h
    simpa using this
  | free i hi hidx hrest ih =>
    rename_i l rest
    intro st v vo out ids h hb hl
    simp only [List.map_cons]
    generalize hQ : (fun r : Value × St => RSl (Rng st0.next r.2.next) r.2 7 RInstr r.1 (out ++ copyI l[i] :: rest.map copyI) ∧ Ext st0 r.2) = Q
    refine leave_Row_l0_of hF hJ ?_
    rw [leave_Row_l0_eq]
    have hpos : 0 < l.length := by omega
    have hr3 : Value.func (.func n_leave_Row_3) #[] #[P b1 0] = row3F b1 := rfl
    have hkb : b1 < st.next := by have := h.k2; have := h.kc; have := h.kl; omega
    have hrs := h.mv.rsl (A := fun id => id = c) rfl
    have hA : ∀ id, id = c → id < st.next := fun id e => by rw [e]; exact h.kl
    have hld : ∀ s : St, s.get b1 = some (.cells [v]) → s.load1 b1 0 = .ok v := fun s hs => load1_eq hs rfl
    have hv : v = Sl c 0 l.length 2 := by
      rcases h.mv with ⟨h0, _⟩ | ⟨hv, _⟩
      · rw [h0] at hi; simp at hi
      · exact hv
    simp [-sLen_slice, hld st h.g1, hrs.len, hpos, hr3, leave_Row_j0_eq hJ]
    refine (MIndex_ok hF (p := free l) hA hrs (by omega) (f := row3F b1) fun m _ s hs => Row3_ok hF (fun id e => Nat.lt_of_lt_of_le (hA id e) hs.next) (Nat.lt_of_lt_of_le hkb hs.next) ((hs.get _ hkb).trans h.g1) (hrs.mono (fun _ h => h) (hs.agree hA) fun _ _ _ h => h) (by omega) m).call fun s hE => ?_
    have h2 := h.mono hE
    rw [hidx]
    obtain ⟨z, hz⟩ : ∃ z, MB s c (l ++ z) := by
      rcases h2.mv with ⟨h0, _⟩ | ⟨_, z, hz⟩
      · rw [h0] at hi; simp at hi
      · exact ⟨z, hz⟩
    have hge : (0 : Int) ≤ i := by omega
    have hat : (l ++ z)[i]? = some l[i] := by rw [List.getElem?_append_left hi]; simp
    have hag : Value.agg (cM l[i]).toArray = vM l[i] := rfl
    subst hv
    simp [-sLen_slice, hge, hld s h2.g1, mb_ix hi, mb_load hz hat, hag]
    refine (Put_ok hF h2 hro l[i] (by simp at hb; omega)).thn fun ⟨r1, s2⟩ ⟨hr1, vo', ids', h3⟩ => ?_
    simp only at hr1 h3 ⊢
    subst hr1
    obtain ⟨z3, hz3⟩ : ∃ z, MB s2 c (l ++ z) := by
      rcases h3.mv with ⟨h0, _⟩ | ⟨_, z, hz⟩
      · rw [h0] at hi; simp at hi
      · exact ⟨z, hz⟩
    have hrc : s2.ro ≤ c := by have := h3.ro hro; have := h3.k2; have := h3.kc; omega
    have hdel := MDelete_ok hF hrc hz3 hi (by omega)
    push_cast at hdel
    simp [-sLen_slice, hld s2 h3.g1]
    rw [wrap_id (n := (i : Int) + 1) (by omega)]
    refine hdel.thn fun ⟨r1, s3⟩ ⟨hr, hB⟩ => ?_
    simp only at hr hB ⊢
    have hrc3 : s3.ro ≤ b1 := by rw [hB.ro]; exact h3.ro hro
    have hg3 : s3.get b1 = some (.cells [Sl c 0 l.length 2]) := by have := h3.k2; have := h3.kc; have := h3.kl; rw [hB.get _ (by omega) (by omega)]; exact h3.g1
    obtain ⟨a, n, k, hsh⟩ := hr.shape
    have hst : sStore 1 (P b1 0) r1 s3 = .ok (nothing, s3.put b1 (.cells [r1])) := by
      subst hsh
      simp [hg3, hrc3, Res.need]
    rw [hst]
    simp
    rw [← hQ]
    -- the box holds the shorter slice
    have h4 := h3.swap hB hr
    have := ih (s3.put b1 (.cells [r1])) r1 vo' _ ids' h4 (by simp at hb ⊢; omega) (by rw [List.length_eraseIdx]; split <;> omega)
    simpa using this
  | round hidx hrest ih =>
    rename_i m l rest
    intro st v vo out ids h hb hl
    simp only [List.map_cons (f := copyI)]
    generalize hQ : (fun r : Value × St => RSl (Rng st0.next r.2.next) r.2 7 RInstr r.1 (out ++ copyI ⟨spare, m.to⟩ :: rest.map copyI) ∧ Ext st0 r.2) = Q
    refine leave_Row_l0_of hF hJ ?_
    rw [leave_Row_l0_eq]
    have hr3 : Value.func (.func n_leave_Row_3) #[] #[P b1 0] = row3F b1 := rfl
    have hkb : b1 < st.next := by have := h.k2; have := h.kc; have := h.kl; omega
    have hrs := h.mv.rsl (A := fun id => id = c) rfl
    have hA : ∀ id, id = c → id < st.next := fun id e => by rw [e]; exact h.kl
    have hld : ∀ s : St, s.get b1 = some (.cells [v]) → s.load1 b1 0 = .ok v := fun s hs => load1_eq hs rfl
    have hv : v = Sl c 0 (m :: l).length 2 := by
      rcases h.mv with ⟨h0, _⟩ | ⟨hv, _⟩
      · cases h0
      · exact hv
    have hlen := hrs.len
    have hll : (m :: l).length < 1001 := by omega
    have hpos : 0 < (m :: l).length := by simp
    generalize hL : m :: l = L at *
    simp [-sLen_slice, hld st h.g1, hlen, hpos, hr3, leave_Row_j0_eq hJ]
    refine (MIndex_ok hF (p := free L) hA hrs (by omega) (f := row3F b1) fun m _ s hs => Row3_ok hF (fun id e => Nat.lt_of_lt_of_le (hA id e) hs.next) (Nat.lt_of_lt_of_le hkb hs.next) ((hs.get _ hkb).trans h.g1) (hrs.mono (fun _ h => h) (hs.agree hA) fun _ _ _ h => h) (by omega) m).call fun s hE => ?_
    have h2 := h.mono hE
    rw [hidx]
    obtain ⟨z, hz⟩ : ∃ z, MB s c (L ++ z) := by
      rcases h2.mv with ⟨h0, _⟩ | ⟨_, z, hz⟩
      · rw [h0] at hpos; simp at hpos
      · exact ⟨z, hz⟩
    have hat : (L ++ z)[0]? = some m := by rw [← hL]; rfl
    have h0 := (mb_load0 hz hat).1
    rw [show 0 * 2 = 0 by rfl] at h0
    have hix : ∀ s, sIxA 2 none (Sl c 0 L.length 2) (I 0) s = .ok (P c 0, s) := fun s => by
      have := mb_ix (c := c) hpos s
      simpa using this
    have hbu : ∀ s, sBuild [I 0, I 0] [(0, 1, I spare), (1, 1, I m.to)] s = .ok (vM ⟨spare, m.to⟩, s) := fun s => rfl
    subst hv
    simp [-sLen_slice, leave_Row_j2_eq hJ, hld s h2.g1, hix, h0, hbu]
    refine (Put_ok hF h2 hro ⟨spare, m.to⟩ (by simp at hb; omega)).thn fun ⟨r1, s2⟩ ⟨hr1, vo', ids', h3⟩ => ?_
    simp only at hr1 h3 ⊢
    subst hr1
    simp [-sLen_slice, hld s2 h3.g1, hlen]
    subst hL
    refine Row_l1 hF hJ hro (by rw [List.length_cons] at hl; omega) (m :: l).length 0 s2 vo' _ ids' (by omega) (by simpa using h3) fun st' vo'' ids'' h' => ?_
    rw [← hQ]
    have := ih st' _ vo'' _ ids'' h' (by simp at hb ⊢; omega) (by simpa using hl)
    simpa using this
end

section
variable {K : Ctx} (hF : Fix pgF K)
include hF

theorem Row_ok {A : Nat → Prop} {st : St} {v : Value} {l out : List Mv} {spare : Int} (hA : ∀ id, A id → id < st.next) (h : RSl A st 2 RMove v l) (hl : l.length < 1000) (hro : st.ro ≤ st.next) (hR : RowS spare (l.filter keep) out) (ho : out.length < 1000) :
    Ok (K.go (.call n_leave_Row [v, I spare]) st) fun r => RSl (Rng st.next r.2.next) r.2 7 RInstr r.1 (out.map copyI) ∧ Ext st r.2 := by
  generalize hQ : (fun r : Value × St => RSl (Rng st.next r.2.next) r.2 7 RInstr r.1 (out.map copyI) ∧ Ext st r.2) = Q
  refine leave_Row_of hF fun J hJ => ?_
  rw [leave_Row_eq]
  obtain ⟨a, n, k, hsh⟩ : ∃ a n k, v = .slice a n k := by
    rcases h with ⟨_, c, rfl⟩ | ⟨b, o, xs, rfl, _⟩ <;> exact ⟨_, _, _, rfl⟩
  have hbx : sBox v st = .ok (P st.next 0, st.alloc (.cells [v])) := by rw [hsh]; rfl
  have hr2 : Value.func (.func n_leave_Row_2) #[] #[P (st.next + 1) 0] = row2F (st.next + 1) := rfl
  have hr1 : Value.func (.func n_leave_Row_1) #[] #[] = row1F := rfl
  generalize hs1 : (st.alloc (.cells [v])).alloc (.cells [.slice none 0 0]) = s1
  have hE1 : Ext st s1 := by rw [← hs1]; simp
  have n1 : s1.next = st.next + 2 := by rw [← hs1]; rfl
  have g1 : s1.get st.next = some (.cells [v]) := by rw [← hs1]; simp
  have g2 : s1.get (st.next + 1) = some (.cells [.slice none 0 0]) := by rw [← hs1]; simp
  have hnw : sNew [.slice none 0 0] (st.alloc (.cells [v])) = .ok (P (st.next + 1) 0, s1) := by rw [← hs1]; rfl
  have hld : ∀ s : St, s.get st.next = some (.cells [v]) → s.load1 st.next 0 = .ok v := fun s hs => load1_eq hs rfl
  clear hs1
  have hro1 : s1.ro ≤ s1.next := hE1.roOk hro
  simp [-sNew_eq, hbx, hnw, hld s1 g1, hr1, hr2]
  refine (MClone_ok hF (A := A) (fun id h => by rw [n1]; have := hA id h; omega) (h.mono (fun _ h => h) (hE1.agree hA) fun _ _ _ h => h) (by omega) hro1).thn fun ⟨r1, s2⟩ ⟨c, c1, c2, c3, hE2⟩ => ?_
  simp only at c2 c3 hE2 ⊢
  have hE2' := hE1.trans hE2
  refine (MDeleteFunc_ok hF c2 (by rw [hE2.ro, hE1.ro]; omega) c3 (by omega)).thn fun ⟨r2, s3⟩ ⟨hm, hB⟩ => ?_
  simp only at hm hB ⊢
  have hEs3 : Ext st s3 := ⟨Nat.le_trans hE2'.next hB.next, hB.ro.trans hE2'.ro, fun id hi => by
    have := hE2'.next
    rw [hB.get id (by omega) (by omega)]; exact hE2'.get id hi⟩
  have g13 : s3.get st.next = some (.cells [v]) := by
    have := hE2.next
    rw [hB.get _ (by omega) (by omega), hE2.get _ (by omega)]; exact g1
  have g23 : s3.get (st.next + 1) = some (.cells [.slice none 0 0]) := by
    have := hE2.next
    rw [hB.get _ (by omega) (by omega), hE2.get _ (by omega)]; exact g2
  have hst : sStore 1 (P st.next 0) r2 s3 = .ok (nothing, s3.put st.next (.cells [r2])) := by
    obtain ⟨a, n, k, hs⟩ := hm.shape
    have : s3.ro ≤ st.next := by rw [hEs3.ro]; exact hro
    subst hs
    simp [g13, this, Res.need]
  rw [hst]
  simp
  rw [← hQ]
  rcases c3 with ⟨rfl, _⟩ | ⟨c3, _⟩
  · cases hR.of_nil rfl
    refine leave_Row_l0_of hF hJ ?_
    rw [leave_Row_l0_eq]
    have hlen : ∀ s, sLen .slice r2 s = .ok (I 0, s) := (hm.rsl (A := fun _ => True) trivial).len
    have l1 : (s3.put st.next (.cells [r2])).load1 st.next 0 = .ok r2 := load1_eq (by rw [get_put, if_pos rfl]) rfl
    have l2 : (s3.put st.next (.cells [r2])).load1 (st.next + 1) 0 = .ok (.slice none 0 0) := load1_eq (by rw [get_put, if_neg (by omega)]; exact g23) rfl
    simp [-sLen_slice, l1, hlen, leave_Row_j1_eq hJ, l2]
    exact ⟨.nil _ _ _ _ _, hEs3.put (Nat.le_refl _) _⟩
  · have hri : RI st (s3.put st.next (.cells [r2])) st.next (st.next + 1) c r2 (l.filter keep) (.slice none 0 0) [] [] :=
      { ext := hEs3.put (Nat.le_refl _) _
        k1 := Nat.le_refl _, k2 := Nat.lt_succ_self _, kc := by omega, kl := Nat.lt_of_lt_of_le c3 hB.next
        g1 := by rw [get_put, if_pos rfl]
        g2 := by rw [get_put, if_neg (by omega)]; exact g23
        mv := hm.keep (by rw [get_put, if_neg (by omega)])
        out := RepSl.nil _
        nd := by simp
        lo := by simp }
    have hfl : (l.filter keep).length ≤ l.length := List.length_filter_le _ _
    have := Row_l0 hF hJ hro hR _ _ _ _ _ hri (by simpa using ho) (by omega)
    simpa using this
end
end Go.Proofs.Ytfknooeebmdfoaa.Sh

