/-
  LeaveRows: whatever it is given, the law's function answers true.
-/
import Derived.Test.YtfknooeebmdfoaaLvRows1
set_option linter.unusedVariables false
set_option linter.unusedSimpArgs false
set_option linter.unusedSectionVars false
set_option maxRecDepth 100000
namespace Go.Proofs.Ytfknooeebmdfoaa.Sh
open Go Go.AM Go.Proofs

/-- Registers, in a block. -/
def arr (r : Int → Int) : List Value := (List.range 21).map fun (j : Nat) => I (r j)
theorem arr_load {st : St} {b i : Nat} {r : Int → Int} (h : st.get b = some (.cells (arr r))) (hi : i < 21) : st.load1 b i = .ok (I (r i)) :=
  load1_eq h (by simp [arr, hi])
theorem arr_store {st : St} {b i : Nat} {r : Int → Int} (h : st.get b = some (.cells (arr r))) (hro : st.ro ≤ b) (hi : i < 21) (x : Int) : st.storeN b i [I x] = .ok (st.put b (.cells (arr (upd r i x)))) := by
  have hs : splice (arr r) i [I x] = arr (upd r i x) := by
    have : splice (arr r) i [I x] = (arr r).set i (I x) := by
      rw [List.set_eq_take_append_cons_drop, if_pos (by simp [arr, hi])]
      simp
    rw [this]
    refine List.ext_getElem (by simp [arr]) fun j h1 h2 => ?_
    have hj : j < 21 := by simpa [arr] using h2
    rw [List.getElem_set]
    by_cases he : i = j
    · subst he; simp [arr, upd]
    · have : ¬ (j : Int) = (i : Int) := by omega
      simp [arr, upd, he, this]
  rw [storeN_def, h]
  simp only [need_dec hro, need_dec (show i + [I x].length ≤ (arr r).length by simp [arr]; omega), hs, Res.bind_ok]
  rfl
theorem arr_ix {b i : Nat} (hi : i < 21) (st : St) : sIxA 1 (some 21) (P b 0) (I i) st = .ok (P b i, st) := by
  have : (i : Int) < 21 := by omega
  simp [sIxA, index, Res.need, this]
theorem arr_congr {r r' : Int → Int} (h : ∀ j : Nat, j < 21 → r j = r' j) : arr r = arr r' := by
  unfold arr
  refine List.map_congr_left fun j hj => ?_
  rw [h j (List.mem_range.1 hj)]

theorem rsl_all' {α : Type} {A : Nat → Prop} {st : St} {s : Nat} {R : List Value → α → Prop} {p : α → Prop} {v : Value} {l : List α} (h : RSl A st s (fun cs x => R cs x ∧ p x) v l) : ∀ x ∈ l, p x := by
  rcases h with ⟨rfl, _⟩ | ⟨b, o, xs, rfl, h2, h3, h4, h5⟩
  · simp
  · intro x hx
    obtain ⟨i, hi⟩ := List.mem_iff_getElem?.1 hx
    exact (h5 i x hi).2

variable {K : Ctx} (hF : Fix pgF K)
include hF
variable {J : JT (Value × St)} (hJ : IsJ K (retK refinerylaw22_LeaveRows_c.results) J)
include hJ

/-- The registers at first. -/
def wreg (n j : Int) : Int := IntKind.i64.wrap (n + IntKind.i64.wrap (j * j))

theorem Rows_l3 {Q : Value × St → Prop} {st1 : St} {n : Int} {v6 v20 : Value} {ra : Nat} (hra : st1.next ≤ ra) (hro : st1.ro ≤ ra) (hfin : ∀ st r, Ext st1 st → ra < st.next → st.get ra = some (.cells (arr r)) → (∀ j : Nat, j < 21 → r j = wreg n j) → Ok (refinerylaw22_LeaveRows_j12 J v6 v20 (P ra 0) st) Q)
    (d : Nat) : ∀ (i : Nat) (st : St) (r : Int → Int), i + d = 21 → Ext st1 st → ra < st.next → st.get ra = some (.cells (arr r)) → (∀ j : Nat, j < i → r j = wreg n j) →
    Ok (refinerylaw22_LeaveRows_l3 J (I n) v6 v20 (P ra 0) (I i) st) Q := by
  induction d with
  | zero =>
    intro i st r hi hX hlt hg hr
    refine refinerylaw22_LeaveRows_l3_of hF hJ ?_
    rw [refinerylaw22_LeaveRows_l3_eq]
    have : i = 21 := by omega
    subst this
    simp
    exact hfin st r hX hlt hg hr
  | succ d ih =>
    intro i st r hi hX hlt hg hr
    refine refinerylaw22_LeaveRows_l3_of hF hJ ?_
    rw [refinerylaw22_LeaveRows_l3_eq]
    have hi21 : i < 21 := by omega
    have hi' : (i : Int) < 21 := by omega
    have hst := arr_store hg (by rw [hX.ro]; exact hro) hi21 (wreg n i)
    have hw : IntKind.i64.wrap (n + IntKind.i64.wrap ((i : Int) * i)) = wreg n i := rfl
    simp [-storeN_def, hi', refinerylaw22_LeaveRows_j11_eq hJ, refinerylaw22_LeaveRows_j15_eq hJ, arr_ix hi21, hw, hst, Res.need]
    rw [wrap_id (n := (i : Int) + 1) (by omega)]
    refine ih (i + 1) _ (upd r i (wreg n i)) (by omega) (hX.put hra _) hlt (by rw [get_put, if_pos rfl]) fun j hj => ?_
    by_cases he : j = i
    · subst he; simp [upd]
    · have : ¬ (j : Int) = (i : Int) := by omega
      simp only [upd, if_neg this]
      exact hr j (by omega)

theorem Rows_l4 {Q : Value × St → Prop} {A : Nat → Prop} {st1 : St} {v6 v20 : Value} {ra wb : Nat} {out : List Mv} {r : Int → Int} (hl : RSl A st1 7 RInstr v20 (out.map copyI)) (hA : ∀ id, A id → id < st1.next) (ho : out.length < 1000) (hout : ∀ o ∈ out, (0 ≤ o.to ∧ o.to < 21) ∧ 0 ≤ o.src ∧ o.src < 21)
    (hra : st1.next ≤ ra) (hro : st1.ro ≤ ra) (hrw : ra < wb) (hfin : ∀ st, Ext st1 st → st.get ra = some (.cells (arr (exec r out))) → st.get wb = some (.cells (arr r)) → Ok (refinerylaw22_LeaveRows_j17 J v6 (P ra 0) (P wb 0) st) Q)
    (d : Nat) : ∀ (i : Nat) (st : St), i + d = out.length → Ext st1 st → wb < st.next → st.get ra = some (.cells (arr (exec r (out.take i)))) → st.get wb = some (.cells (arr r)) →
    Ok (refinerylaw22_LeaveRows_l4 J v6 (P ra 0) (P wb 0) v20 (I out.length) (I i) st) Q := by
  induction d with
  | zero =>
    intro i st hi hX hlt hg hgw
    refine refinerylaw22_LeaveRows_l4_of hF hJ ?_
    rw [refinerylaw22_LeaveRows_l4_eq]
    have : i = out.length := by omega
    subst this
    rw [List.take_length] at hg
    simp
    exact hfin st hX hg hgw
  | succ d ih =>
    intro i st hi hX hlt hg hgw
    refine refinerylaw22_LeaveRows_l4_of hF hJ ?_
    rw [refinerylaw22_LeaveRows_l4_eq]
    have hil : i < out.length := by omega
    have hil' : (i : Int) < out.length := by omega
    obtain ⟨b, o, cs, hix, hld, hcs, -⟩ := hl.at (i := i) (x := copyI out[i]) (by simp [hil])
    have hcs : cs = cI (copyI out[i]) := hcs
    subst hcs
    have hv : ∀ x, Value.agg (cI x).toArray = vI x := fun x => rfl
    obtain ⟨⟨t1, t2⟩, s1, s2⟩ := hout _ (List.getElem_mem hil)
    obtain ⟨t, ht⟩ : ∃ t : Nat, (t : Int) = out[i].to := ⟨out[i].to.toNat, by omega⟩
    obtain ⟨s, hs⟩ : ∃ s : Nat, (s : Int) = out[i].src := ⟨out[i].src.toNat, by omega⟩
    have hk : (copyI out[i]).kind = 1 := rfl
    have hd : (copyI out[i]).dst = t := by rw [ht]; rfl
    have ha : (copyI out[i]).a = s := by rw [hs]; rfl
    have c1 : ¬ (t : Int) < 0 := by omega
    have c2 : ¬ (20 : Int) < t := by omega
    have c3 : ¬ (s : Int) < 0 := by omega
    have c4 : ¬ (20 : Int) < s := by omega
    have ht21 : t < 21 := by omega
    have hs21 : s < 21 := by omega
    have hbu : ∀ st : St, st.bump.get ra = st.get ra ∨ True := fun _ => .inr trivial
    have hgb : st.bump.get ra = some (.cells (arr (exec r (out.take i)))) := by rw [get_bump, if_neg (by omega)]; exact hg
    have hld1 := arr_load hgb hs21
    have hst := arr_store hgb (by rw [ro_bump, hX.ro]; exact hro) ht21 (exec r (out.take i) s)
    simp [-storeN_def, hil', hil, refinerylaw22_LeaveRows_j16_eq hJ, refinerylaw22_LeaveRows_j20_eq hJ, refinerylaw22_LeaveRows_j22_eq hJ, hix, hld _ (hX.agree hA), hv, hk, hd, ha, c1, c2, c3, c4, arr_ix ht21, arr_ix hs21, hld1, hst, Res.need]
    rw [wrap_id (n := (i : Int) + 1) (by omega)]
    have he : upd (exec r (out.take i)) t (exec r (out.take i) s) = exec r (out.take (i + 1)) := by
      have : out.take (i + 1) = out.take i ++ [out[i]] := by rw [List.take_add_one, List.getElem?_eq_getElem hil]; rfl
      rw [this]
      simp only [exec, List.foldl_append, List.foldl_cons, List.foldl_nil, ht, hs]
    rw [he]
    exact ih (i + 1) _ (by omega) (hX.bump.put hra _) (by show wb < st.bump.next; rw [next_bump]; omega) (by rw [get_put, if_pos rfl]) (by rw [get_put, if_neg (by omega), get_bump, if_neg (by omega)]; exact hgw)

theorem Rows_l6 {ra wb mt : Nat} {r r' : Int → Int} {l : List Mv} {st : St} (hm : st.get mt = some (mTo l)) (hg : st.get ra = some (.cells (arr r'))) (hgw : st.get wb = some (.cells (arr r)))
    (h : ∀ i : Nat, i < 20 → match gr l i with | some y => (0 ≤ y ∧ y < 21) ∧ r' i = r y | none => r' i = r i) (d : Nat) : ∀ i : Nat, i + d = 20 →
    Ok (refinerylaw22_LeaveRows_l6 J (.map (some mt)) (P ra 0) (P wb 0) (I i) st) fun x => x.1 = B true := by
  induction d with
  | zero =>
    intro i hi
    refine refinerylaw22_LeaveRows_l6_of hF hJ ?_
    rw [refinerylaw22_LeaveRows_l6_eq]
    have : i = 20 := by omega
    subst this
    simp [refinerylaw22_LeaveRows_j24_eq hJ]
  | succ d ih =>
    intro i hi
    generalize hQ : (fun x : Value × St => x.1 = B true) = Q
    refine refinerylaw22_LeaveRows_l6_of hF hJ ?_
    rw [refinerylaw22_LeaveRows_l6_eq]
    have hi20 : i < 20 := by omega
    have hi' : (i : Int) < 20 := by omega
    have h1 := h i hi20
    have hlook := sLook_to hm i
    have hnext := ih (i + 1) (by omega)
    rw [hQ] at hnext
    have hw : IntKind.i64.wrap ((i : Int) + 1) = ((i + 1 : Nat) : Int) := by rw [wrap_id (by omega)]; simp
    cases hgr : gr l i with
    | none =>
      rw [hgr] at h1 hlook
      simp [hi', refinerylaw22_LeaveRows_j23_eq hJ, hlook, Res.of, refinerylaw22_LeaveRows_j25_eq hJ, refinerylaw22_LeaveRows_j26_eq hJ, arr_ix (show i < 21 by omega), arr_load hg (show i < 21 by omega), arr_load hgw (show i < 21 by omega), h1, hw]
      simpa using hnext
    | some y =>
      rw [hgr] at h1 hlook
      obtain ⟨⟨y1, y2⟩, h1⟩ := h1
      obtain ⟨t, ht⟩ : ∃ t : Nat, (t : Int) = y := ⟨y.toNat, by omega⟩
      subst ht
      simp [hi', refinerylaw22_LeaveRows_j23_eq hJ, hlook, Res.of, refinerylaw22_LeaveRows_j25_eq hJ, refinerylaw22_LeaveRows_j26_eq hJ, arr_ix (show i < 21 by omega), arr_ix (show t < 21 by omega), arr_load hg (show i < 21 by omega), arr_load hgw (show t < 21 by omega), h1, hw]
      simpa using hnext

omit hJ
theorem LeaveRows_ok {A : Nat → Prop} (l : List Int) (hb : ∀ x ∈ l, 0 ≤ x ∧ x ≤ 255) (n : Int) (v0 : Value) (st : St) (hA : ∀ id, A id → id < st.next) (h0 : RSl A st 1 RU8 v0 l) (hlm : l.length < 2 ^ 62) (hro : st.ro ≤ st.next) : Ok (K.go (.call n_refinerylaw22_LeaveRows [v0, I n]) st) fun r => r.1 = B true := by
  refine refinerylaw22_LeaveRows_of hF fun J hJ => ?_
  rw [refinerylaw22_LeaveRows_eq]
  refine (Awake22_ok hF st hro).call fun s1 hE1 => ?_
  have h0 := h0.mono (fun _ h => h) (hE1.agree hA) fun _ _ _ h => h
  have hA : ∀ id, A id → id < s1.next := fun id h => Nat.lt_of_lt_of_le (hA id h) hE1.next
  have hro1 := hE1.roOk hro
  have hlen := h0.len
  by_cases hgt : 12 < l.length
  · have hg : (12 : Int) < l.length := by omega
    simp [-sLen_slice, refinerylaw22_LeaveRows_j0_eq hJ, hlen, hg]
  have hl : l.length ≤ 12 := by omega
  have hg : ¬ (12 : Int) < l.length := by omega
  have hnm : sNewMap s1 = .ok (.map (some s1.next), s1.alloc (mTo [])) := rfl
  simp [-sLen_slice, refinerylaw22_LeaveRows_j0_eq hJ, hlen, hg, refinerylaw22_LeaveRows_j1_eq hJ, hnm]
  -- the moves are laid down
  refine Rows_l0 hF hJ (st0 := s1) (mt := s1.next) hro1 hA h0 hb hl (fun s2 v5 ids h2 => ?_) l.length 0 (s1.alloc (mTo [])) _ [] (by omega) ⟨by simp, Nat.le_refl _, Nat.lt_succ_self _, by rw [get_alloc, if_pos rfl]; rfl, RepSl.nil _, by simp, by simp⟩
  have hX2 := h2.ext
  have hro2 := hX2.roOk hro1
  have hnm2 : sNewMap s2 = .ok (.map (some s2.next), s2.alloc (mSet [])) := rfl
  rw [refinerylaw22_LeaveRows_j3_eq hJ]
  simp [-sLen_slice, hlen, hnm2]
  -- rounds are counted
  have hk0 : ((mvs l).filter keep).length ≤ 12 := by
    have := List.length_filter_le keep (mvs l)
    rw [mvs_len] at this; omega
  refine Rows_l1 hF hJ (st1 := s2) (mt := s1.next) (ms := s2.next) (n := l.length) h2.g h2.k2 (Nat.le_refl _) hro2 (by omega) hlen l.length 0 (s2.alloc (mSet [])) [] _ (by omega) (by omega) (by simp) (Nat.lt_succ_self _) (by rw [get_alloc, if_pos rfl]) fun s3 hX3 => ?_
  rw [refinerylaw22_LeaveRows_j6_eq hJ]
  -- Row
  have hrs : RSl (Rng s1.next s2.next) s2 2 RMove v5 (mvs l) := (h2.mv.rsl (R' := RMove) fun cs x is _ _ hx => hx.1).in fun id hi => by
    have := h2.lo id hi
    exact ⟨by omega, this.2⟩
  have hrs3 := hrs.mono (A' := Rng s1.next s2.next) (fun _ h => h) (hX3.agree fun id hi => hi.2) fun _ _ _ h => h
  have hperm : ((mvs l).filter keep).Sublist (mvs l) := List.filter_sublist
  have hnd : (tos ((mvs l).filter keep)).Nodup := (hperm.map Mv.to).nodup (nodup_mvs l)
  have hsubt : ∀ x ∈ tos ((mvs l).filter keep), 0 ≤ x ∧ x < l.length := fun x hx => mem_tos_mvs.1 ((hperm.map Mv.to).subset hx)
  have hs20 : (20 : Int) ∉ tos ((mvs l).filter keep) := fun hm => by have := (hsubt _ hm).2; omega
  have hself : ∀ m ∈ (mvs l).filter keep, m.to ≠ m.src := fun m hm => by
    have := (List.mem_filter.1 hm).2
    simpa [keep] using this
  obtain ⟨out, hR⟩ := row_total (spare := 20) _ ((mvs l).filter keep) hnd hs20 (Nat.lt_succ_self _)
  have his : (List.range' 0 l.length).map (fun (i : Nat) => (i : Int)) = tos (mvs l) := by rw [tos_mvs, List.range_eq_range']
  have hcount := row_count (F := l.length + 1) (is := tos (mvs l)) hR hnd hs20 hself (by have := List.length_filter_le keep (mvs l); rw [mvs_len] at this; omega) fun x hx => (hperm.map Mv.to).subset hx
  have hsame : cntL (l.length + 1) (gr (mvs l)) (tos (mvs l)) [] = cnt (l.length + 1) (tos (mvs l)) (gr ((mvs l).filter keep)) := by
    refine cntL_eq fun i d hd => ?_
    have hcut : cut (gr (mvs l)) [] = gr (mvs l) := by funext x; simp [cut]
    rw [hcut]
    have hkeep : ∀ x y, x ≠ y → (gr (mvs l) x = some y ↔ gr ((mvs l).filter keep) x = some y) := fun x y hxy => by
      constructor
      · intro h
        obtain ⟨m, hm, rfl, rfl⟩ := gr_some h
        exact gr_mem hnd (List.mem_filter.2 ⟨hm, by simpa [keep] using hxy⟩)
      · intro h
        obtain ⟨m, hm, rfl, rfl⟩ := gr_some h
        exact gr_mem (nodup_mvs l) (List.mem_filter.1 hm).1
    constructor
    · intro h
      refine walk_same h fun y hy => ?_
      obtain ⟨t, k, _⟩ := (walk_mem h).2 y hy
      have hne : y ≠ t := fun e => walk_big h hd y hy (by rw [k, e])
      rw [k, (hkeep y t hne).1 k]
    · intro h
      refine walk_same h fun y hy => ?_
      obtain ⟨t, k, _⟩ := (walk_mem h).2 y hy
      have hne : y ≠ t := fun e => walk_big h hd y hy (by rw [k, e])
      rw [k, (hkeep y t hne).2 k]
  rw [his, hsame, ← hcount]
  have hol : out.length ≤ 100 := by
    have : ∀ (F : Nat) (is : List Int) (g : Int → Option Int), cnt F is g ≤ is.length := by
      intro F is
      induction is with
      | nil => intro g; exact Nat.le_refl _
      | cons i is ih =>
        intro g
        rw [List.length_cons]
        unfold cnt
        split
        · split
          · rename_i d _ _
            have := ih (cut g d); omega
          · have := ih g; omega
        · have := ih g; omega
    have := this (l.length + 1) (tos (mvs l)) (gr ((mvs l).filter keep))
    have e : (tos (mvs l)).length = l.length := by rw [tos_mvs]; simp
    omega
  have hX3' := hX2.trans hX3
  refine (Row_ok hF (st := s3) (A := Rng s1.next s2.next) (fun id h => Nat.lt_of_lt_of_le h.2 hX3.next) hrs3 (by rw [mvs_len]; omega) (hX3.roOk hro2) hR (by omega)).thn fun ⟨v20, s4⟩ ⟨h4, hE4⟩ => ?_
  simp only at h4 hE4 ⊢
  have hl4 : ∀ s, sLen .slice v20 s = .ok (I out.length, s) := fun s => by
    have := h4.len s
    simpa using this
  have hro4 : s4.ro ≤ s4.next := hE4.roOk (hX3.roOk hro2)
  have hnw : ∀ s : St, sNew [I 0, I 0, I 0, I 0, I 0, I 0, I 0, I 0, I 0, I 0, I 0, I 0, I 0, I 0, I 0, I 0, I 0, I 0, I 0, I 0, I 0] s = .ok (P s.next 0, s.alloc (.cells (arr fun _ => 0))) := fun s => rfl
  simp [-sLen_slice, -sNew_eq, hl4, refinerylaw22_LeaveRows_j7_eq hJ, hnw]
  -- the registers
  refine Rows_l3 hF hJ (st1 := s4) (ra := s4.next) (Nat.le_refl _) hro4 (fun s5 r hX5 hlt5 hg5 hr => ?_) 21 0 (s4.alloc (.cells (arr fun _ => 0))) _ (by omega) (by simp) (Nat.lt_succ_self _) (by rw [get_alloc, if_pos rfl]) (fun j hj => by omega)
  rw [refinerylaw22_LeaveRows_j12_eq hJ]
  have hld : s5.loadN s4.next 0 21 = .ok (arr r) := by
    rw [loadN_def, hg5]
    have : (arr r).length = 21 := by simp [arr]
    simp only [need_dec (show 0 + 21 ≤ (arr r).length by omega), Res.bind_ok, List.drop_zero, List.take_of_length_le (Nat.le_of_eq this)]
  have hst : ∀ s : St, s.get s5.next = some (.cells (arr fun _ => 0)) → s.ro ≤ s5.next → sStore 21 (P s5.next 0) (.agg (arr r).toArray) s = .ok (nothing, s.put s5.next (.cells (arr r))) := fun s h1 h2 => by
    have e1 : (arr r).length = 21 := by simp [arr]
    have e2 : (arr fun _ => 0).length = 21 := by simp [arr]
    have e3 : (arr r).all cellOk = true := by simp [arr]
    have hs : splice (arr fun _ => 0) 0 (arr r) = arr r := by
      unfold splice
      rw [List.take_zero, List.nil_append, Nat.zero_add, e1, List.drop_eq_nil_of_le (by omega), List.append_nil]
    have hsn : s.storeN s5.next 0 (arr r) = .ok (s.put s5.next (.cells (arr r))) := by
      rw [storeN_def, h1]
      simp only [need_dec h2, need_dec (show 0 + (arr r).length ≤ (arr fun _ => (0 : Int)).length by omega), e3, hs, Res.need_true, Res.bind_ok]
    simp [-storeN_def, Res.need, e1, hsn]
  have hro5 : s5.ro ≤ s5.next := hX5.roOk hro4
  have hst' := hst (s5.alloc (.cells (arr fun _ => 0))) (by rw [get_alloc, if_pos rfl]) hro5
  simp [-sLen_slice, -sNew_eq, -sStore_agg, hld, hnw, hst', hl4]
  have hout := row_in hR
  have hin : ∀ o ∈ out, (0 ≤ o.to ∧ o.to < 21) ∧ 0 ≤ o.src ∧ o.src < 21 := fun o ho => by
    obtain ⟨k1, k2⟩ := hout o ho
    refine ⟨?_, ?_⟩
    · rcases k1 with k | k
      · omega
      · have := hsubt _ k; omega
    · rcases k2 with k | k | k
      · omega
      · obtain ⟨m, hm, e⟩ := List.mem_map.1 k
        have := src_mvs (List.mem_filter.1 hm).1
        omega
      · have := hsubt _ k; omega
  have hX6 : Ext s4 ((s5.alloc (.cells (arr fun _ => 0))).put s5.next (.cells (arr r))) := (hX5.alloc _).put hX5.next _
  refine Rows_l4 hF hJ (st1 := s4) (ra := s4.next) (wb := s5.next) (r := r) (out := out) h4 (fun id h => h.2) (by omega) hin (Nat.le_refl _) hro4 hlt5 (fun s7 hX7 hg7 hgw7 => ?_) out.length 0 _ (by omega) hX6 (Nat.lt_succ_self _) (by rw [get_put, if_neg (by omega), get_alloc, if_neg (by omega)]; exact hg5) (by rw [get_put, if_pos rfl])
  rw [refinerylaw22_LeaveRows_j17_eq hJ]
  have hX47 := (hX3.trans hE4).trans hX7
  have hm7 : s7.get s1.next = some (mTo (mvs l)) := by rw [hX47.get _ h2.k2]; exact h2.g
  obtain ⟨d1, d2⟩ := row_does hR r hnd hs20
  refine Rows_l6 hF hJ hm7 hg7 hgw7 (fun i hi => ?_) 20 0 (by omega)
  cases hgi : gr (mvs l) i with
  | none =>
    refine d2 i (fun hm => ?_) (by omega)
    obtain ⟨y, hy⟩ := gr_in ((hperm.map Mv.to).subset hm)
    rw [hgi] at hy; cases hy
  | some y =>
    obtain ⟨_, y1, y2⟩ := gr_mvs hgi
    refine ⟨by omega, ?_⟩
    obtain ⟨m, hm, e1, e2⟩ := gr_some hgi
    by_cases hk : m.to = m.src
    · have : (i : Int) ∉ tos ((mvs l).filter keep) := fun hx => by
        obtain ⟨o, ho, e3⟩ := List.mem_map.1 hx
        have h1 := gr_mem (nodup_mvs l) (List.mem_filter.1 ho).1
        have h2 : gr (mvs l) o.to = some y := by rw [show o.to = (i : Int) from e3]; exact hgi
        rw [h1] at h2
        cases h2
        have := hself o ho
        have e3' : o.to = (i : Int) := e3
        omega
      rw [d2 i this (by omega), ← e2, ← hk, e1]
    · have := d1 m (List.mem_filter.2 ⟨hm, by simp [keep, hk]⟩)
      rw [e1] at this
      rw [this, e2]

theorem LeaveRows_args (st : St) (args : List Value) (hro : st.ro = st.next) (h : WVs pg st [22, 2] args) : Ok (K.go (.call n_refinerylaw22_LeaveRows args) st) fun r => r.1 = .bool true := by
  match args, h with
  | [v0, v1], ⟨h0, h1, _⟩ =>
    obtain ⟨n, rfl, _⟩ := h1.int Try.underlying2
    obtain ⟨l, hr, hl⟩ := h0.rsl (R := fun cs x => RU8 cs x ∧ (0 ≤ x ∧ x ≤ 255)) (c := 1) Try.underlying22 (by kernel_rfl) fun cs hc => by
      obtain ⟨x, e, w⟩ := hc.getInt Try.underlying5
      exact ⟨x, e, bounds_u8 w⟩
    have hb : pg.bytesOf 5 = 1 := by kernel_rfl
    rw [hb] at hl
    have : reachBytes < 2 ^ 62 := by decide
    exact LeaveRows_ok hF l (rsl_all' hr) n v0 st (fun id h => h) (hr.mono (fun _ h => h) (Agree.refl _ _) fun _ _ _ h => h.1) (by omega) (Nat.le_of_eq hro)
end Go.Proofs.Ytfknooeebmdfoaa.Sh

