/-
  StrictLine: whatever it is given, the law's function answers true.
-/
import Derived.Test.YtenfblnmmmppbaaSt5
import Derived.Test.YtenfblnmmmppbaaIrInstrs0
set_option linter.unusedVariables false
set_option linter.unusedSimpArgs false
set_option linter.unusedSectionVars false
set_option maxRecDepth 100000
namespace Go.Proofs.Ytenfblnmmmppbaa.Sh
open Go Go.AM Go.Proofs

/-- What there is while the block is laid down. -/
structure LS (st0 s : St) (m : Nat) (S : List Int) (vi : Value) (ys : List Instr) (ids : List Nat) : Prop where
  ext : Ext st0 s
  k1 : st0.next ≤ m
  k2 : m < s.next
  g : s.get m = some (mSet S)
  ls : RepSl 7 PInstr s vi ys ids
  nd : ids.Nodup
  lo : ∀ id ∈ ids, m < id ∧ id < s.next
section
variable {st0 s s' : St} {m : Nat} {S : List Int} {vi : Value} {ys : List Instr} {ids : List Nat}
theorem LS.mono (h : LS st0 s m S vi ys ids) (hE : Ext s s') : LS st0 s' m S vi ys ids where
  ext := h.ext.trans hE
  k1 := h.k1
  k2 := Nat.lt_of_lt_of_le h.k2 hE.next
  g := by rw [hE.get _ h.k2]; exact h.g
  ls := h.ls.frame PInstr.fr fun id hi => hE.get id (h.lo id hi).2
  nd := h.nd
  lo := fun id hi => ⟨(h.lo id hi).1, Nat.lt_of_lt_of_le (h.lo id hi).2 hE.next⟩
theorem LS.set (h : LS st0 s m S vi ys ids) (S' : List Int) : LS st0 (s.put m (mSet S')) m S' vi ys ids where
  ext := h.ext.put h.k1 _
  k1 := h.k1
  k2 := h.k2
  g := by rw [get_put, if_pos rfl]
  ls := h.ls.frame PInstr.fr fun id hi => by have := (h.lo id hi).1; rw [get_put, if_neg (by omega)]
  nd := h.nd
  lo := h.lo
theorem LS.push (h : LS st0 s m S vi ys ids) (hro : st0.ro ≤ st0.next) (x : Instr) (hl : ys.length < 1000) : ∃ vi' s' ids', sAppend 7 48 vi (Sl s.next 0 1 7) (s.alloc (.cells (cI x))) = .ok (vi', s') ∧ LS st0 s' m S vi' (ys ++ [x]) ids' := by
  have k1 := h.k1; have k2 := h.k2; have hn := h.ext.next
  obtain ⟨v', s1, ids', r, p1, p2, p3, p4, p5, p6⟩ := RepSl.push (bytes := 48) PInstr.fr h.ls (by omega) (x := x) (cs := cI x) (is := []) ⟨rfl, rfl⟩ rfl rfl (fun id hi => (h.lo id (by simpa using hi)).2) (fun id hi => by
    have := (h.lo id hi).1; rw [h.ext.ro]; omega) (by simpa using h.nd) (by omega)
  have hnl : ∀ id, id ≤ m → id ∉ ids := fun id hi hm => by have := (h.lo id hm).1; omega
  refine ⟨v', s1, ids', r, ⟨⟨by omega, by rw [p6, h.ext.ro], fun id hi => ?_⟩, k1, by omega, by rw [p4 m k2 (hnl _ (Nat.le_refl _))]; exact h.g, p1, p2, fun id hi => ?_⟩⟩
  · rw [p4 id (by omega) (hnl id (by omega))]; exact h.ext.get id hi
  · rcases p3 id hi with q | q | q
    · have := h.lo id q; omega
    · cases q
    · omega
end

variable {K : Ctx} (hF : Fix pgF K)
include hF

section
variable {J : JT (Value × St)} (hJ : IsJ K (retK refinerylaw17_StrictLine_c.results) J) {Q : Value × St → Prop}
include hJ

theorem SL_l1 {st1 : St} {m : Nat} {S : List Int} {v1 v5 v7 v11 v28 v29 v30 v37 : Value} {rs : List Int} {A : Nat → Prop} (hr : RSl A st1 1 RInt v37 rs) (hrl : rs.length < 1000) (hA : ∀ id, A id → id < st1.next) (hm : st1.get m = some (mSet S)) (hml : m < st1.next) {un : Bool}
    (hk : ∀ s, Ext st1 s → Ok (refinerylaw17_StrictLine_j6 J v1 v5 (.map (some m)) v7 (B (un || rs.any fun r => !decide (r ∈ S))) v11 v28 v29 v30 s) Q) (d : Nat) : ∀ (i : Nat) (s : St), i + d = rs.length → Ext st1 s →
    Ok (refinerylaw17_StrictLine_l1 J v1 v5 (.map (some m)) v7 (B (un || (rs.take i).any fun r => !decide (r ∈ S))) v11 v28 v29 v30 v37 (I rs.length) (I i) s) Q := by
  induction d with
  | zero =>
    intro i s hi hE
    refine refinerylaw17_StrictLine_l1_of hF hJ ?_
    rw [refinerylaw17_StrictLine_l1_eq]
    have : i = rs.length := by omega
    subst this
    rw [List.take_length]
    simp
    exact hk s hE
  | succ d ih =>
    intro i s hi hE
    refine refinerylaw17_StrictLine_l1_of hF hJ ?_
    rw [refinerylaw17_StrictLine_l1_eq]
    have hlt : i < rs.length := by omega
    have hlt' : (i : Int) < rs.length := by omega
    obtain ⟨b, o, k1, k2, _⟩ := hr.at1 (f := I) (List.getElem?_eq_getElem hlt)
    have lk := sLook_set (show s.get m = some (mSet S) by rw [hE.get _ hml]; exact hm) rs[i]
    have htk : rs.take (i + 1) = rs.take i ++ [rs[i]] := by rw [List.take_add_one, List.getElem?_eq_getElem hlt]; rfl
    have hnext := ih (i + 1) s (by omega) hE
    rw [htk, List.any_append] at hnext
    cases hu : (un || (rs.take i).any fun r => !decide (r ∈ S)) with
    | true =>
      rw [← Bool.or_assoc, hu, Bool.true_or] at hnext
      simp [hlt', refinerylaw17_StrictLine_j5_eq hJ, refinerylaw17_StrictLine_j7_eq hJ, k1, k2 s (hE.agree hA)]
      rw [wrap_id (n := (i : Int) + 1) (by omega)]
      exact hnext
    | false =>
      rw [← Bool.or_assoc, hu, Bool.false_or] at hnext
      simp only [List.any_cons, List.any_nil, Bool.or_false] at hnext
      simp [hlt', refinerylaw17_StrictLine_j5_eq hJ, refinerylaw17_StrictLine_j7_eq hJ, k1, k2 s (hE.agree hA), lk]
      rw [wrap_id (n := (i : Int) + 1) (by omega)]
      simpa using hnext

theorem SL_l0 {A : Nat → Prop} {st0 : St} {m : Nat} {v1 v28 : Value} {l : List Line} {ys : List Instr} {mm : Last} (hro : st0.ro ≤ st0.next) (hA : ∀ id, A id → id < st0.next) (hl : RSl A st0 7 (fun cs x => cs = cLine x) v28 l) (hok : ∀ x ∈ l, x.Ok) (hll : l.length ≤ 20) (hys : ys = l.map fun x => x.instr 6)
    (hk : ∀ s vi ids, LS st0 s m (lwTo ys ys.length).set vi ys ids → Ok (refinerylaw17_StrictLine_j3 J v1 (vB 0 (.slice none 0 0) vi mm) (.map (some m)) (B (lwTo ys ys.length).tw) (B (lwTo ys ys.length).un) s) Q) (d : Nat) : ∀ (i : Nat) (s : St) (vi : Value) (ids : List Nat), i + d = l.length → LS st0 s m (lwTo ys i).set vi (ys.take i) ids →
    Ok (refinerylaw17_StrictLine_l0 J v1 (vB 0 (.slice none 0 0) vi mm) (.map (some m)) (B (lwTo ys i).tw) (B (lwTo ys i).un) v28 (I l.length) (I i) s) Q := by
  have hyl : ys.length = l.length := by rw [hys]; simp
  induction d with
  | zero =>
    intro i s vi ids hi h
    refine refinerylaw17_StrictLine_l0_of hF hJ ?_
    rw [refinerylaw17_StrictLine_l0_eq]
    have : i = l.length := by omega
    subst this
    rw [← hyl, List.take_length] at h
    rw [← hyl]
    simp
    exact hk s vi ids h
  | succ d ih =>
    intro i s vi ids hi h
    refine refinerylaw17_StrictLine_l0_of hF hJ ?_
    rw [refinerylaw17_StrictLine_l0_eq]
    have hlt : i < l.length := by omega
    have hlt' : (i : Int) < l.length := by omega
    have hyi : i < ys.length := by omega
    have hye : ys[i] = l[i].instr 6 := by simp [hys]
    obtain ⟨b, o, cs, k1, k2, k3, -⟩ := hl.at (List.getElem?_eq_getElem hlt)
    have k3 : cs = cLine l[i] := k3
    subst k3
    have hlo := hok _ (List.getElem_mem hlt)
    have hup : ∀ s, sUpd 7 0 (.agg #[U 0, U 0, U 0, U 0, U 0, U 0, .int .i16 0]) (.agg (cLine l[i]).toArray) s = .ok (.agg (cLine l[i]).toArray, s) := fun s => by simp [cLine, Res.need]
    have hfi : ∀ s, sField (some 7) 0 (.agg (cLine l[i]).toArray) s = .ok (.agg (cLine l[i]).toArray, s) := fun s => rfl
    have htk : ys.take (i + 1) = ys.take i ++ [ys[i]] := by rw [List.take_add_one, List.getElem?_eq_getElem hyi]; rfl
    simp [-sUpd_agg, -sFieldN, hlt', refinerylaw17_StrictLine_j2_eq hJ, k1, k2 s (h.ext.agree hA), hup, hfi]
    refine (LineInstr_ok hF l[i] hlo 6 (by omega) _).call fun s2 hE2 => ?_
    rw [← hye]
    have h2 := h.mono ((Ext.trans (by simp : Ext s s.bump) hE2).trans (by simp : Ext s2 s2.bump))
    simp
    refine (Reads_ok hF ys[i] _).thn fun ⟨q1, s3⟩ ⟨g1, hE3⟩ => ?_
    simp only at g1 hE3 ⊢
    have h3 := h2.mono hE3
    have hrl : ys[i].reads.length < 1000 := by
      unfold Instr.reads
      split
      · simp
      · split <;> simp
    simp [g1.len]
    have hstep := lwTo_succ hyi
    have huns : (lwTo ys (i + 1)).un = ((lwTo ys i).un || ys[i].reads.any fun r => !decide (r ∈ (lwTo ys i).set)) := by
      rw [hstep]; unfold lwStep; split <;> rfl
    refine SL_l1 hF hJ (un := (lwTo ys i).un) g1 hrl (fun id h => h.2) h3.g h3.k2 (fun s4 hE4 => ?_) ys[i].reads.length 0 s3 (by omega) (Ext.refl _) |> fun h => by simpa using h
    rw [← huns]
    have h4 := h3.mono hE4
    rw [refinerylaw17_StrictLine_j6_eq hJ]
    simp
    refine (Sets_ok hF ys[i] _).call fun s5 hE5 => ?_
    have h5 := h4.mono hE5
    -- what is behind: one more in the block
    have hend : ∀ s, LS st0 s m (lwTo ys (i + 1)).set vi (ys.take i) ids → Ok (refinerylaw17_StrictLine_j8 J v1 (vB 0 (.slice none 0 0) vi mm) (.map (some m)) (B (lwTo ys (i + 1)).tw) (B (lwTo ys (i + 1)).un) (vI ys[i]) v28 (I l.length) (I i) s) Q := fun s hs => by
      obtain ⟨vi', s', ids', e1, e2⟩ := hs.push hro ys[i] (by rw [List.length_take]; omega)
      have hu := sUpd_vBi 0 (.slice none 0 0) vi mm s' e2.ls.cell e2.ls.tup e2.ls.cells
      rw [refinerylaw17_StrictLine_j8_eq hJ]
      simp [e1, hu, refinerylaw17_StrictLine_j9_eq hJ]
      rw [wrap_id (n := (i : Int) + 1) (by omega)]
      exact ih (i + 1) s' vi' ids' (by omega) (by rw [htk]; exact e2)
    by_cases hs : ys[i].sets.2 = true
    · have e1 : (lwTo ys (i + 1)).set = setS (lwTo ys i).set ys[i].sets.1 := by rw [hstep]; unfold lwStep; rw [if_pos hs]
      have e2 : (lwTo ys (i + 1)).tw = ((lwTo ys i).tw || decide (ys[i].sets.1 ∈ (lwTo ys i).set)) := by rw [hstep]; unfold lwStep; rw [if_pos hs]
      have lk := sLook_set h5.g ys[i].sets.1
      have st := sMapSet_set h5.g ys[i].sets.1 (by rw [h5.ext.ro]; have := h5.k1; omega)
      have h6 := h5.set (setS (lwTo ys i).set ys[i].sets.1)
      rw [← e1] at h6
      have hfin := hend _ h6
      rw [e2] at hfin
      cases htw : (lwTo ys i).tw with
      | true =>
        rw [htw, Bool.true_or] at hfin
        simp [Res.of, hs, st]
        rw [← e1]
        exact hfin
      | false =>
        rw [htw, Bool.false_or] at hfin
        simp [Res.of, hs, lk, st]
        rw [← e1]
        exact hfin
    · have hs' : ys[i].sets.2 = false := by simpa using hs
      have e1 : (lwTo ys (i + 1)).set = (lwTo ys i).set := by rw [hstep]; unfold lwStep; rw [if_neg hs]
      have e2 : (lwTo ys (i + 1)).tw = (lwTo ys i).tw := by rw [hstep]; unfold lwStep; rw [if_neg hs]
      simp [Res.of, hs']
      have hfin := hend s5 (by rw [e1]; exact h5)
      rw [e2] at hfin
      exact hfin
end

theorem StrictLine_ok {A : Nat → Prop} {l : List Line} (hok : ∀ x ∈ l, x.Ok) (hln : l.length < 2 ^ 62) {a : Int} (ha : 0 ≤ a ∧ a ≤ 255) {v : Value} {st : St} (hA : ∀ id, A id → id < st.next) (hl : RSl A st 7 (fun cs x => cs = cLine x) v l) (hro : st.ro ≤ st.next) :
    Ok (K.go (.call n_refinerylaw17_StrictLine [v, U a]) st) fun r => r.1 = B true := by
  refine refinerylaw17_StrictLine_of hF fun J hJ => ?_
  rw [refinerylaw17_StrictLine_eq]
  refine (Awake17_ok hF st hro).call fun s1 hE1 => ?_
  have hlen := hl.len
  by_cases hgt : 20 < l.length
  · have : (20 : Int) < l.length := by omega
    simp [-sLen_slice, refinerylaw17_StrictLine_j0_eq hJ, hlen, this, hgt]
  have hng : ¬ (20 : Int) < l.length := by omega
  have ta : a.tmod 6 = a % 6 := Int.tmod_eq_emod_of_nonneg ha.1
  have w1 : IntKind.i64.wrap (a % 6) = a % 6 := wrap_id (by omega)
  have b3 : ∀ s, sBuild [U 0, I 0, I 0, I 0] [(0, 1, U 2), (1, 1, I (a % 6))] s = .ok (vL ⟨2, a % 6, 0, 0⟩, s) := fun s => rfl
  have b4 : ∀ s, sBuild [I 0, .slice none 0 0, .slice none 0 0, U 0, I 0, I 0, I 0] [(3, 4, vL ⟨2, a % 6, 0, 0⟩)] s = .ok (vB 0 (.slice none 0 0) (.slice none 0 0) ⟨2, a % 6, 0, 0⟩, s) := fun s => rfl
  have hup : ∀ s, sUpd 7 0 (.agg #[I 0, .slice none 0 0, .slice none 0 0, U 0, I 0, I 0, I 0]) (vB 0 (.slice none 0 0) (.slice none 0 0) ⟨2, a % 6, 0, 0⟩) s = .ok (vB 0 (.slice none 0 0) (.slice none 0 0) ⟨2, a % 6, 0, 0⟩, s) := fun s => by simp [vB, Res.need]
  have hnm : sNewMap s1.bump = .ok (.map (some (s1.next + 1)), s1.bump.alloc (.map [])) := rfl
  simp [-sLen_slice, refinerylaw17_StrictLine_j0_eq hJ, hlen, hng, hgt, refinerylaw17_StrictLine_j1_eq hJ, ta, w1, b3, b4, hup, hnm]
  have hl1 := hl.mono (fun _ h => h) (hE1.agree hA) (R' := fun cs x => cs = cLine x) fun _ _ _ h => h
  have hA1 : ∀ id, A id → id < s1.next := fun id h => Nat.lt_of_lt_of_le (hA id h) hE1.next
  have hro1 := hE1.roOk hro
  generalize hys : l.map (fun x => x.instr 6) = ys
  have hyl : ys.length ≤ 20 := by rw [← hys]; simp; omega
  refine SL_l0 hF hJ (st0 := s1) (m := s1.next + 1) hro1 hA1 hl1 hok (by omega) hys.symm (fun s2 vi ids h2 => ?_) l.length 0 (s1.bump.alloc (.map [])) (.slice none 0 0) [] (by omega) ⟨by simp, by omega, by simp, by rw [get_alloc, if_pos (by rfl)]; rfl, RepSl.nil _, by simp, by simp⟩
  rw [refinerylaw17_StrictLine_j3_eq hJ]
  have hchk : check [⟨0, [], ys, ⟨2, a % 6, 0, 0⟩⟩] = 0 := line_check hyl (fun y hy => by
    rw [← hys] at hy
    obtain ⟨x, hx, rfl⟩ := List.mem_map.1 hy
    exact line_instr (hok x hx) (by omega)) (by omega)
  have hstr := line_strict hchk
  have lk := sLook_set h2.g (a % 6)
  -- the program is looked at
  have hend : ∀ w, strictErr ⟨0, [], ys, ⟨2, a % 6, 0, 0⟩⟩ = w → Ok (refinerylaw17_StrictLine_j4 J (vB 0 (.slice none 0 0) vi ⟨2, a % 6, 0, 0⟩) (I w) s2) fun r => r.1 = B true := fun w hw => by
    rw [refinerylaw17_StrictLine_j4_eq hJ]
    have b6 : ∀ v s, sBuild [.slice none 0 0] [(0, 1, .slice v 1 7)] s = .ok (.agg #[.slice v 1 7], s) := fun v s => rfl
    simp [b6]
    have hX : Ext s2 (s2.alloc (.cells (cB 0 (.slice none 0 0) vi ⟨2, a % 6, 0, 0⟩))) := by simp
    have hp : RProg (Bel (s2.next + 1)) (s2.alloc (.cells (cB 0 (.slice none 0 0) vi ⟨2, a % 6, 0, 0⟩))) (Sl s2.next 0 1 7) [⟨0, [], ys, ⟨2, a % 6, 0, 0⟩⟩] :=
      .inr ⟨s2.next, 0, _, rfl, Nat.lt_succ_self _, by rw [get_alloc, if_pos rfl], by simp [cB], fun i x hx => by
        cases i with
        | zero =>
          simp at hx
          subst hx
          exact ⟨.slice none 0 0, vi, rfl, .nil _ _ _ _ _, ((h2.ls.frame PInstr.fr fun id hi => hX.get id (h2.lo id hi).2).rsl (R' := RInstr) fun cs x is _ _ h => h.1).in fun id hi => Nat.lt_succ_of_lt (h2.lo id hi).2⟩
        | succ i => simp at hx⟩
    refine (StrictCheck_ok hF (A := Bel (s2.next + 1)) (st := s2.alloc (.cells (cB 0 (.slice none 0 0) vi ⟨2, a % 6, 0, 0⟩))) (fun id h => h) (hX.roOk (h2.ext.roOk hro1)) hp rfl rfl (by show ys.length < 1000; omega)).call fun s3 hE3 => ?_
    rw [hw]
    simp
  cases htw : (lwTo ys ys.length).tw with
  | true =>
    rw [htw, if_pos rfl] at hstr
    cases hun : (lwTo ys ys.length).un with
    | true => simp [hun, htw]; exact hend 8 hstr
    | false => simp [hun, htw, ta, w1, lk]; exact hend 8 hstr
  | false =>
    rw [htw, if_neg (by decide)] at hstr
    cases hun : (lwTo ys ys.length).un with
    | true =>
      rw [hun, Bool.true_or, if_pos rfl] at hstr
      simp [hun, htw]
      exact hend 10 hstr
    | false =>
      rw [hun, Bool.false_or] at hstr
      by_cases hm : a % 6 ∈ (lwTo ys ys.length).set
      · rw [decide_eq_true hm] at hstr
        simp [hun, htw, ta, w1, lk, hm]
        exact hend 0 (by rw [hstr]; rfl)
      · rw [decide_eq_false hm] at hstr
        simp [hun, htw, ta, w1, lk, hm]
        exact hend 10 (by rw [hstr]; rfl)

theorem rsl_all2 {α : Type} {A : Nat → Prop} {st : St} {s : Nat} {R : List Value → α → Prop} {p : α → Prop} {v : Value} {l : List α} (h : RSl A st s (fun cs x => R cs x ∧ p x) v l) : ∀ x ∈ l, p x := by
  rcases h with ⟨rfl, _⟩ | ⟨b, o, xs, rfl, h2, h3, h4, h5⟩
  · simp
  · intro x hx
    obtain ⟨i, hi⟩ := List.mem_iff_getElem?.1 hx
    exact (h5 i x hi).2
theorem StrictLine_args (st : St) (args : List Value) (hro : st.ro = st.next) (h : WVs pg st [29, 5] args) : Ok (K.go (.call n_refinerylaw17_StrictLine args) st) fun r => r.1 = .bool true := by
  match args, h with
  | [v0, v1], ⟨h0, h1, _⟩ =>
    obtain ⟨n1, rfl, w1⟩ := h1.int Try.underlying5
    obtain ⟨l, hr, hll⟩ := h0.rsl (R := fun cs x => cs = cLine x ∧ Line.Ok x) Try.underlying29 cells_Line fun cs hc => wt_Line hc
    have hb : pg.bytesOf 40 = 8 := by kernel_rfl
    rw [hb] at hll
    have : reachBytes < 2 ^ 62 := by decide
    exact StrictLine_ok hF (rsl_all2 hF hr) (by omega) (bounds_u8 w1) (fun id h => h) (hr.mono (fun _ h => h) (Agree.refl _ _) fun _ _ _ h => h.1) (Nat.le_of_eq hro)
end Go.Proofs.Ytenfblnmmmppbaa.Sh

