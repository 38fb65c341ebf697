/-
  IrPrograms: whatever it is given, the law's function answers true.
-/
import Derived.Test.YtfknooeebmdfoaaIrProg5
import Derived.Test.YtfknooeebmdfoaaIrSmallArgs
set_option linter.unusedVariables false
set_option linter.unusedSimpArgs false
set_option linter.unusedSectionVars false
set_option maxRecDepth 100000
namespace Go.Proofs.Ytfknooeebmdfoaa.Sh
open Go Go.AM Go.Proofs

/-- Two lists that are one's own. -/
structure FI (st0 st : St) (vf : Value) (fs : List Int) (i1 : List Nat) (va : Value) (gs : List Int) (i2 : List Nat) : Prop where
  ext : Ext st0 st
  f : RepSl 1 PInt st vf fs i1
  a : RepSl 1 PInt st va gs i2
  nd : (i1 ++ i2).Nodup
  lo : ∀ id ∈ i1 ++ i2, st0.next ≤ id ∧ id < st.next
section
variable {st0 st st' : St} {vf va : Value} {fs gs : List Int} {i1 i2 : List Nat}
theorem FI.mono (h : FI st0 st vf fs i1 va gs i2) (hE : Ext st st') : FI st0 st' vf fs i1 va gs i2 where
  ext := h.ext.trans hE
  f := h.f.frame PInt.fr fun id hi => hE.get id (h.lo id (List.mem_append_left _ hi)).2
  a := h.a.frame PInt.fr fun id hi => hE.get id (h.lo id (List.mem_append_right _ hi)).2
  nd := h.nd
  lo := fun id hi => ⟨(h.lo id hi).1, Nat.lt_of_lt_of_le (h.lo id hi).2 hE.next⟩
theorem FI.swap (h : FI st0 st vf fs i1 va gs i2) : FI st0 st va gs i2 vf fs i1 where
  ext := h.ext
  f := h.a
  a := h.f
  nd := (List.perm_append_comm.nodup_iff).1 h.nd
  lo := fun id hi => h.lo id (List.perm_append_comm.mem_iff.1 hi)
theorem FI.push (h : FI st0 st vf fs i1 va gs i2) (hro : st0.ro ≤ st0.next) (x : Int) (hb : fs.length < 1000) : ∃ vf' st' i1', sAppend 1 8 vf (Sl st.next 0 1 1) (st.alloc (.cells [I x])) = .ok (vf', st') ∧ FI st0 st' vf' (fs ++ [x]) i1' va gs i2 := by
  obtain ⟨v', st', i1', r, h1, h2, h3, h4, h5, h6⟩ := RepSl.push (bytes := 8) PInt.fr h.f (by omega) (x := x) (cs := [I x]) (is := []) ⟨rfl, rfl⟩ rfl rfl (fun id hi => (h.lo id (List.mem_append_left _ (by simpa using hi))).2) (fun id hi => by
    rw [h.ext.ro]; exact Nat.le_trans hro (h.lo id (List.mem_append_left _ hi)).1) (by simpa using (List.nodup_append.1 h.nd).1) (by omega)
  have hdis : ∀ id ∈ i2, id ∉ i1 := fun id hi hj => (List.nodup_append.1 h.nd).2.2 id hj id hi rfl
  refine ⟨v', st', i1', r, ext_of h.ext (Nat.le_of_lt h5) h6 (fun id hi => (h.lo id (List.mem_append_left _ hi)).1) h4, h1, h.a.frame PInt.fr fun id hi => h4 id (h.lo id (List.mem_append_right _ hi)).2 (hdis id hi), ?_, fun id hi => ?_⟩
  · refine (List.perm_append_comm.nodup_iff).1 (nodup_swap (is := i1) ((List.perm_append_comm.nodup_iff).1 h.nd) h2 (fun id hi => (h3 id hi).imp (fun k => k) fun k => k.elim (fun k => by cases k) fun k => k.1) fun id hi => (h.lo id (List.mem_append_right _ hi)).2)
  · rcases List.mem_append.1 hi with hi | hi
    · rcases h3 id hi with k | k | k
      · exact ⟨(h.lo id (List.mem_append_left _ k)).1, Nat.lt_trans (h.lo id (List.mem_append_left _ k)).2 h5⟩
      · cases k
      · exact ⟨Nat.le_trans h.ext.next k.1, k.2⟩
    · exact ⟨(h.lo id (List.mem_append_right _ hi)).1, Nat.lt_trans (h.lo id (List.mem_append_right _ hi)).2 h5⟩
end

def RU (cs : List Value) (x : Int) : Prop := cs = [U x]

variable {K : Ctx} (hF : Fix pgF K)
include hF

section
variable {J : JT (Value × St)} (hJ : IsJ K (retK refinerylaw03_IrPrograms_c.results) J)
include hJ

theorem Progs_l0 {Q : Value × St → Prop} {A Ap : Nat → Prop} {st0 : St} {v1 v6 vp v49 : Value} {p : Prog} {gs : List Int} (hro : st0.ro ≤ st0.next) (hA : ∀ id, A id → id < st0.next) (hAp : ∀ id, Ap id → id < st0.next) (hp : RProg Ap st0 vp p) (hg : RSl A st0 1 RU v49 gs) (hgl : gs.length ≤ 10) (hpl : p.length < 100) (hgb : ∀ x ∈ gs, 0 ≤ x ∧ x ≤ 255)
    (hfin : ∀ st vf va i1 i2, FI st0 st vf ((p.map (·.label)).take gs.length) i1 va (gs.take (min gs.length p.length)) i2 → Ok (refinerylaw03_IrPrograms_j4 J v1 v6 (.agg #[vp]) (.agg #[I 0, vf, va]) nothing nothing st) Q)
    (d : Nat) : ∀ (i : Nat) (st : St) (vf va : Value) (i1 i2 : List Nat), i + d = gs.length → FI st0 st vf ((p.map (·.label)).take i) i1 va (gs.take (min i p.length)) i2 →
    Ok (refinerylaw03_IrPrograms_l0 J v1 v6 (.agg #[vp]) (.agg #[I 0, vf, va]) nothing nothing v49 (I gs.length) (I i) st) Q := by
  induction d with
  | zero =>
    intro i st vf va i1 i2 hi h
    refine refinerylaw03_IrPrograms_l0_of hF hJ ?_
    rw [refinerylaw03_IrPrograms_l0_eq]
    have : i = gs.length := by omega
    subst this
    simp
    exact hfin st vf va i1 i2 h
  | succ d ih =>
    intro i st vf va i1 i2 hi h
    refine refinerylaw03_IrPrograms_l0_of hF hJ ?_
    rw [refinerylaw03_IrPrograms_l0_eq]
    have hlt : i < gs.length := by omega
    have hlt' : (i : Int) < gs.length := by omega
    obtain ⟨b, o, k1, k2, _⟩ := RSl.at1 (f := U) hg (List.getElem?_eq_getElem hlt)
    have hb := hgb _ (List.getElem_mem hlt)
    have w1 : IntKind.i64.wrap gs[i] = gs[i] := wrap_id (by omega)
    have w2 : IntKind.i64.wrap ((i : Int) + 1) = (i : Int) + 1 := wrap_id (by omega)
    have hlen := RSl.len hp
    by_cases hip : i < p.length
    · have hip' : (i : Int) < p.length := by omega
      obtain ⟨c, q, cs, m1, -, ⟨vph, vi, rfl, _, _⟩, -, -, m3⟩ := RSl.at hp (List.getElem?_eq_getElem hip)
      have m3 := m3 st 0 (I p[i].label) (h.ext.agree hAp) rfl
      rw [Nat.add_zero] at m3
      obtain ⟨vf', st1, i1', e1, h1⟩ := h.push hro p[i].label (by rw [List.length_take]; omega)
      obtain ⟨va', st2, i2', e2, h2⟩ := h1.swap.push hro gs[i] (by rw [List.length_take]; omega)
      have h2 := h2.swap
      have hsv : sameVal va va = true := same_rep h.a
      have u1 : ∀ s, sUpd 1 1 (.agg #[I 0, vf, va]) vf' s = .ok (.agg #[I 0, vf', va], s) := fun s => (sUpd_one 1 1 [I 0, vf, va] s h2.f.tup h2.f.cells h2.f.cell).trans (by simp [Res.need])
      have u2 : ∀ s, sUpd 1 2 (.agg #[I 0, vf', va]) va' s = .ok (.agg #[I 0, vf', va'], s) := fun s => (sUpd_one 1 2 [I 0, vf', va] s h2.a.tup h2.a.cells h2.a.cell).trans (by simp [Res.need])
      have e3 : (p.map (·.label)).take (i + 1) = (p.map (·.label)).take i ++ [p[i].label] := by rw [List.take_add_one]; simp [hip]
      have e4 : gs.take (min (i + 1) p.length) = gs.take (min i p.length) ++ [gs[i]] := by
        rw [show min (i + 1) p.length = i + 1 by omega, show min i p.length = i by omega, List.take_add_one, List.getElem?_eq_getElem hlt]; rfl
      simp [-sLen_slice, hlt', refinerylaw03_IrPrograms_j3_eq hJ, refinerylaw03_IrPrograms_j5_eq hJ, k1, k2 st (h.ext.agree hA), hlen, hip', Res.of, m1, m3, e1, e2, hsv, w1, u1, u2, Res.need, w2, hip]
      exact ih (i + 1) st2 vf' va' i1' i2' (by omega) (by rw [e3, e4]; exact h2)
    · have hip' : ¬ (i : Int) < p.length := by omega
      have e3 : (p.map (·.label)).take (i + 1) = (p.map (·.label)).take i := by
        rw [List.take_of_length_le (by simp; omega), List.take_of_length_le (by simp; omega)]
      have e4 : min (i + 1) p.length = min i p.length := by omega
      simp [-sLen_slice, hlt', refinerylaw03_IrPrograms_j3_eq hJ, refinerylaw03_IrPrograms_j5_eq hJ, k1, k2 st (h.ext.agree hA), hlen, hip', Res.of, w2, hip]
      exact ih (i + 1) st vf va i1 i2 (by omega) (by rw [e3, e4]; exact h)

theorem fits_small {s : Small} (hs : s.Ok) (hl : s.light = true) : ∀ c ∈ s.prog, c.fits := fun c hc => by
  have hph : c.phis = [] := by
    obtain ⟨i, _, rfl⟩ := List.mem_map.1 hc
    rfl
  have := small_count hs hl
  obtain ⟨i, _, rfl⟩ := List.mem_map.1 hc
  have := ins_len hs hl i
  exact ⟨by rw [hph]; simp, by omega, by rw [hph]; simp⟩

theorem Progs_j4 {s : Small} (hs : s.Ok) (hl : s.light = true) {Ap : Nat → Prop} {st0 st : St} {vp vf va r0 : Value} {rz : Nat} {fs gs : List Int} {i1 i2 : List Nat} {d : Int} (hro : st0.ro ≤ st0.next) (hAp : ∀ id, Ap id → id < st0.next) (hp : RProg Ap st0 vp s.prog) (hrz : st0.get rz = some (.cells [r0])) (hrl : rz < st0.next) (hrro : st0.ro ≤ rz) (hd : 0 ≤ d ∧ d ≤ 255) {m : Nat} (hfs : fs = (s.prog.map (·.label)).take m) (hgl : gs.length = min m s.prog.length) (hgb : ∀ x ∈ gs, 0 ≤ x ∧ x ≤ 255) (h : FI st0 st vf fs i1 va gs i2) :
    Ok (refinerylaw03_IrPrograms_j4 J (U d) (P rz 0) (.agg #[vp]) (.agg #[I 0, vf, va]) nothing nothing st) fun r => r.1 = B true := by
  rw [refinerylaw03_IrPrograms_j4_eq hJ]
  obtain ⟨f1, f2, f3, f4, f5, f6⟩ := small_facts hs hl
  have hpl : s.prog.length = s.n := by simp [Small.prog]
  have hX := h.ext
  have w1 : IntKind.i64.wrap d = d := wrap_id (by omega)
  have u1 : ∀ s, sUpd 1 0 (.agg #[I 0, vf, va]) (I d) s = .ok (.agg #[I d, vf, va], s) := fun s => (sUpd_one 1 0 [I 0, vf, va] s rfl rfl rfl).trans (by simp [Res.need])
  have hfl : fs.length ≤ 8 := by rw [hfs, List.length_take, List.length_map]; omega
  have hrf : RSl (fun id => id ∈ i1) st 1 RInt vf fs := h.f.rsl fun cs x is _ _ hx => hx.1
  have so := Sorted_eq hF hrf (by omega) (Agree.refl _ st)
  have hcnt := small_count hs hl
  have hpp : ∀ c ∈ s.prog, c.phis = [] := fun c hc => by
    obtain ⟨i, _, rfl⟩ := List.mem_map.1 hc
    rfl
  simp [-sNew_eq, w1, u1, Res.of, so]
  refine (Clone_ok hF (fun id h => Nat.lt_of_lt_of_le (hAp id h) hX.next) (hX.roOk hro) (hp.mono (hX.agree hAp)) (by omega) (fun c hc g hg => by rw [hpp c hc] at hg; cases hg)).thn fun ⟨r1, s1⟩ ⟨vq, ids, e1, e2, e3, e4, hE1⟩ => ?_
  simp only at e1 e2 e4 hE1 ⊢
  subst e1
  obtain ⟨b, tl, hbt, -⟩ := small_cons hs hl
  rw [hbt] at e2
  have hro1 : s1.ro ≤ st0.next := by rw [hE1.ro, hX.ro]; exact hro
  have hnx := hX.next; have hnx1 := hE1.next
  obtain ⟨bid, vph, vi, j1, j2, ir, rest, rfl, g1, g2, g3, ⟨m0, m1, m2, m3⟩, ⟨n1, n2, n3⟩, n4, n5, n6, n7, hmk⟩ := first_view e2 e3
  -- the boxes, the phi
  have q1 : sNew [.slice none 0 0] s1 = .ok (P s1.next 0, s1.alloc (.cells [.slice none 0 0])) := rfl
  have q2 : sStore 1 (P s1.next 0) (.agg #[Sl bid 0 (tl.length + 1) 7]) (s1.alloc (.cells [.slice none 0 0])) = .ok (nothing, (s1.alloc (.cells [.slice none 0 0])).put s1.next (.cells [Sl bid 0 (tl.length + 1) 7])) := by
    have : s1.ro ≤ s1.next := by omega
    simp [this, Res.need]
  generalize hs2 : (s1.alloc (.cells [.slice none 0 0])).put s1.next (.cells [Sl bid 0 (tl.length + 1) 7]) = s2 at q2
  have a1 : s2.next = s1.next + 1 := by rw [← hs2]; rfl
  have a2 : s2.ro = s1.ro := by rw [← hs2]; rfl
  have a3 : s2.get s1.next = some (.cells [Sl bid 0 (tl.length + 1) 7]) := by rw [← hs2, get_put, if_pos rfl]
  have a4 : ∀ id, id < s1.next → s2.get id = s1.get id := fun id hi => by rw [← hs2, get_put, if_neg (by omega), get_alloc, if_neg (by omega)]
  clear hs2
  have q3 : s2.load1 s1.next 0 = .ok (Sl bid 0 (tl.length + 1) 7) := load1_eq a3 rfl
  have q4 : sField (some 3) 0 (.agg #[I d, vf, va]) s2 = .ok (.agg #[I d, vf, va], s2) := rfl
  have q5 : sLit 3 1 [I 0, .slice none 0 0, .slice none 0 0] [(0, 3, .agg #[I d, vf, va])] s2 = .ok (Sl s2.next 0 1 3, s2.alloc (.cells [I d, vf, va])) := rfl
  have q6 : ∀ s, sIxA 7 none (Sl bid 0 (tl.length + 1) 7) (I 0) s = .ok (P bid 0, s) := fun s => by
    have : (0 : Int) < ((tl.length + 1 : Nat) : Int) := by omega
    simp [sIxA, index, Res.need]
  have hbi := e4 bid m0
  have q7 : sStore 1 (P bid 1) (Sl s2.next 0 1 3) (s2.alloc (.cells [I d, vf, va])) = .ok (nothing, (s2.alloc (.cells [I d, vf, va])).put bid (.cells (cB b.label (Sl s2.next 0 1 3) vi b.last ++ rest))) := by
    have hg : (s2.alloc (.cells [I d, vf, va])).get bid = some (.cells (cB b.label vph vi b.last ++ rest)) := by rw [get_alloc, if_neg (by omega), a4 bid hbi.2]; exact g1
    have hr : (s2.alloc (.cells [I d, vf, va])).ro ≤ bid := by rw [ro_alloc, a2]; omega
    have hst : (s2.alloc (.cells [I d, vf, va])).storeN bid 1 [Sl s2.next 0 1 3] = .ok ((s2.alloc (.cells [I d, vf, va])).put bid (.cells (cB b.label (Sl s2.next 0 1 3) vi b.last ++ rest))) := by
      rw [storeN_def, hg]
      simp only [need_dec hr, need_dec (show 1 + [Sl s2.next 0 1 3].length ≤ (cB b.label vph vi b.last ++ rest).length by simp [cB])]
      simp [splice, cB, Res.need]
    simp [-storeN_def, hst, Res.need]
  generalize hs4 : (s2.alloc (.cells [I d, vf, va])).put bid (.cells (cB b.label (Sl s2.next 0 1 3) vi b.last ++ rest)) = s4 at q7
  have b1 : s4.next = s1.next + 2 := by rw [← hs4]; show (s2.alloc (.cells [I d, vf, va])).next = _; rw [next_alloc, a1]
  have b2 : s4.ro = s1.ro := by rw [← hs4]; exact a2
  have b3 : s4.get bid = some (.cells (cB b.label (Sl s2.next 0 1 3) vi b.last ++ rest)) := by rw [← hs4, get_put, if_pos rfl]
  have b4 : s4.get s2.next = some (.cells [I d, vf, va]) := by rw [← hs4, get_put, if_neg (by omega), get_alloc, if_pos rfl]
  have b5 : s4.get s1.next = some (.cells [Sl bid 0 (tl.length + 1) 7]) := by rw [← hs4, get_put, if_neg (by omega), get_alloc, if_neg (by omega)]; exact a3
  have b6 : ∀ id, id < s1.next → id ≠ bid → s4.get id = s1.get id := fun id hi hne => by rw [← hs4, get_put, if_neg hne, get_alloc, if_neg (by omega)]; exact a4 id hi
  clear hs4
  have hX4 : Ext st s4 := ⟨by omega, by rw [b2, hE1.ro], fun id hi => by rw [b6 id (by omega) (by omega), hE1.get id hi]⟩
  have q8 : sNew [I 0] s4 = .ok (P s4.next 0, s4.alloc (.cells [I 0])) := rfl
  have q9 : sStore 1 (P s4.next 0) (.int .i64 0) (s4.alloc (.cells [I 0])) = .ok (nothing, (s4.alloc (.cells [I 0])).put s4.next (.cells [I 0])) := by
    have : s4.ro ≤ s4.next := by omega
    simp [this, Res.need]
  generalize hs6 : (s4.alloc (.cells [I 0])).put s4.next (.cells [I 0]) = s6 at q9
  have c1 : s6.next = s4.next + 1 := by rw [← hs6]; rfl
  have c2 : s6.get s4.next = some (.cells [I 0]) := by rw [← hs6, get_put, if_pos rfl]
  have c3 : Ext s4 s6 := by rw [← hs6]; exact (Ext.alloc (Ext.refl _) _).put (Nat.le_refl _) _
  clear hs6
  have q10 : sNew [.slice none 0 0] s6 = .ok (P s6.next 0, s6.alloc (.cells [.slice none 0 0])) := rfl
  have c4 : Ext s4 (s6.alloc (.cells [.slice none 0 0])) := c3.alloc _
  have q11 : (s6.alloc (.cells [.slice none 0 0])).load1 s1.next 0 = .ok (Sl bid 0 (tl.length + 1) 7) := load1_eq (by rw [c4.get _ (by omega)]; exact b5) rfl
  have hlen : ∀ s, sLen .slice (Sl bid 0 (tl.length + 1) 7) s = .ok (I (tl.length + 1 : Nat), s) := fun s => rfl
  have hsee : Value.func (.func n_refinerylaw03_IrPrograms_1) #[] #[P s4.next 0] = seeF2 s4.next := rfl
  have hr41 : s4.ro ≤ s4.next := by omega
  have hr1 : s1.ro ≤ s1.next := by omega
  simp [-sNew_eq, -sStore_int, -sStore_agg, -sStore_slice, -sLen_slice, q1, q2, q3, q4, q5, q6, q7, q8, q9, q10, q11, hlen, hsee, hr41, hr1, Res.need]
  -- q, readable
  have hids : ∀ id, (id ∈ ids ∨ id = s2.next ∨ id ∈ i1 ∨ id ∈ i2) → id < s4.next := fun id hi => by
    rcases hi with hi | hi | hi | hi
    · have := (e4 id hi).2; omega
    · omega
    · have := (h.lo id (List.mem_append_left _ hi)).2; omega
    · have := (h.lo id (List.mem_append_right _ hi)).2; omega
  have hbp : b.phis = [] := hpp b (by rw [hbt]; exact List.mem_cons_self ..)
  have hrf4 : RSl (fun id => id ∈ i1) s4 1 RInt vf fs := hrf.mono (fun _ h => h) (hX4.agree fun id hi => (h.lo id (List.mem_append_left _ hi)).2) fun _ _ _ h => h
  have hra : RSl (fun id => id ∈ i2) st 1 RInt va gs := h.a.rsl fun cs x is _ _ hx => hx.1
  have hra4 : RSl (fun id => id ∈ i2) s4 1 RInt va gs := hra.mono (fun _ h => h) (hX4.agree fun id hi => (h.lo id (List.mem_append_right _ hi)).2) fun _ _ _ h => h
  have hq : RProg (fun id => id ∈ ids ∨ id = s2.next ∨ id ∈ i1 ∨ id ∈ i2) s4 (Sl bid 0 (tl.length + 1) 7) ({ b with phis := [⟨d, fs, gs⟩] } :: tl) := by
    refine hmk _ s4 (Sl s2.next 0 1 3) vi { b with phis := [⟨d, fs, gs⟩] } (.inl m0) (fun id hi => .inl (m3 id hi)) (fun id hi => b6 id (e4 id (m3 id hi)).2 fun e => n3 (e ▸ hi)) b3 ?_ ?_
    · exact only_phi b4 (.inr (.inl rfl)) (hrf4.in fun id hi => .inr (.inr (.inl hi))) (hra4.in fun id hi => .inr (.inr (.inr hi)))
    · exact ((g3.frame (st' := s4) PInstr.fr fun id hi => b6 id (e4 id (m2 id hi)).2 fun e => n2 (e ▸ hi)).rsl (R' := RInstr) fun cs x is _ _ h => h.1).in fun id hi => .inl (m2 id hi)
  have hwp : ({ b with phis := [⟨d, fs, gs⟩] } :: tl : Prog) = withPhi (b :: tl) ⟨d, fs, gs⟩ := rfl
  have hcq : count ({ b with phis := [⟨d, fs, gs⟩] } :: tl) = count s.prog + 1 := by rw [hwp, count_phi _ hbp, hbt]
  have hX0 := hX.trans hX4
  have hgl8 : gs.length ≤ 8 := by omega
  have hfitp := small_fit hs hl
  have hfp := fits_small (J := J) hF hJ hs hl
  rw [hbt] at hfitp hfp
  have hfitg : ∀ r ∈ gs, fit r := fun r hr => by have := hgb r hr; unfold fit; omega
  have hseen : ({ b with phis := [⟨d, fs, gs⟩] } : Block).seen = (d :: gs) ++ b.seen := by
    unfold Block.seen; rw [hbp]; simp [Phi.seen]
  have hfitq : ∀ x ∈ ({ b with phis := [⟨d, fs, gs⟩] } :: tl : Prog), (∀ g ∈ x.phis, g.args.length < 2 ^ 62) ∧ ∀ r ∈ x.seen, fit r := fun x hx => by
    rcases List.mem_cons.1 hx with rfl | hx
    · refine ⟨fun g hg => by rw [List.mem_singleton.1 hg]; simp only; omega, fun r hr => ?_⟩
      rw [hseen] at hr
      rcases List.mem_append.1 hr with hr | hr
      · rcases List.mem_cons.1 hr with rfl | hr
        · unfold fit; omega
        · exact hfitg r hr
      · exact (hfitp b (List.mem_cons_self ..)).2 r hr
    · exact hfitp x (List.mem_cons_of_mem _ hx)
  have hlook : ∀ x ∈ ({ b with phis := [⟨d, fs, gs⟩] } :: tl : Prog), ∀ r ∈ x.look, fit r := fun x hx r hr => (hfitq x hx).2 r (by
    unfold Block.look at hr
    unfold Block.seen
    rcases List.mem_append.1 hr with hr | hr
    · obtain ⟨y, hy, hr⟩ := List.mem_flatMap.1 hr
      exact List.mem_append_right _ (List.mem_append_left _ (List.mem_flatMap.2 ⟨y, hy, (look_seen y r).1 hr⟩))
    · exact List.mem_append_right _ (List.mem_append_right _ hr))
  have hsmq : ∀ x ∈ ({ b with phis := [⟨d, fs, gs⟩] } :: tl : Prog), ∀ g ∈ x.phis, g.frm.length < 2 ^ 40 ∧ g.args.length < 2 ^ 40 := fun x hx g hg => by
    rcases List.mem_cons.1 hx with rfl | hx
    · rw [List.mem_singleton.1 hg]; simp only; omega
    · rw [hpp x (by rw [hbt]; exact List.mem_cons_of_mem _ hx)] at hg; cases hg
  have hfq : ∀ x ∈ ({ b with phis := [⟨d, fs, gs⟩] } :: tl : Prog), x.fits := fun x hx => by
    rcases List.mem_cons.1 hx with rfl | hx
    · exact ⟨by simp, (hfp b (List.mem_cons_self ..)).2.1, fun g hg => by rw [List.mem_singleton.1 hg]; simp only; omega⟩
    · exact hfp x (List.mem_cons_of_mem _ hx)
  have htl : tl.length + 1 = s.n := by rw [← hpl, hbt]; rfl
  have hchk : decide (check ({ b with phis := [⟨d, fs, gs⟩] } :: tl) = 0) = isSorted fs := by
    have h1 := check_phi hs hl hbt ⟨d, fs, gs⟩
    have h2 := phi_check (n := s.n) f6 (m := m) hd hgb (by rw [hgl, hpl])
    rw [← prog_labels, ← hfs] at h2
    rw [hwp, h1]; exact h2
  have hW : WI s4 (s6.alloc (.cells [.slice none 0 0])) s4.next s6.next 0 (.slice none 0 0) [] [] :=
    ⟨c4, Nat.le_refl _, by omega, Nat.lt_succ_self _, by rw [get_alloc, if_neg (by omega)]; exact c2, by rw [get_alloc, if_pos rfl], RepSl.nil _, by simp, by simp⟩
  have hpap : ∀ c ∈ b :: tl, c.phis = [] := fun c hc => hpp c (by rw [hbt]; exact hc)
  have := Progs_l1 hF hJ (Q := fun r => r.1 = B true) (A := fun id => id ∈ ids ∨ id = s2.next ∨ id ∈ i1 ∨ id ∈ i2) (st0 := s4) (rb := s4.next) (lb := s6.next) (v1 := U d) (v6 := P rz 0) (v7 := .agg #[vp]) (v8 := .agg #[I d, vf, va]) (v11 := B (isSorted fs)) (v12 := P s1.next 0) (v26 := nothing) (v27 := nothing) hr41 hids hq (by simp; omega) (by omega) hlook (fun st5 vl5 ids5 h5 => by
    refine Progs_j7 hF hJ (Ap := Ap) (Aq := fun id => id ∈ ids ∨ id = s2.next ∨ id ∈ i1 ∨ id ∈ i2) (Aa := fun id => id ∈ i2) (sb := s4) (f := ⟨d, fs, gs⟩) (p := s.prog) hr41 (by rw [hX0.get _ hrl]; exact hrz) (by rw [hX0.ro]; exact hrro) b5 (Nat.lt_of_lt_of_le hrl hX0.next) (by omega) (fun id h => Nat.lt_of_lt_of_le (hAp id h) hX0.next) hids (fun id hi => hids id (.inr (.inr (.inr hi)))) (hp.mono (hX0.agree hAp)) hq hra4 ?_ (by omega) (by rw [hbt]; exact hfp) (by omega) hsmq hfitq hfq (by simp; omega) rfl hd rfl (by simp only; omega) hfitg hchk ?_ h5
    · rw [hbt]
      intro e
      have := congrArg Block.phis (List.cons.inj e).1
      rw [hbp] at this
      cases this
    · rw [hwp, ← regs_phi hpap, List.foldl_append]
      congr 1) (tl.length + 1) 0 (s6.alloc (.cells [.slice none 0 0])) (.slice none 0 0) [] (by simp) hW
  simpa [count] using this

/-- An answer ahead of the end. -/
theorem Progs_ret {t : St} {rz : Nat} {r0 : Value} {x : Bool} (hg : t.get rz = some (.cells [r0])) (hro : t.ro ≤ rz) : t.storeN rz 0 [.bool x] = .ok (t.put rz (.cells [.bool x])) ∧ (t.put rz (.cells [.bool x])).load1 rz 0 = .ok (.bool x) := by
  refine ⟨by simp [hg, hro, Res.need], load1_eq (by rw [get_put, if_pos rfl]) rfl⟩

theorem Progs_j0 {s : Small} (hs : s.Ok) (hsn : s.blocks.length < 2 ^ 62) {A : Nat → Prop} {st : St} {v vg r0 : Value} {rz : Nat} {gs : List Int} {d : Int} (hro : st.ro ≤ st.next) (hA : ∀ id, A id → id < st.next) (hv : RSmall A st v s) (hg : RSl A st 1 RU vg gs) (hgn : gs.length < 2 ^ 62) (hgb : ∀ x ∈ gs, 0 ≤ x ∧ x ≤ 255) (hd : 0 ≤ d ∧ d ≤ 255) (hrz : st.get rz = some (.cells [r0])) (hrl : rz < st.next) (hrro : st.ro ≤ rz) :
    Ok (refinerylaw03_IrPrograms_j0 J (U d) vg v (P rz 0) nothing nothing st) fun r => r.1 = B true := by
  have hf : ∀ s, sField (some 3) 0 v s = .ok (v, s) := by
    obtain ⟨vb, rfl, _⟩ := hv
    intro s; rfl
  rw [refinerylaw03_IrPrograms_j0_eq hJ]
  simp [-storeN_def, hf]
  refine (Light_ok hF hA hv hsn).call fun s1 hE1 => ?_
  have hrz1 : s1.get rz = some (.cells [r0]) := by rw [hE1.get _ hrl]; exact hrz
  have hro1 : s1.ro ≤ rz := by rw [hE1.ro]; exact hrro
  obtain ⟨t1, t2⟩ := Progs_ret (K := K) hF hJ (x := true) hrz1 hro1
  have hlen := hg.len
  cases hlt : s.light with
  | false =>
    simp [-storeN_def, t1, t2, oneOf, Res.need]
  | true =>
    by_cases hgt : 10 < gs.length
    · have : (10 : Int) < gs.length := by omega
      simp [-storeN_def, -sLen_slice, hlen, this, hgt, t1, t2, oneOf, Res.need]
    have hgl : ¬ (10 : Int) < gs.length := by omega
    simp [-sLen_slice, hlen, hgl, hgt, refinerylaw03_IrPrograms_j1_eq hJ, hf]
    refine (Program_ok hF (hE1.roOk hro) hs hlt (fun id h => Nat.lt_of_lt_of_le (hA id h) hE1.next) (hv.mono (hE1.agree hA))).thn fun ⟨r1, s2⟩ ⟨vp, ids, h1, h2, h3, h4, hE2⟩ => ?_
    simp only at h1 h2 h4 hE2 ⊢
    subst h1
    have hE2' := hE1.trans hE2
    have hup : ∀ s, sUpd 1 0 (.agg #[.slice none 0 0]) (.agg #[vp]) s = .ok (.agg #[vp], s) := fun s => by simp [Res.need, h2.cell]
    have hfc : ∀ s, sField (some 1) 0 (.agg #[vp]) s = .ok (.agg #[vp], s) := fun s => rfl
    have hp := h2.read
    have hE3 : Ext s2 s2.bump := by simp
    have hcnt := small_count hs hlt
    have hpp : ∀ c ∈ s.prog, c.phis = [] := fun c hc => by
      obtain ⟨i, _, rfl⟩ := List.mem_map.1 hc
      rfl
    obtain ⟨f1, f2, f3, f4, f5, f6⟩ := small_facts hs hlt
    have hpl : s.prog.length = s.n := by simp [Small.prog]
    have hids : ∀ s', Ext s2 s' → ∀ id, id ∈ ids → id < s'.next := fun s' hE id hi => Nat.lt_of_lt_of_le (h4 id hi).2 hE.next
    have R : ∀ s', Ext s2 s' → RProg (fun id => id ∈ ids) s' vp s.prog := fun s' hE => hp.mono (hE.agree fun id hi => (h4 id hi).2)
    have hro2 : ∀ s', Ext s2 s' → s'.ro ≤ s'.next := fun s' hE => hE.roOk (hE2'.roOk hro)
    simp [hup, hfc]
    refine (Check_ok hF (hids _ hE3) (R _ hE3) (by omega) (fun c hc g hg => by rw [hpp c hc] at hg; cases hg) (hro2 _ hE3)).call fun s4 hE4 => ?_
    have hE4 := hE3.trans hE4
    have hck : check s.prog = 0 := by
      unfold check
      rw [if_neg (by omega), if_neg (by omega), if_pos (small_dup hs hlt)]
      exact ferr_zero fun e he => by
        obtain ⟨c, hc, rfl⟩ := List.mem_map.1 he
        have hc' := hc
        obtain ⟨i, hi, rfl⟩ := List.mem_map.1 hc'
        exact block_fine hs hlt (List.mem_range.1 hi)
    rw [hck]
    simp [hfc]
    refine (Plain_ok hF (hids _ hE4) (R _ hE4) (by omega) (fun c hc => by rw [hpp c hc]; decide)).thn fun ⟨r1, s5⟩ ⟨g1, hE5⟩ => ?_
    simp only at g1 hE5 ⊢
    subst g1
    have hpln : plain s.prog = true := by
      unfold plain
      rw [List.all_eq_true]
      exact fun c hc => by rw [hpp c hc]; rfl
    have hE5 := hE4.trans hE5
    have hX := hE2'.trans hE5
    rw [hpln]
    simp [-sLen_slice, refinerylaw03_IrPrograms_j2_eq hJ, hlen]
    have hX6 : Ext st s5.bump := hX.bump
    have hE6 : Ext s2 s5.bump := hE5.bump
    have hagA : RSl A s5.bump 1 RU vg gs := hg.mono (fun _ h => h) (hX6.agree hA) fun _ _ _ h => h
    refine Progs_l0 hF hJ (A := A) (Ap := fun id => id ∈ ids) (st0 := s5.bump) (p := s.prog) (hX6.roOk hro) (fun id h => Nat.lt_of_lt_of_le (hA id h) hX6.next) (hids _ hE6) (R _ hE6) hagA (by omega) (by omega) hgb (fun s7 vf va i1 i2 h7 => ?_) gs.length 0 s5.bump _ _ [] [] (by omega) ⟨Ext.refl _, RepSl.nil _, RepSl.nil _, by simp, by simp⟩
    exact Progs_j4 hF hJ hs hlt (Ap := fun id => id ∈ ids) (hX6.roOk hro) (hids _ hE6) (R _ hE6) (by rw [hX6.get _ hrl]; exact hrz) (Nat.lt_of_lt_of_le hrl hX6.next) (by rw [hX6.ro]; exact hrro) hd (m := gs.length) rfl (by rw [List.length_take]; omega) (fun x hx => hgb x (List.mem_of_mem_take hx)) h7
end

theorem IrPrograms_ok {s : Small} (hs : s.Ok) (hsn : s.blocks.length < 2 ^ 62) {A : Nat → Prop} {st : St} {v vg : Value} {gs : List Int} {d : Int} (hro : st.ro ≤ st.next) (hA : ∀ id, A id → id < st.next) (hv : RSmall A st v s) (hg : RSl A st 1 RU vg gs) (hgn : gs.length < 2 ^ 62) (hgb : ∀ x ∈ gs, 0 ≤ x ∧ x ≤ 255) (hd : 0 ≤ d ∧ d ≤ 255) :
    Ok (K.go (.call n_refinerylaw03_IrPrograms [v, U d, vg]) st) fun r => r.1 = B true := by
  refine refinerylaw03_IrPrograms_of hF fun J hJ => ?_
  rw [refinerylaw03_IrPrograms_eq]
  have hlb : sLbox v st = .ok (v, st.bump) := by
    obtain ⟨vb, rfl, _⟩ := hv
    rfl
  have hE0 : Ext st (st.bump.alloc (.cells [.bool false])) := by simp
  have hg0 : (st.bump.alloc (.cells [.bool false])).get (st.next + 1) = some (.cells [.bool false]) := by rw [get_alloc, if_pos (by rfl)]
  have hn0 : (st.bump.alloc (.cells [.bool false])).next = st.next + 2 := rfl
  simp [hlb]
  refine (Awake3_ok hF _ (hE0.roOk hro)).call fun s1 hE1 => ?_
  have hX := hE0.trans hE1
  have h1 : st.next + 1 < s1.next := by have := hE1.next; omega
  simp
  exact Progs_j0 hF hJ hs hsn (A := A) (hX.roOk hro) (fun id h => Nat.lt_of_lt_of_le (hA id h) hX.next) (hv.mono (hX.agree hA)) (hg.mono (fun _ h => h) (hX.agree hA) fun _ _ _ h => h) hgn hgb hd (by rw [hE1.get _ (by omega)]; exact hg0) h1 (by rw [hX.ro]; omega)

theorem IrPrograms_args (st : St) (args : List Value) (hro : st.ro = st.next) (h : WVs pg st [42, 5, 22] args) : Ok (K.go (.call n_refinerylaw03_IrPrograms args) st) fun r => r.1 = .bool true := by
  match args, h with
  | [v0, v1, v2], ⟨h0, h1, h2, _⟩ =>
    obtain ⟨s, hv, hs, hl⟩ := wv_Small h0
    obtain ⟨n1, rfl, w1⟩ := h1.int Try.underlying5
    obtain ⟨l, hr, hll⟩ := h2.rsl (R := fun cs x => RU cs x ∧ (0 ≤ x ∧ x ≤ 255)) (c := 1) Try.underlying22 (by kernel_rfl) fun cs hc => by
      obtain ⟨x, e, w⟩ := hc.getInt Try.underlying5
      exact ⟨x, e, bounds_u8 w⟩
    have hb : pg.bytesOf 5 = 1 := by kernel_rfl
    rw [hb] at hll
    have : reachBytes < 2 ^ 62 := by decide
    exact IrPrograms_ok hF hs hl (Nat.le_of_eq hro) (fun id h => h) hv (hr.mono (fun _ h => h) (Agree.refl _ _) fun _ _ _ h => h.1) (by omega) (rsl_all hr) (bounds_u8 w1)
end Go.Proofs.Ytfknooeebmdfoaa.Sh

