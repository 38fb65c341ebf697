/-
  IrPrograms: the first block, seen and turned; what is seen, listed.
-/
import Derived.Test.YtfknooeebmdfoaaIrPlain3
import Derived.Test.YtfknooeebmdfoaaIrRange
import Derived.Test.YtfknooeebmdfoaaIrCounts
import Derived.Test.YtfknooeebmdfoaaShL10
set_option linter.unusedVariables false
set_option linter.unusedSimpArgs false
set_option linter.unusedSectionVars false
set_option maxRecDepth 100000
namespace Go.Proofs.Ytfknooeebmdfoaa.Sh
open Go Go.AM Go.Proofs

/-- The first of one's own blocks: what stands where; another one instead. -/
theorem first_view {st : St} {vp : Value} {b : Block} {q : Prog} {ids : List Nat} (h : PProg st vp (b :: q) ids) (hnd : ids.Nodup) : ∃ (bid : Nat) (vph vi : Value) (i1 i2 ir : List Nat) (rest : List Value),
    vp = Sl bid 0 (q.length + 1) 7 ∧ st.get bid = some (.cells (cB b.label vph vi b.last ++ rest)) ∧ RepSl 3 PPhi st vph b.phis i1 ∧ RepSl 7 PInstr st vi b.instrs i2 ∧ (bid ∈ ids ∧ (∀ id ∈ i1, id ∈ ids) ∧ (∀ id ∈ i2, id ∈ ids) ∧ ∀ id ∈ ir, id ∈ ids) ∧ (bid ∉ i1 ∧ bid ∉ i2 ∧ bid ∉ ir) ∧ (∀ id ∈ i1, id ∉ i2 ∧ id ∉ ir) ∧ (∀ id ∈ i2, id ∉ ir) ∧ i1.Nodup ∧ i2.Nodup ∧
    ∀ (A : Nat → Prop) (st' : St) (vph' vi' : Value) (b' : Block), A bid → (∀ id ∈ ir, A id) → (∀ id ∈ ir, st'.get id = st.get id) → st'.get bid = some (.cells (cB b'.label vph' vi' b'.last ++ rest)) → RSl A st' 3 (RPhi A st') vph' b'.phis → RSl A st' 7 RInstr vi' b'.instrs → RProg A st' vp (b' :: q) := by
  rcases h with ⟨h, _⟩ | ⟨bid, css, idss, rfl, h2, h3, h4, h5, h6, rfl⟩
  · cases h
  match css, h3, idss, h4 with
  | c0 :: css, h3, is0 :: idss, h4 =>
    obtain ⟨vph, vi, i1, i2, e1, e2, e3, e4⟩ := h6 0 b c0 is0 rfl rfl rfl
    subst e1; subst e4
    rw [List.flatten_cons] at h2 hnd
    have hn := List.nodup_cons.1 hnd
    have hn2 := List.nodup_append.1 hn.2
    have hn3 := List.nodup_append.1 hn2.1
    refine ⟨bid, vph, vi, i1, i2, idss.flatten, css.flatten, rfl, h2, e2, e3, ⟨List.mem_cons_self .., fun id hi => by simp [hi], fun id hi => by simp [hi], fun id hi => ?_⟩, ⟨fun hm => hn.1 (by simp [hm]), fun hm => hn.1 (by simp [hm]), fun hm => hn.1 (List.mem_append_right _ hm)⟩, fun id hi => ⟨fun hm => hn3.2.2 id hi id hm rfl, fun hm => hn2.2.2 id (List.mem_append_left _ hi) id hm rfl⟩, fun id hi hm => hn2.2.2 id (List.mem_append_right _ hi) id hm rfl, hn3.1, hn3.2.1, ?_⟩
    · rw [List.flatten_cons]
      exact List.mem_cons_of_mem _ (List.mem_append_right _ hi)
    intro A st' vph' vi' b' hA hAr hE hg hph hvi
    have hcl : ∀ cs ∈ (cB b'.label vph' vi' b'.last :: css), cs.length = 7 := fun cs hc => by
      rcases List.mem_cons.1 hc with rfl | hc
      · rfl
      · exact (h5 cs (List.mem_cons_of_mem _ hc)).1
    have h3' : css.length = q.length := by simpa using h3
    have h4' : idss.length = q.length := by simpa using h4
    refine .inr ⟨bid, 0, _, rfl, hA, hg, ?_, fun i x hx => ?_⟩
    · rw [← List.flatten_cons, flat_len hcl]; simp [h3']
    · rw [Nat.zero_add, ← List.flatten_cons]
      cases i with
      | zero =>
        simp at hx
        subst hx
        rw [flat_at hcl (i := 0) rfl]
        exact ⟨vph', vi', rfl, hph, hvi⟩
      | succ i =>
        have hi : i < q.length := by have := (List.getElem?_eq_some_iff.1 hx).1; simpa using this
        have hc : css[i]? = some css[i] := List.getElem?_eq_getElem (by omega)
        have his : idss[i]? = some idss[i] := List.getElem?_eq_getElem (by omega)
        rw [flat_at hcl (i := i + 1) (cs := css[i]) hc]
        have hb := h6 (i + 1) x css[i] idss[i] hx hc his
        have hsub : ∀ id ∈ idss[i], id ∈ idss.flatten := fun id hi => List.mem_flatten.2 ⟨_, List.mem_of_getElem? his, hi⟩
        exact ((PBlock.fr.fr hb fun id hid => hE id (hsub id hid)).read (js := idss.flatten) hsub).in hAr

/-- A list of one phi: what stands where. -/
theorem phi_view {st : St} {vph : Value} {f : Phi} {i1 : List Nat} (h : RepSl 3 PPhi st vph [f] i1) (hnd : i1.Nodup) : ∃ (pb : Nat) (vf va : Value) (j1 j2 : List Nat), vph = Sl pb 0 1 3 ∧ st.get pb = some (.cells [I f.dst, vf, va]) ∧ RepSl 1 PInt st vf f.frm j1 ∧ RepSl 1 PInt st va f.args j2 ∧ pb ∈ i1 ∧ (∀ id ∈ j1, id ∈ i1 ∧ id ≠ pb) ∧ (∀ id ∈ j2, id ∈ i1 ∧ id ≠ pb) := by
  rcases h with ⟨h, _⟩ | ⟨pb, css, idss, rfl, h2, h3, h4, h5, h6, rfl⟩
  · cases h
  match css, h3, idss, h4 with
  | [c0], h3, [is0], h4 =>
    obtain ⟨vf, va, j1, j2, e1, e2, e3, e4⟩ := h6 0 f c0 is0 rfl rfl rfl
    subst e1; subst e4
    have hn := List.nodup_cons.1 hnd
    simp only [List.flatten_cons, List.flatten_nil, List.append_nil] at h2 hn ⊢
    refine ⟨pb, vf, va, j1, j2, rfl, h2, e2, e3, List.mem_cons_self .., fun id hi => ⟨by simp [hi], fun e => hn.1 (e ▸ List.mem_append_left _ hi)⟩, fun id hi => ⟨by simp [hi], fun e => hn.1 (e ▸ List.mem_append_right _ hi)⟩⟩
theorem ins_view {st : St} {vi : Value} {l : List Instr} {i2 : List Nat} (h : RepSl 7 PInstr st vi l i2) (hl : l ≠ []) : ∃ ib : Nat, vi = Sl ib 0 l.length 7 ∧ ib ∈ i2 ∧ st.get ib = some (.cells (l.map cI).flatten) := by
  rcases h with ⟨h, _⟩ | ⟨ib, css, idss, rfl, h2, h3, h4, h5, h6, rfl⟩
  · exact absurd h hl
  · rw [flat_instr h3 h4 h6] at h2
    exact ⟨ib, rfl, List.mem_cons_self .., h2⟩

/-- Nothing was turned but that block. -/
structure Just (c : Nat) (st st' : St) : Prop where
  next : st.next ≤ st'.next
  ro : st'.ro = st.ro
  get : ∀ id, id < st.next → id ≠ c → st'.get id = st.get id
theorem Just.ext {c : Nat} {a b d : St} (h : Ext a b) (hc : a.next ≤ c) (k : Just c b d) : Ext a d :=
  ⟨Nat.le_trans h.next k.next, k.ro.trans h.ro, fun id hi => by have := h.next; rw [k.get id (by omega) (by omega)]; exact h.get id hi⟩

def seeF2 (c : Nat) : Value := .func (.func n_refinerylaw03_IrPrograms_1) #[] #[P c 0]

section
variable {K : Ctx} (hF : Fix pgF K)
include hF

theorem SeeL_loop {J} (hJ : IsJ K (retK refinerylaw03_IrPrograms_1_c.results) J) {rb : Nat} {A : Nat → Prop} {st0 : St} {v : Value} {l : List Int} (h : RSl A st0 1 RInt v l) (hA : ∀ id, A id → id < st0.next ∧ id ≠ rb) (hro : st0.ro ≤ rb) (hf : ∀ r ∈ l, fit r) (hl : l.length < 2 ^ 62) (d : Nat) : ∀ (i : Nat) (n : Int) (st : St), i + d = l.length → Just rb st0 st → st.get rb = some (.cells [I n]) →
    Ok (refinerylaw03_IrPrograms_1_l0 J (P rb 0) v (I l.length) (I i) st) fun r => r.1 = .tuple #[] ∧ r.2.get rb = some (.cells [I ((l.drop i).foldl mx n)]) ∧ Just rb st0 r.2 := by
  induction d with
  | zero =>
    intro i n st hi hB hg
    generalize hQ : (fun r : Value × St => r.1 = .tuple #[] ∧ r.2.get rb = some (.cells [I ((l.drop i).foldl mx n)]) ∧ Just rb st0 r.2) = Q
    refine refinerylaw03_IrPrograms_1_l0_of hF hJ ?_
    rw [refinerylaw03_IrPrograms_1_l0_eq]
    have : i = l.length := by omega
    subst this
    simp
    rw [← hQ, List.drop_length]
    exact ⟨rfl, hg, hB⟩
  | succ d ih =>
    intro i n st hi hB hg
    generalize hQ : (fun r : Value × St => r.1 = .tuple #[] ∧ r.2.get rb = some (.cells [I ((l.drop i).foldl mx n)]) ∧ Just rb st0 r.2) = Q
    refine refinerylaw03_IrPrograms_1_l0_of hF hJ ?_
    rw [refinerylaw03_IrPrograms_1_l0_eq]
    have hlt : i < l.length := by omega
    have hlt' : (i : Int) < l.length := by omega
    obtain ⟨b, o, k1, k2, _⟩ := h.at1 (f := I) (List.getElem?_eq_getElem hlt)
    have k2 := k2 st fun id hid => hB.get id (hA id hid).1 (hA id hid).2
    have hr := hf _ (List.getElem_mem hlt)
    unfold fit at hr
    have hw : IntKind.i64.wrap (l[i] + 1) = l[i] + 1 := wrap_id (by omega)
    have hld : st.load1 rb 0 = .ok (I n) := load1_eq hg rfl
    have hst : st.storeN rb 0 [I (mx n l[i])] = .ok (st.put rb (.cells [I (mx n l[i])])) := by
      have : st.ro ≤ rb := by rw [hB.ro]; exact hro
      simp [hg, this, Res.need]
    have hm : (if l[i] + 1 > n then l[i] + 1 else n) = mx n l[i] := rfl
    simp only [gt_iff_lt] at hm
    simp [-storeN_def, hlt', refinerylaw03_IrPrograms_1_j0_eq hJ, refinerylaw03_IrPrograms_1_j1_eq hJ, k1, k2, hld, hw, hm, hst, Res.need]
    rw [wrap_id (n := (i : Int) + 1) (by omega), ← hQ, List.drop_eq_getElem_cons hlt, List.foldl_cons]
    refine ih (i + 1) (mx n l[i]) _ (by omega) ⟨hB.next, hB.ro, fun id h1 h2 => by rw [get_put, if_neg h2]; exact hB.get id h1 h2⟩ (by rw [get_put, if_pos rfl])

theorem SeeL_ok {rb : Nat} {A : Nat → Prop} {st : St} {v : Value} {l : List Int} {n : Int} (h : RSl A st 1 RInt v l) (hA : ∀ id, A id → id < st.next ∧ id ≠ rb) (hro : st.ro ≤ rb) (hf : ∀ r ∈ l, fit r) (hl : l.length < 2 ^ 62) (hg : st.get rb = some (.cells [I n])) :
    Ok (sCall K (seeF2 rb) [v] st) fun r => r.1 = .tuple #[] ∧ r.2.get rb = some (.cells [I (l.foldl mx n)]) ∧ Just rb st r.2 := by
  have e : sCall K (seeF2 rb) [v] st = K.go (.call n_refinerylaw03_IrPrograms_1 [v, P rb 0]) st := by simp [sCall, seeF2, taskOf]
  rw [e]
  generalize hQ : (fun r : Value × St => r.1 = .tuple #[] ∧ r.2.get rb = some (.cells [I (l.foldl mx n)]) ∧ Just rb st r.2) = Q
  refine refinerylaw03_IrPrograms_1_of hF fun J hJ => ?_
  rw [refinerylaw03_IrPrograms_1_eq]
  simp [h.len]
  rw [← hQ]
  exact SeeL_loop hF hJ h hA hro hf hl l.length 0 n st (by omega) ⟨Nat.le_refl _, rfl, fun _ _ _ => rfl⟩ hg
end

/-- What there is while the instructions are listed. -/
structure WI (st0 st : St) (rb lb : Nat) (n : Int) (vl : Value) (l : List Instr) (ids : List Nat) : Prop where
  ext : Ext st0 st
  k1 : st0.next ≤ rb
  k2 : rb < lb
  kl : lb < st.next
  gr : st.get rb = some (.cells [I n])
  gl : st.get lb = some (.cells [vl])
  ls : RepSl 7 PInstr st vl l ids
  nd : ids.Nodup
  lo : ∀ id ∈ ids, lb < id ∧ id < st.next

section
variable {st0 st st' : St} {rb lb : Nat} {n : Int} {vl : Value} {l : List Instr} {ids : List Nat}
theorem WI.mono (h : WI st0 st rb lb n vl l ids) (hE : Ext st st') : WI st0 st' rb lb n vl l ids where
  ext := h.ext.trans hE
  k1 := h.k1
  k2 := h.k2
  kl := Nat.lt_of_lt_of_le h.kl hE.next
  gr := by have := h.k2; have := h.kl; rw [hE.get _ (by omega)]; exact h.gr
  gl := by rw [hE.get _ h.kl]; exact h.gl
  ls := h.ls.frame PInstr.fr fun id hi => hE.get id (h.lo id hi).2
  nd := h.nd
  lo := fun id hi => ⟨(h.lo id hi).1, Nat.lt_of_lt_of_le (h.lo id hi).2 hE.next⟩
theorem WI.see (h : WI st0 st rb lb n vl l ids) (hB : Just rb st st') {m : Int} (hg : st'.get rb = some (.cells [I m])) : WI st0 st' rb lb m vl l ids where
  ext := hB.ext h.ext h.k1
  k1 := h.k1
  k2 := h.k2
  kl := Nat.lt_of_lt_of_le h.kl hB.next
  gr := hg
  gl := by have := h.k2; rw [hB.get _ h.kl (by omega)]; exact h.gl
  ls := h.ls.frame PInstr.fr fun id hi => by have q := h.lo id hi; have := h.k2; exact hB.get id q.2 (by omega)
  nd := h.nd
  lo := fun id hi => ⟨(h.lo id hi).1, Nat.lt_of_lt_of_le (h.lo id hi).2 hB.next⟩
theorem WI.push (h : WI st0 st rb lb n vl l ids) (hro : st0.ro ≤ st0.next) (x : Instr) (hl : l.length < 1000) : ∃ vl' st1 ids', sAppend 7 48 vl (Sl st.next 0 1 7) (st.alloc (.cells (cI x))) = .ok (vl', st1) ∧ sStore 1 (P lb 0) vl' st1 = .ok (nothing, st1.put lb (.cells [vl'])) ∧ WI st0 (st1.put lb (.cells [vl'])) rb lb n vl' (l ++ [x]) ids' := by
  have k1 := h.k1; have k2 := h.k2; have kl := h.kl; have hn := h.ext.next
  obtain ⟨v', st1, ids', r, p1, p2, p3, p4, p5, p6⟩ := RepSl.push (bytes := 48) PInstr.fr h.ls (by omega) (x := x) (cs := cI x) (is := []) ⟨rfl, rfl⟩ rfl rfl (fun id hi => (h.lo id (by simpa using hi)).2) (fun id hi => by
    have := (h.lo id hi).1; rw [h.ext.ro]; omega) (by simpa using h.nd) (by omega)
  have hnl : ∀ id, id ≤ lb → id ∉ ids := fun id hi hm => by have := (h.lo id hm).1; omega
  have hids : ∀ id ∈ ids', lb < id ∧ id < st1.next := fun id hi => by
    rcases p3 id hi with q | q | q
    · have := h.lo id q; omega
    · cases q
    · omega
  have hgl : st1.get lb = some (.cells [vl]) := by rw [p4 lb kl (hnl _ (Nat.le_refl _))]; exact h.gl
  obtain ⟨a, m, k, hsh⟩ := p1.shape
  have hst : sStore 1 (P lb 0) v' st1 = .ok (nothing, st1.put lb (.cells [v'])) := by
    have : st1.ro ≤ lb := by rw [p6, h.ext.ro]; omega
    rw [hsh]
    simp [hgl, this, Res.need]
  refine ⟨v', st1, ids', r, hst, ⟨⟨by show st0.next ≤ st1.next; omega, by show st1.ro = st0.ro; rw [p6, h.ext.ro], fun id hi => ?_⟩, k1, k2, by show lb < st1.next; omega, ?_, by rw [get_put, if_pos rfl], p1.frame PInstr.fr fun id hi => by have := (hids id hi).1; rw [get_put, if_neg (by omega)], p2, hids⟩⟩
  · rw [get_put, if_neg (by omega), p4 id (by omega) (hnl id (by omega))]; exact h.ext.get id hi
  · rw [get_put, if_neg (by omega), p4 rb (by omega) (hnl rb (by omega))]; exact h.gr
end
end Go.Proofs.Ytfknooeebmdfoaa.Sh

