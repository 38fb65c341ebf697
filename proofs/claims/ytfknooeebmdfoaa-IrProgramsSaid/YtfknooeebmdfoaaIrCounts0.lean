/-
  Two lists together; the first of one's own blocks is turned.
-/
import Derived.Test.YtfknooeebmdfoaaIrClone
import Derived.Test.YtfknooeebmdfoaaIrChecks0
set_option linter.unusedVariables false
set_option linter.unusedSimpArgs false
set_option linter.unusedSectionVars false
set_option maxRecDepth 100000
namespace Go.Proofs.Ytfknooeebmdfoaa.Sh
open Go Go.AM Go.Proofs

/-- One list behind another, that is one's own. -/
theorem _root_.Go.AM.RepSl.cat {α : Type} {s bytes : Nat} {R : Rep α} {st : St} {v1 v2 : Value} {l1 l2 : List α} {ids1 ids2 : List Nat} (hF : Framed R) (h1 : RepSl s R st v1 l1 ids1) (h2 : RepSl s R st v2 l2 ids2) (hl1 : l1 ≠ []) (hs : 0 < s) (hlt1 : ∀ id ∈ ids1, id < st.next) (hlt2 : ∀ id ∈ ids2, id < st.next)
    (hro : ∀ id ∈ ids1, st.ro ≤ id) (hnd : (ids1 ++ ids2).Nodup) (hb : (l1.length + l2.length) * bytes ≤ 2 ^ 46) :
    ∃ (v' : Value) (st' : St) (ids' : List Nat), sAppend s bytes v1 v2 st = .ok (v', st') ∧ RepSl s R st' v' (l1 ++ l2) ids' ∧ (∀ id ∈ ids', id ∈ ids1 ∨ id ∈ ids2 ∨ (st.next ≤ id ∧ id < st'.next)) ∧ (∀ id, id < st.next → id ∉ ids1 → st'.get id = st.get id) ∧ st.next ≤ st'.next ∧ st'.ro = st.ro := by
  have hneed : ∀ {b : Bool} {s : String}, b = true → Res.need b s = .ok () := fun h => by subst h; rfl
  have h1' := h1
  rcases h1 with ⟨h, _⟩ | ⟨b, css, idss, rfl, h2', h3, h4, h5, h6, rfl⟩
  · exact absurd h hl1
  have hnil : l2 = [] → sAppend s bytes (Sl b 0 l1.length s) v2 st = .ok (Sl b 0 l1.length s, st) := fun e => by
    subst e
    rcases h2 with ⟨_, _, c, rfl⟩ | ⟨b2, css2, idss2, rfl, g2, g3, g4, g5, g6, rfl⟩
    · simp [sAppend, aappend, lenL, firstL, Res.need]
    · have : firstL st s 0 (Sl b2 0 0 s) = .ok [] := by
        simp [firstL, St.loadN, cells_eq g2, Res.need]
      have e : sAppend s bytes (Sl b 0 l1.length s) (Sl b2 0 0 s) st = .ok (Sl b 0 l1.length s, st) := by
        simp only [sAppend, aappend, lenL, this, Res.bind_ok]
        simp [Res.need]
      exact e
  by_cases h0 : l2 = []
  · refine ⟨_, st, _, hnil h0, by rw [h0, List.append_nil]; exact h1', fun id hi => .inl hi, fun _ _ _ => rfl, Nat.le_refl _, rfl⟩
  rcases h2 with ⟨h, _⟩ | ⟨b2, css2, idss2, rfl, g2, g3, g4, g5, g6, rfl⟩
  · exact absurd h h0
  have hpos : 0 < l2.length := List.length_pos_iff.2 h0
  have hlen1 : css.flatten.length = l1.length * s := by rw [flat_len fun cs hc => (h5 cs hc).1, h3]
  have hlen2 : css2.flatten.length = l2.length * s := by rw [flat_len fun cs hc => (g5 cs hc).1, g3]
  have hf : firstL st s l2.length (Sl b2 0 l2.length s) = .ok css2.flatten := by
    simp only [firstL, hneed (decide_eq_true (rfl : s = s)), Res.bind_ok, St.loadN, cells_eq g2, hneed (decide_eq_true (show 0 + l2.length * s ≤ css2.flatten.length by omega))]
    rw [List.drop_zero, List.take_of_length_le (by omega)]
    rfl
  have hck : css2.flatten.all cellOk = true := by
    rw [List.all_flatten, List.all_eq_true]
    exact fun cs hc => (g5 cs hc).2
  have hbb : (l1.length + l2.length) * bytes ≤ mostBytes := hb
  have hps : 0 < l2.length * s := Nat.mul_pos hpos hs
  have hnot : ¬ 0 + (l1.length + l2.length) * s ≤ css.flatten.length := by rw [hlen1, Nat.add_mul]; omega
  have hex : 0 + l1.length * s = css.flatten.length := by omega
  have hbm : b ∈ b :: idss.flatten := List.mem_cons_self ..
  have hrb : st.ro ≤ b := hro b hbm
  rw [List.nodup_append] at hnd
  have hkeep : ∀ id, id < st.next → id ≠ b → ((st.put b .dead).alloc (.cells (css.flatten ++ css2.flatten))).get id = st.get id := fun id hi hne => by
    rw [get_alloc, if_neg (by show id ≠ st.next; omega), get_put, if_neg hne]
  refine ⟨Sl st.next 0 (l1.length + l2.length) s, (st.put b .dead).alloc (.cells (css.flatten ++ css2.flatten)), st.next :: (idss ++ idss2).flatten, ?_, .inr ⟨st.next, css ++ css2, idss ++ idss2, by simp, by rw [get_alloc, if_pos (by rfl)]; simp, by simp [h3, g3], by simp [h4, g4], ?_, ?_, rfl⟩, ?_, fun id hi hne => hkeep id hi fun e => hne (e ▸ hbm), Nat.le_succ _, rfl⟩
  · simp only [sAppend, aappend, lenL, hf, Res.bind_ok, hneed (decide_eq_true hlen2), if_neg (show ¬ l2.length = 0 by omega), hneed (decide_eq_true hbb), hneed hck, hneed (decide_eq_true (rfl : s = s)), cells_eq h2', hneed (decide_eq_true hrb), if_neg hnot, hneed (decide_eq_true hex), List.drop_zero]
    rfl
  · intro c hc
    rcases List.mem_append.1 hc with hc | hc
    · exact h5 c hc
    · exact g5 c hc
  · intro i y c2 i2 hy hc hi
    rw [List.getElem?_append] at hy hc hi
    rw [h3] at hc
    rw [h4] at hi
    split at hy
    · rename_i hil
      rw [if_pos hil] at hc hi
      refine hF.fr (h6 i y c2 i2 hy hc hi) fun id hid => ?_
      have hm : id ∈ idss.flatten := List.mem_flatten.2 ⟨i2, List.mem_of_getElem? hi, hid⟩
      exact hkeep id (hlt1 id (List.mem_cons_of_mem _ hm)) fun e => (List.nodup_cons.1 hnd.1).1 (e ▸ hm)
    · rename_i hil
      rw [if_neg hil] at hc hi
      refine hF.fr (g6 _ y c2 i2 hy hc hi) fun id hid => ?_
      have hm : id ∈ idss2.flatten := List.mem_flatten.2 ⟨i2, List.mem_of_getElem? hi, hid⟩
      exact hkeep id (hlt2 id (List.mem_cons_of_mem _ hm)) fun e => hnd.2.2 b hbm id (List.mem_cons_of_mem _ hm) e.symm
  · intro id hid
    rcases List.mem_cons.1 hid with rfl | hid
    · exact .inr (.inr ⟨Nat.le_refl _, Nat.lt_succ_self _⟩)
    · rw [List.flatten_append, List.mem_append] at hid
      rcases hid with hid | hid
      · exact .inl (List.mem_cons_of_mem _ hid)
      · exact .inr (.inl (List.mem_cons_of_mem _ hid))

/-- The first of one's own blocks: where it stands; other instructions instead. -/
theorem first_put {st : St} {vp : Value} {b : Block} {q : Prog} {ids : List Nat} (h : PProg st vp (b :: q) ids) (hnd : ids.Nodup) : ∃ (bid : Nat) (vi : Value) (i2 : List Nat), vp = Sl bid 0 (q.length + 1) 7 ∧ bid ∈ ids ∧ bid ∉ i2 ∧ i2.Nodup ∧ (∀ id ∈ i2, id ∈ ids) ∧ RepSl 7 PInstr st vi b.instrs i2 ∧ (∀ st' : St, st'.get bid = st.get bid → st'.load1 bid 2 = .ok vi) ∧
    ∀ (st1 : St) (vi' : Value) (i2' : List Nat) (l' : List Instr), (∀ id ∈ ids, id ∉ i2 → st1.get id = st.get id) → RepSl 7 PInstr st1 vi' l' i2' → bid ∉ i2' → st1.ro ≤ bid → ∃ (st2 : St) (ids' : List Nat), st1.storeN bid 2 [vi'] = .ok st2 ∧ PProg st2 vp ({ b with instrs := l' } :: q) ids' ∧ (∀ id ∈ ids', id ∈ ids ∨ id ∈ i2') ∧ (∀ id, id ≠ bid → st2.get id = st1.get id) ∧ st2.next = st1.next ∧ st2.ro = st1.ro := by
  rcases h with ⟨h, _⟩ | ⟨bid, css, idss, rfl, h2, h3, h4, h5, h6, rfl⟩
  · simp at h
  match css, h3, idss, h4 with
  | c0 :: css, h3, is0 :: idss, h4 =>
    obtain ⟨vph, vi, i1, i2, e1, e2, e3, e4⟩ := h6 0 b c0 is0 rfl rfl rfl
    have hnd' := List.nodup_cons.1 hnd
    have hsub : ∀ id ∈ is0, id ∈ (is0 :: idss).flatten := fun id hi => by simp [hi]
    have hi2 : ∀ id ∈ i2, id ∈ is0 := fun id hi => by rw [e4]; exact List.mem_append_right _ hi
    have hdis : ∀ id ∈ i2, id ∉ i1 ∧ id ∉ idss.flatten := fun id hi => by
      have h := hnd'.2
      rw [List.flatten_cons, List.nodup_append] at h
      refine ⟨fun hm => ?_, fun hm => h.2.2 id (hi2 id hi) id hm rfl⟩
      have h' := h.1
      rw [e4, List.nodup_append] at h'
      exact h'.2.2 id hm id hi rfl
    have hn2 : i2.Nodup := by
      have h := hnd'.2
      rw [List.flatten_cons, List.nodup_append] at h
      have h' := h.1
      rw [e4, List.nodup_append] at h'
      exact h'.2.1
    refine ⟨bid, vi, i2, rfl, List.mem_cons_self .., fun hm => hnd'.1 (hsub _ (hi2 _ hm)), hn2, fun id hi => List.mem_cons_of_mem _ (hsub _ (hi2 _ hi)), e3, fun st' hE => ?_, fun st1 vi' i2' l' hE hv' hbn hro => ?_⟩
    · exact load1_eq (by rw [hE]; exact h2) (by rw [e1]; rfl)
    · have g1 : st1.get bid = some (.cells (c0 :: css).flatten) := by rw [hE bid (List.mem_cons_self ..) fun hm => hnd'.1 (hsub _ (hi2 _ hm))]; exact h2
      have hst : st1.storeN bid 2 [vi'] = .ok (st1.put bid (.cells (cB b.label vph vi' b.last ++ css.flatten))) := by
        rw [storeN_def, g1, e1]
        have hl : 2 + [vi'].length ≤ (cB b.label vph vi b.last :: css).flatten.length := by simp [cB]
        have hc : [vi'].all cellOk = true := by simp [hv'.cell]
        simp only [need_dec hro, need_dec hl, hc]
        simp [splice, cB, Res.need]
      refine ⟨_, bid :: ((i1 ++ i2') :: idss).flatten, hst, .inr ⟨bid, cB b.label vph vi' b.last :: css, (i1 ++ i2') :: idss, rfl, by rw [get_put, if_pos rfl]; rfl, by simpa using h3, by simpa using h4, fun cs hc => ?_, fun i x cs is hx hc hi => ?_, rfl⟩, fun id hi => ?_, fun id hne => by rw [get_put, if_neg hne], rfl, rfl⟩
      · rcases List.mem_cons.1 hc with rfl | hc
        · have hvp := e2.cell
          exact ⟨rfl, by simp [cB, hvp, hv'.cell]⟩
        · exact h5 cs (List.mem_cons_of_mem _ hc)
      · cases i with
        | zero =>
          simp at hx hc hi
          subst hx; subst hc; subst hi
          refine ⟨vph, vi', i1, i2', rfl, e2.frame PPhi.fr fun id hi => ?_, hv'.frame PInstr.fr fun id hi => ?_, rfl⟩
          · have hm : id ∈ is0 := by rw [e4]; exact List.mem_append_left _ hi
            rw [get_put, if_neg (fun e : id = bid => hnd'.1 (e ▸ hsub _ hm))]
            exact hE id (List.mem_cons_of_mem _ (hsub _ hm)) fun hm2 => (hdis id hm2).1 hi
          · rw [get_put, if_neg (fun e : id = bid => hbn (e ▸ hi))]
        | succ i =>
          simp only [List.getElem?_cons_succ] at hx hc hi
          refine PBlock.fr.fr (h6 (i + 1) x cs is hx hc hi) fun id hid => ?_
          have hm : id ∈ idss.flatten := List.mem_flatten.2 ⟨is, List.mem_of_getElem? hi, hid⟩
          have hm' : id ∈ (is0 :: idss).flatten := by rw [List.flatten_cons]; exact List.mem_append_right _ hm
          rw [get_put, if_neg (fun e : id = bid => hnd'.1 (e ▸ hm'))]
          exact hE id (List.mem_cons_of_mem _ hm') fun hm2 => (hdis id hm2).2 hm
      · rcases List.mem_cons.1 hi with rfl | hi
        · exact .inl (List.mem_cons_self ..)
        · rw [List.flatten_cons, List.mem_append, List.mem_append] at hi
          rcases hi with (hi | hi) | hi
          · exact .inl (List.mem_cons_of_mem _ (hsub _ (by rw [e4]; exact List.mem_append_left _ hi)))
          · exact .inr hi
          · exact .inl (List.mem_cons_of_mem _ (by rw [List.flatten_cons]; exact List.mem_append_right _ hi))
end Go.Proofs.Ytfknooeebmdfoaa.Sh

