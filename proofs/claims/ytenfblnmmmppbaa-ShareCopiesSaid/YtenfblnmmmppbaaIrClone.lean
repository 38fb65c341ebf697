/-
  Contract: copies of programs.
-/
import Derived.Test.YtenfblnmmmppbaaIrRep
set_option linter.unusedVariables false
set_option linter.unusedSimpArgs false
set_option linter.unusedSectionVars false
set_option maxRecDepth 100000
namespace Go.Proofs.Ytenfblnmmmppbaa.Sh
open Go Go.AM Go.Proofs

theorem rsl_flat {α : Type} {f : α → List Value} {s : Nat} {xs : List Value} : ∀ {l : List α} {o : Nat}, (∀ i x, l[i]? = some x → (xs.drop (o + i * s)).take s = f x) → (xs.drop o).take (l.length * s) = (l.map f).flatten := by
  intro l
  induction l with
  | nil => intro o h; simp
  | cons x l ih =>
    intro o h
    have h0 := h 0 x rfl
    simp only [Nat.zero_mul, Nat.add_zero] at h0
    have h1 := ih (o := o + s) fun i y hy => by
      have := h (i + 1) y hy
      rw [← this]
      congr 2
      rw [Nat.succ_mul]; omega
    rw [List.length_cons, Nat.succ_mul, Nat.add_comm (l.length * s) s, List.take_add, h0, List.drop_drop, h1, List.map_cons, List.flatten_cons]

theorem _root_.Go.AM.RepSl.shape {α : Type} {s : Nat} {R : Rep α} {st : St} {v : Value} {l : List α} {ids : List Nat} (h : RepSl s R st v l ids) : ∃ a n c, v = .slice a n c := by
  rcases h with ⟨_, _, c, rfl⟩ | ⟨b, css, idss, rfl, _⟩
  · exact ⟨_, _, _, rfl⟩
  · exact ⟨_, _, _, rfl⟩

/-- Copied into a new block. -/
theorem clone_cells {α : Type} {f : α → List Value} {A : Nat → Prop} {st : St} {s bytes : Nat} {v : Value} {l : List α} (h : RSl A st s (fun cs x => cs = f x) v l) (hA : ∀ id, A id → id < st.next) (hf : ∀ x, (f x).length = s ∧ (f x).all cellOk = true) (hs : 0 < s) (hb : l.length * bytes ≤ 2 ^ 46) (hro : st.ro ≤ st.next) :
    ∃ (v' : Value) (st' : St) (id : Nat), sAppend s bytes (Sl st.next 0 0 s) v (st.alloc (.cells [])) = .ok (v', st') ∧ RepSl s (fun _ cs x is => cs = f x ∧ is = []) st' v' l [id] ∧ st.next ≤ id ∧ id < st'.next ∧ Ext st st' := by
  have hneed : ∀ {b : Bool} {s : String}, b = true → Res.need b s = .ok () := fun h => by subst h; rfl
  have hga : (st.alloc (.cells [])).get st.next = some (.cells []) := by rw [get_alloc, if_pos rfl]
  rcases h with ⟨rfl, c, rfl⟩ | ⟨b, o, xs, rfl, h2, h3, h4, h5⟩
  · exact ⟨Sl st.next 0 0 s, st.alloc (.cells []), st.next, by simp [sAppend, aappend, lenL, firstL, Res.need], .inr ⟨st.next, [], [], rfl, hga, rfl, rfl, by simp, by simp, rfl⟩, Nat.le_refl _, Nat.lt_succ_self _, by simp⟩
  have hfl := rsl_flat h5
  have hlen : (l.map f).flatten.length = l.length * s := by
    rw [flat_len (s := s) fun cs hc => by
      obtain ⟨x, _, rfl⟩ := List.mem_map.1 hc
      exact (hf x).1]
    simp
  have hgb : (st.alloc (.cells [])).get b = some (.cells xs) := by rw [get_alloc, if_neg (by have := hA b h2; omega)]; exact h3
  have hfirst : firstL (st.alloc (.cells [])) s l.length (Sl b o l.length s) = .ok (l.map f).flatten := by
    simp only [firstL, hneed (decide_eq_true (rfl : s = s)), Res.bind_ok, St.loadN, cells_eq hgb, hneed (decide_eq_true h4), hfl]
    rfl
  by_cases h0 : l = []
  · subst h0
    exact ⟨Sl st.next 0 0 s, st.alloc (.cells []), st.next, by simp only [sAppend, aappend, lenL, hfirst, Res.bind_ok]; simp [Res.need], .inr ⟨st.next, [], [], rfl, hga, rfl, rfl, by simp, by simp, rfl⟩, Nat.le_refl _, Nat.lt_succ_self _, by simp⟩
  have hpos : 0 < l.length := List.length_pos_iff.2 h0
  have hck : (l.map f).flatten.all cellOk = true := by
    rw [List.all_flatten, List.all_eq_true]
    intro cs hc
    obtain ⟨x, _, rfl⟩ := List.mem_map.1 hc
    exact (hf x).2
  have hbb : (0 + l.length) * bytes ≤ mostBytes := by rw [Nat.zero_add]; exact hb
  have hnot : ¬ 0 + (0 + l.length) * s ≤ ([] : List Value).length := by
    have : 0 < l.length * s := Nat.mul_pos hpos hs
    simp only [Nat.zero_add, List.length_nil]; omega
  have hro' : (st.alloc (.cells [])).ro ≤ st.next := hro
  refine ⟨Sl (st.next + 1) 0 l.length s, ((st.alloc (.cells [])).put st.next .dead).alloc (.cells (l.map f).flatten), st.next + 1, ?_, .inr ⟨st.next + 1, l.map f, l.map fun _ => [], rfl, by rw [get_alloc, if_pos (by rfl)], by simp, by simp, fun cs hc => ?_, fun i x cs is hx hc hi => ?_, by simp⟩, Nat.le_succ _, Nat.lt_succ_self _, Ext.alloc (Ext.put (by simp) (Nat.le_refl _) _) _⟩
  · simp only [sAppend, aappend, lenL, hfirst, Res.bind_ok, hneed (decide_eq_true hlen), if_neg (show ¬ l.length = 0 by omega), hneed (decide_eq_true hbb), hneed hck, hneed (decide_eq_true (rfl : s = s)), cells_eq hga, hneed (decide_eq_true hro'), if_neg hnot, hneed (decide_eq_true (show 0 + 0 * s = ([] : List Value).length by simp)), List.drop_nil]
    simp only [Nat.zero_add, List.nil_append]
    rfl
  · obtain ⟨x, _, rfl⟩ := List.mem_map.1 hc
    exact hf x
  · rw [List.getElem?_map, hx] at hc hi
    simp at hc hi
    exact ⟨hc.symm, hi⟩

variable {K : Ctx} (hF : Fix pgF K)
include hF

theorem CloneI_ok {A : Nat → Prop} {st : St} {v : Value} {l : List Instr} (hA : ∀ id, A id → id < st.next) (h : RSl A st 7 RInstr v l) (hl : l.length < 2 ^ 40) (hro : st.ro ≤ st.next) :
    Ok (K.go (.call n_slices_Clone_irInstr [v]) st) fun r => ∃ ids, RepSl 7 PInstr r.2 r.1 l ids ∧ ids.Nodup ∧ (∀ id ∈ ids, st.next ≤ id ∧ id < r.2.next) ∧ Ext st r.2 := by
  refine slices_Clone_irInstr_of hF fun J hJ => ?_
  rw [slices_Clone_irInstr_eq]
  obtain ⟨v', st', id, e1, e2, e3, e4, e5⟩ := clone_cells (bytes := 48) (f := cI) h hA (fun x => ⟨rfl, rfl⟩) (by decide) (by omega) hro
  have hlit : sLit 7 0 [] [] st = .ok (Sl st.next 0 0 7, st.alloc (.cells [])) := rfl
  rcases h with ⟨rfl, c, rfl⟩ | ⟨b, o, xs, rfl, h2, h3, h4, h5⟩
  · have : sEq false (.nilOf .slice) (.slice none 0 c) (.slice none 0 0) st = .ok (.bool true, st) := rfl
    simp [this]
    exact ⟨[], RepSl.nil _, by simp, by simp⟩
  · have : sEq false (.nilOf .slice) (Sl b o l.length 7) (.slice none 0 0) st = .ok (.bool false, st) := rfl
    simp [this, slices_Clone_irInstr_j0_eq hJ, hlit, e1]
    exact ⟨[id], e2, by simp, by simp [e3, e4], e5⟩
theorem CloneN_ok {A : Nat → Prop} {st : St} {v : Value} {l : List Int} (hA : ∀ id, A id → id < st.next) (h : RSl A st 1 RInt v l) (hl : l.length < 2 ^ 40) (hro : st.ro ≤ st.next) :
    Ok (K.go (.call n_slices_Clone_int [v]) st) fun r => ∃ ids, RepSl 1 PInt r.2 r.1 l ids ∧ ids.Nodup ∧ (∀ id ∈ ids, st.next ≤ id ∧ id < r.2.next) ∧ Ext st r.2 := by
  refine slices_Clone_int_of hF fun J hJ => ?_
  rw [slices_Clone_int_eq]
  obtain ⟨v', st', id, e1, e2, e3, e4, e5⟩ := clone_cells (bytes := 8) (f := fun n => [I n]) h hA (fun x => ⟨rfl, rfl⟩) (by decide) (by omega) hro
  have hlit : sLit 1 0 [] [] st = .ok (Sl st.next 0 0 1, st.alloc (.cells [])) := rfl
  rcases h with ⟨rfl, c, rfl⟩ | ⟨b, o, xs, rfl, h2, h3, h4, h5⟩
  · have : sEq false (.nilOf .slice) (.slice none 0 c) (.slice none 0 0) st = .ok (.bool true, st) := rfl
    simp [this]
    exact ⟨[], RepSl.nil _, by simp, by simp⟩
  · have : sEq false (.nilOf .slice) (Sl b o l.length 1) (.slice none 0 0) st = .ok (.bool false, st) := rfl
    simp [this, slices_Clone_int_j0_eq hJ, hlit, e1]
    exact ⟨[id], e2, by simp, by simp [e3, e4], e5⟩

/-! ### a program is copied -/
omit hF

/-- What is one's own while a program is copied: the blocks that are there; the instructions, the phis of the next. -/
structure PC (st0 st : St) (q : Prog) (vp : Value) (ids : List Nat) (vi : Value) (li : List Instr) (is : List Nat) (vph : Value) (lp : List Phi) (ip : List Nat) : Prop where
  ext : Ext st0 st
  prog : PProg st vp q ids
  ins : RepSl 7 PInstr st vi li is
  phs : RepSl 3 PPhi st vph lp ip
  nd : (ids ++ is ++ ip).Nodup
  lo : ∀ id ∈ ids ++ is ++ ip, st0.next ≤ id ∧ id < st.next

section
variable {st0 st st' : St} {q : Prog} {vp vi vph : Value} {ids is ip : List Nat} {li : List Instr} {lp : List Phi}
theorem PC.mono (h : PC st0 st q vp ids vi li is vph lp ip) (hE : Ext st st') : PC st0 st' q vp ids vi li is vph lp ip where
  ext := h.ext.trans hE
  prog := h.prog.frame fun id hi => hE.get id (h.lo id (by simp [hi])).2
  ins := h.ins.frame PInstr.fr fun id hi => hE.get id (h.lo id (by simp [hi])).2
  phs := h.phs.frame PPhi.fr fun id hi => hE.get id (h.lo id (by simp [hi])).2
  nd := h.nd
  lo := fun id hi => ⟨(h.lo id hi).1, Nat.lt_of_lt_of_le (h.lo id hi).2 hE.next⟩

theorem PC.phi (h : PC st0 st q vp ids vi li is vph lp ip) (hro : st0.ro ≤ st0.next) {f : Phi} {vf va : Value} {i1 i2 : List Nat} (h1 : RepSl 1 PInt st vf f.frm i1) (h2 : RepSl 1 PInt st va f.args i2) (hn1 : i1.Nodup) (hn2 : i2.Nodup) {a b : Nat} (ha : ∀ id ∈ ids ++ is ++ ip, id < a) (hi1 : ∀ id ∈ i1, a ≤ id ∧ id < b) (hi2 : ∀ id ∈ i2, b ≤ id ∧ id < st.next) (hab : a ≤ b) (hb : b ≤ st.next) (h0a : st0.next ≤ a) (hl : lp.length < 2 ^ 32) :
    ∃ (v' : Value) (st' : St) (ip' : List Nat), sAppend 3 56 vph (Sl st.next 0 1 3) (st.alloc (.cells [I f.dst, vf, va])) = .ok (v', st') ∧ PC st0 st' q vp ids vi li is v' (lp ++ [f]) ip' := by
  have hnd := h.nd
  have hnew : ∀ id ∈ i1 ++ i2, a ≤ id ∧ id < st.next := fun id hi => by
    rcases List.mem_append.1 hi with hi | hi
    · have := hi1 id hi; omega
    · have := hi2 id hi; omega
  have hn12 : (i1 ++ i2).Nodup := List.nodup_append.2 ⟨hn1, hn2, fun x hx y hy e => by have := hi1 x hx; have := hi2 y hy; omega⟩
  have hnd3 : (ids ++ is ++ (ip ++ (i1 ++ i2))).Nodup := by
    rw [← List.append_assoc]
    exact List.nodup_append.2 ⟨hnd, hn12, fun x hx y hy e => by have := ha x hx; have := hnew y hy; omega⟩
  have hck : [I f.dst, vf, va].all cellOk = true := by simp [h1.cell, h2.cell]
  obtain ⟨v', st', ip', r, e1, e2, e3, e4, e5, e6⟩ := RepSl.push (bytes := 56) PPhi.fr h.phs (by decide) (x := f) (cs := [I f.dst, vf, va]) (is := i1 ++ i2) ⟨vf, va, i1, i2, rfl, h1, h2, rfl⟩ rfl hck (fun id hi => by
      rcases List.mem_append.1 hi with hi | hi
      · exact (h.lo id (by simp [hi])).2
      · exact (hnew id hi).2) (fun id hi => by rw [h.ext.ro]; exact Nat.le_trans hro (h.lo id (by simp [hi])).1) (List.nodup_append.1 hnd3).2.1 (by omega)
  have hdis : ∀ id ∈ ids ++ is, id ∉ ip := fun id hi hj => (List.nodup_append.1 hnd).2.2 id hi id hj rfl
  refine ⟨v', st', ip', r, ext_of h.ext (Nat.le_of_lt e5) e6 (fun id hi => (h.lo id (by simp [hi])).1) e4, h.prog.frame fun id hi => e4 id (h.lo id (by simp [hi])).2 (hdis id (by simp [hi])), h.ins.frame PInstr.fr fun id hi => e4 id (h.lo id (by simp [hi])).2 (hdis id (by simp [hi])), e1,
    nodup_swap hnd3 e2 (fun id hi => by
      rcases e3 id hi with k | k | k
      · exact .inl (List.mem_append_left _ k)
      · exact .inl (List.mem_append_right _ k)
      · exact .inr k.1) (fun id hi => (h.lo id (by rw [List.mem_append]; exact .inl hi)).2), fun id hi => ?_⟩
  rcases List.mem_append.1 hi with hi | hi
  · exact ⟨(h.lo id (List.mem_append_left _ hi)).1, Nat.lt_trans (h.lo id (List.mem_append_left _ hi)).2 e5⟩
  · rcases e3 id hi with k | k | k
    · exact ⟨(h.lo id (List.mem_append_right _ k)).1, Nat.lt_trans (h.lo id (List.mem_append_right _ k)).2 e5⟩
    · have := hnew id k; exact ⟨by omega, by omega⟩
    · exact ⟨Nat.le_trans h.ext.next k.1, k.2⟩

theorem PC.block (h : PC st0 st q vp ids vi li is vph lp ip) (hro : st0.ro ≤ st0.next) (n : Int) (m : Last) (hb : q.length < 2 ^ 32) :
    ∃ (vp' : Value) (st' : St) (ids' : List Nat), sAppend 7 88 vp (Sl st.next 0 1 7) (st.alloc (.cells (cB n vph vi m))) = .ok (vp', st') ∧ PC st0 st' (q ++ [⟨n, lp, li, m⟩]) vp' ids' (.slice none 0 0) [] [] (.slice none 0 0) [] [] := by
  have hnd : (ids ++ (ip ++ is)).Nodup := by
    have hp : (ids ++ is ++ ip).Perm (ids ++ (ip ++ is)) := by
      rw [List.append_assoc]
      exact List.Perm.append_left ids List.perm_append_comm
    exact hp.nodup_iff.1 h.nd
  have hlo : ∀ id ∈ ids ++ (ip ++ is), st0.next ≤ id ∧ id < st.next := fun id hi => h.lo id (by simp at hi ⊢; exact hi.imp (fun h => h) Or.symm)
  have hck : (cB n vph vi m).all cellOk = true := by simp [cB, h.ins.cell, h.phs.cell]
  obtain ⟨v', st', ids', r, h1, h2, h3, h4, h5, h6⟩ := RepSl.push (bytes := 88) PBlock.fr h.prog (by decide) (x := ⟨n, lp, li, m⟩) (cs := cB n vph vi m) (is := ip ++ is) ⟨vph, vi, ip, is, rfl, h.phs, h.ins, rfl⟩ rfl hck (fun id hi => (hlo id hi).2) (fun id hi => by
    rw [h.ext.ro]; exact Nat.le_trans hro (hlo id (List.mem_append_left _ hi)).1) hnd (by omega)
  refine ⟨v', st', ids', r, ext_of h.ext (Nat.le_of_lt h5) h6 (fun id hi => (hlo id (List.mem_append_left _ hi)).1) h4, h1, RepSl.nil _, RepSl.nil _, by simpa using h2, fun id hi => ?_⟩
  rw [List.append_nil, List.append_nil] at hi
  rcases h3 id hi with k | k | k
  · exact ⟨(hlo id (List.mem_append_left _ k)).1, Nat.lt_trans (hlo id (List.mem_append_left _ k)).2 h5⟩
  · exact ⟨(hlo id (List.mem_append_right _ k)).1, Nat.lt_trans (hlo id (List.mem_append_right _ k)).2 h5⟩
  · exact ⟨Nat.le_trans h.ext.next k.1, k.2⟩
end

section
variable {J : JT (Value × St)} (hJ : IsJ K (retK ir_Program_Clone_c.results) J) {A : Nat → Prop} {st0 : St} (hro : st0.ro ≤ st0.next) (hA : ∀ id, A id → id < st0.next) {Q : Value × St → Prop}
include hF hJ hro hA

theorem Clone_l1 {v2 vq v10 v11 v12 v23 : Value} {l : List Phi} (hl : RSl A st0 3 (RPhi A st0) v23 l) (hlen : l.length < 2 ^ 32) (hsm : ∀ f ∈ l, f.frm.length < 2 ^ 40 ∧ f.args.length < 2 ^ 40) {n : Int} {m : Last} {q : Prog} {vp : Value} {ids : List Nat} {vi : Value} {li : List Instr} {is : List Nat} (d : Nat) : ∀ (i : Nat) (st : St) (vph : Value) (ip : List Nat), i + d = l.length → PC st0 st q vp ids vi li is vph (l.take i) ip →
    (∀ st' vph' ip', PC st0 st' q vp ids vi li is vph' l ip' → Ok (ir_Program_Clone_j3 J v2 vq (vB n vph' vi m) v10 v11 v12 st') Q) → Ok (ir_Program_Clone_l1 J v2 vq (vB n vph vi m) v10 v11 v12 v23 (I l.length) (I i) st) Q := by
  induction d with
  | zero =>
    intro i st vph ip hi hs hk
    refine ir_Program_Clone_l1_of hF hJ ?_
    rw [ir_Program_Clone_l1_eq]
    have : i = l.length := by omega
    subst this
    rw [List.take_length] at hs
    simp
    exact hk st vph ip hs
  | succ d ih =>
    intro i st vph ip hi hs hk
    refine ir_Program_Clone_l1_of hF hJ ?_
    rw [ir_Program_Clone_l1_eq]
    have hlt : i < l.length := by omega
    have hlt' : (i : Int) < l.length := by omega
    obtain ⟨b, o, cs, hix, hld, ⟨vf, va, rfl, hvf, hva⟩, -⟩ := hl.at (List.getElem?_eq_getElem hlt)
    obtain ⟨hs1, hs2⟩ := hsm _ (List.getElem_mem hlt)
    simp [hlt', ir_Program_Clone_j2_eq hJ, hix, hld _ (hs.ext.agree hA), Res.need, hvf.cell, hva.cell]
    have hE1 : Ext st0 st.bump := hs.ext.bump
    have hr1 : st.bump.ro ≤ st.bump.next := hE1.roOk hro
    refine (CloneN_ok hF (fun id h => Nat.lt_of_lt_of_le (hA id h) hE1.next) (hvf.mono (fun _ h => h) (hE1.agree hA) fun _ _ _ h => h) hs1 hr1).thn fun ⟨r1, s1⟩ ⟨i1, g1, g2, g3, g4⟩ => ?_
    simp only at g1 g3 g4 ⊢
    have hE2 := hE1.trans g4
    have hsv : sameVal va va = true := by rcases hva with ⟨_, c, rfl⟩ | ⟨b, o, xs, rfl, _⟩ <;> simp
    have hsp : sameVal vph vph = true := by rcases hs.phs with ⟨_, _, c, rfl⟩ | ⟨b, css, idss, rfl, _⟩ <;> simp
    rw [sStays_same hsv]
    have e0 : (if true = true then Res.ok () else Res.err "order" : Res Unit) = .ok () := if_pos rfl
    rw [e0, Res.bind_ok]
    refine (CloneN_ok hF (fun id h => Nat.lt_of_lt_of_le (hA id h) hE2.next) (hva.mono (fun _ h => h) (hE2.agree hA) fun _ _ _ h => h) hs2 (hE2.roOk hro)).thn fun ⟨r2, s2⟩ ⟨i2, f1, f2, f3, f4⟩ => ?_
    simp only at f1 f3 f4 ⊢
    rw [sStays_same hsp, e0, Res.bind_ok]
    have hb1 : st.next < s1.next := g4.next
    have hb2 : s1.next ≤ s2.next := f4.next
    have hst0 := hs.ext.next
    have g1' := g1.frame (st' := s2) PInt.fr fun id hi => f4.get id (g3 id hi).2
    obtain ⟨v', st', ip', e1, e2⟩ := (hs.mono (st' := s2) (Ext.trans (by simp) (g4.trans f4))).phi hro (f := l[i]) g1' f1 g2 f2 (a := st.next + 1) (b := s1.next) (fun id hi => Nat.lt_succ_of_lt (hs.lo id hi).2) g3 f3 g4.next hb2 (by omega) (by rw [List.length_take]; omega)
    have hbl : ∀ s, sBuild [I 0, .slice none 0 0, .slice none 0 0] [(0, 1, I l[i].dst), (1, 1, r1), (2, 1, r2)] s = .ok (.agg #[I l[i].dst, r1, r2], s) := fun s => by
      obtain ⟨q1, q2, q3, q4⟩ := g1.shape
      obtain ⟨q5, q6, q7, q8⟩ := f1.shape
      rw [q4, q8]
      simp [sBuild, fillL, Res.need]
    have hlt3 : ∀ s, sLit 3 1 [I 0, .slice none 0 0, .slice none 0 0] [(0, 3, .agg #[I l[i].dst, r1, r2])] s = .ok (Sl s.next 0 1 3, s.alloc (.cells [I l[i].dst, r1, r2])) := fun s => rfl
    have hup := sUpd_vBp n vph vi m st' e2.phs.cell e2.phs.tup e2.phs.cells
    simp [hbl, hlt3, e1, hup, ir_Program_Clone_j4_eq hJ]
    rw [wrap_id (n := (i : Int) + 1) (by omega)]
    exact ih (i + 1) st' v' ip' (by omega) (by rw [← List.take_append_getElem hlt]; exact e2) hk

theorem Clone_l0 {v10 : Value} {p : Prog} (hl : RProg A st0 v10 p) (hlen : count p < 2 ^ 32) (hsm : ∀ b ∈ p, ∀ f ∈ b.phis, f.frm.length < 2 ^ 40 ∧ f.args.length < 2 ^ 40) (hq : ∀ st vp ids, PC st0 st p vp ids (.slice none 0 0) [] [] (.slice none 0 0) [] [] → Q (.agg #[vp], st)) (d : Nat) : ∀ (i : Nat) (st : St) (vp : Value) (ids : List Nat), i + d = p.length → PC st0 st (p.take i) vp ids (.slice none 0 0) [] [] (.slice none 0 0) [] [] →
    Ok (ir_Program_Clone_l0 J (.agg #[.slice none 0 0]) (.agg #[vp]) v10 (I p.length) (I i) st) Q := by
  induction d with
  | zero =>
    intro i st vp ids hi hs
    refine ir_Program_Clone_l0_of hF hJ ?_
    rw [ir_Program_Clone_l0_eq]
    have : i = p.length := by omega
    subst this
    rw [List.take_length] at hs
    have hu : sUpd 1 0 (.agg #[.slice none 0 0]) (.agg #[vp]) st = .ok (.agg #[vp], st) := by
      simp [Res.need, hs.prog.cell]
    simp [ir_Program_Clone_j1_eq hJ, hu, oneOf]
    exact hq st vp ids hs
  | succ d ih =>
    intro i st vp ids hi hs
    refine ir_Program_Clone_l0_of hF hJ ?_
    rw [ir_Program_Clone_l0_eq]
    have hlt : i < p.length := by omega
    have hlt' : (i : Int) < p.length := by omega
    have hll := len_le p
    have hcm := count_mem (List.getElem_mem hlt)
    obtain ⟨b, o, cs, hix, hld, ⟨vph, vi, rfl, hvp, hvi⟩, -⟩ := RSl.at hl (List.getElem?_eq_getElem hlt)
    have hv : Value.agg #[I p[i].label, vph, vi, U p[i].last.kind, I p[i].last.a, I p[i].last.yes, I p[i].last.no] = vB p[i].label vph vi p[i].last := rfl
    have hu7 : ∀ (s : St), sUpd 7 0 (.agg #[I 0, .slice none 0 0, .slice none 0 0, U 0, I 0, I 0, I 0]) (vB p[i].label vph vi p[i].last) s = .ok (vB p[i].label vph vi p[i].last, s) := fun s => by simp [vB, hvp.cell, hvi.cell, Res.need]
    simp [hlt', ir_Program_Clone_j0_eq hJ, hix, hld _ (hs.ext.agree hA), Res.need, hv, hu7]
    have hE1 : Ext st st.bump.bump := by simp
    have hE2 := hs.ext.trans hE1
    refine (CloneI_ok hF (fun id h => Nat.lt_of_lt_of_le (hA id h) hE2.next) (hvi.mono (fun _ h => h) (hE2.agree hA) fun _ _ _ h => h) (by omega) (hE2.roOk hro)).thn fun ⟨r1, s1⟩ ⟨is, g1, g2, g3, g4⟩ => ?_
    simp only at g1 g3 g4 ⊢
    have hup := sUpd_vBi p[i].label vph vi p[i].last s1 g1.cell g1.tup g1.cells
    have hup2 := sUpd_vBp p[i].label vph r1 p[i].last s1 (v := .slice none 0 0) rfl rfl rfl
    simp [hup, hup2, hvp.len]
    have hlo1 : ∀ id ∈ ids, id < st.next := fun id hi => (hs.lo id (by simp [hi])).2
    have hb1 : st.next + 2 ≤ s1.next := g4.next
    have hst0 := hs.ext.next
    have hm := hs.mono (hE1.trans g4)
    have hpc : PC st0 s1 (p.take i) vp ids r1 p[i].instrs is (.slice none 0 0) (p[i].phis.take 0) [] := ⟨hm.ext, hm.prog, g1, RepSl.nil _, by
      rw [List.append_nil]
      exact List.nodup_append.2 ⟨by simpa using hs.nd, g2, fun x hx y hy e => by
        have h1 := hlo1 x hx
        have h2 : st.next + 2 ≤ y := (g3 y hy).1
        omega⟩, fun id hi => by
      rw [List.append_nil] at hi
      rcases List.mem_append.1 hi with hi | hi
      · exact ⟨(hs.lo id (by simp [hi])).1, by have := hlo1 id hi; omega⟩
      · have h1 : st.next + 2 ≤ id := (g3 id hi).1
        exact ⟨by omega, (g3 id hi).2⟩⟩
    refine Clone_l1 hF hJ hro hA hvp (by omega) (hsm _ (List.getElem_mem hlt)) p[i].phis.length 0 s1 _ [] (by omega) hpc fun s2 vph' ip' h2 => ?_
    obtain ⟨vp', s3, ids', e1, e2⟩ := h2.block hro p[i].label p[i].last (by rw [List.length_take]; omega)
    have hu1 : sUpd 1 0 (.agg #[vp]) vp' s3 = .ok (.agg #[vp'], s3) := by
      have := sUpd_one 1 0 [vp] s3 (x := vp') e2.prog.tup e2.prog.cells e2.prog.cell
      refine this.trans (by simp [Res.need])
    simp [ir_Program_Clone_j3_eq hJ, e1, hu1, ir_Program_Clone_j5_eq hJ]
    rw [wrap_id (n := (i : Int) + 1) (by omega)]
    exact ih (i + 1) s3 vp' ids' (by omega) (by rw [← List.take_append_getElem hlt]; exact e2)
end

include hF
/-- A copy: laid down in blocks of its own. -/
theorem Clone_ok {A : Nat → Prop} {st : St} {v : Value} {p : Prog} (hA : ∀ id, A id → id < st.next) (hro : st.ro ≤ st.next) (hl : RProg A st v p) (hlen : count p < 2 ^ 32) (hsm : ∀ b ∈ p, ∀ f ∈ b.phis, f.frm.length < 2 ^ 40 ∧ f.args.length < 2 ^ 40) :
    Ok (K.go (.call n_ir_Program_Clone [.agg #[v]]) st) fun r => ∃ vp ids, r.1 = .agg #[vp] ∧ PProg r.2 vp p ids ∧ ids.Nodup ∧ (∀ id ∈ ids, st.next ≤ id ∧ id < r.2.next) ∧ Ext st r.2 := by
  generalize hQ : (fun r : Value × St => ∃ vp ids, r.1 = .agg #[vp] ∧ PProg r.2 vp p ids ∧ ids.Nodup ∧ (∀ id ∈ ids, st.next ≤ id ∧ id < r.2.next) ∧ Ext st r.2) = Q
  have hq : ∀ s vp ids, PProg s vp p ids → ids.Nodup → (∀ id ∈ ids, st.next ≤ id ∧ id < s.next) → Ext st s → Q (.agg #[vp], s) := fun s vp ids h1 h2 h3 h4 => by rw [← hQ]; exact ⟨vp, ids, rfl, h1, h2, h3, h4⟩
  clear hQ
  refine ir_Program_Clone_of hF fun J hJ => ?_
  rw [ir_Program_Clone_eq]
  have hE : Ext st st.bump.bump.bump := by simp
  simp [RSl.len hl]
  refine Clone_l0 hF hJ (st0 := st) hro hA hl hlen hsm (fun s vp ids h => hq s vp ids h.prog (by simpa using h.nd) (fun id hi => h.lo id (by simpa using hi)) h.ext) p.length 0 _ (.slice none 0 0) [] (by omega) ⟨hE, RepSl.nil _, RepSl.nil _, RepSl.nil _, by simp, by simp⟩
end Go.Proofs.Ytenfblnmmmppbaa.Sh

