/-
  Share of a program of one block without phis: Share.
-/
import Derived.Test.YtenfblnmmmppbaaSr2
set_option linter.unusedVariables false
set_option linter.unusedSimpArgs false
set_option linter.unusedSectionVars false
set_option maxRecDepth 100000
namespace Go.Proofs.Ytenfblnmmmppbaa.Sh
open Go Go.AM Go.Proofs

theorem need_ok {b : Bool} {t : String} (h : b = true) : Res.need b t = .ok () := by subst h; rfl

theorem one_look {st : St} {vp : Value} {b : Block} {ids : List Nat} (h : PProg st vp [b] ids) : ∃ (bid : Nat) (vph vi : Value) (i1 i2 : List Nat), vp = Sl bid 0 1 7 ∧ bid ∈ ids ∧ st.get bid = some (.cells (cB b.label vph vi b.last)) ∧ RepSl 3 PPhi st vph b.phis i1 ∧ RepSl 7 PInstr st vi b.instrs i2 ∧ (∀ id ∈ i1, id ∈ ids) ∧ ∀ id ∈ i2, id ∈ ids := by
  rcases h with ⟨h, _⟩ | ⟨bid, css, idss, rfl, h2, h3, h4, h5, h6, rfl⟩
  · cases h
  match css, h3, idss, h4 with
  | [c0], h3, [is0], h4 =>
    obtain ⟨vph, vi, i1, i2, e1, e2, e3, e4⟩ := h6 0 b c0 is0 rfl rfl rfl
    subst e1; subst e4
    simp only [List.flatten_cons, List.flatten_nil, List.append_nil] at h2
    exact ⟨bid, vph, vi, i1, i2, rfl, List.mem_cons_self .., h2, e2, e3, fun id hi => by simp [hi], fun id hi => by simp [hi]⟩

/-- Another instruction at a place. -/
theorem instr_put {st : St} {v : Value} {l : List Instr} {ids : List Nat} (h : RepSl 7 PInstr st v l ids) {i : Nat} (hi : i < l.length) (hro : ∀ id ∈ ids, st.ro ≤ id) : ∃ c, (∀ s : St, sIxA 7 none v (I i) s = .ok (P c (i * 7), s)) ∧ c ∈ ids ∧ (∀ s : St, s.get c = st.get c → s.loadN c (i * 7) 7 = .ok (cI l[i])) ∧
    ∀ (y : Instr) (s : St), (∀ id ∈ ids, s.get id = st.get id) → s.ro = st.ro → ∃ st', s.storeN c (i * 7) (cI y) = .ok st' ∧ RepSl 7 PInstr st' v (l.set i y) ids ∧ (∀ id, id ≠ c → st'.get id = s.get id) ∧ st'.next = s.next ∧ st'.ro = s.ro := by
  rcases h with ⟨rfl, _⟩ | ⟨b, css, idss, rfl, h2, h3, h4, h5, h6, rfl⟩
  · simp at hi
  have hc : css[i]? = some css[i] := List.getElem?_eq_getElem (by omega)
  have his : idss[i]? = some idss[i] := List.getElem?_eq_getElem (by omega)
  obtain ⟨e1, e2⟩ := h6 i _ _ _ (List.getElem?_eq_getElem hi) hc his
  have hlen : css.flatten.length = l.length * 7 := by rw [flat_len fun cs hc => (h5 cs hc).1, h3]
  have hle : i * 7 + 7 ≤ css.flatten.length := by omega
  have hpiece := flat_at (fun cs hc => (h5 cs hc).1) hc
  refine ⟨b, fun s => by simp [sIxA, index, Res.need, hi], List.mem_cons_self .., fun s hs => ?_, fun y s hs hsr => ?_⟩
  · rw [loadN_def, hs, h2]
    simp only [need_dec hle, Res.bind_ok, hpiece, e1]
  · have hset : idss.set i [] = idss := by
      refine List.ext_getElem? fun j => ?_
      by_cases hj : i = j
      · subst hj
        rw [List.getElem?_set_self (by omega), his, e2]
      · rw [List.getElem?_set_ne hj]
    have hr : s.ro ≤ b := by rw [hsr]; exact hro b (List.mem_cons_self ..)
    have hsp := flat_set (fun cs hc => (h5 cs hc).1) (i := i) (cs := cI y) (by omega) rfl
    have hall : ∀ is ∈ idss, is = [] := fun is hm => by
      obtain ⟨j, hj⟩ := List.mem_iff_getElem?.1 hm
      have hjl := (List.getElem?_eq_some_iff.1 hj).1
      exact (h6 j _ _ _ (List.getElem?_eq_getElem (by omega)) (List.getElem?_eq_getElem (by omega)) hj).2
    have hfl : b ∉ idss.flatten := fun hm => by
      obtain ⟨is, hm, hx⟩ := List.mem_flatten.1 hm
      rw [hall is hm] at hx; cases hx
    refine ⟨s.put b (.cells (css.set i (cI y)).flatten), ?_, ?_, fun id hn => by rw [get_put, if_neg hn], rfl, rfl⟩
    · rw [storeN_def, hs b (List.mem_cons_self ..), h2]
      simp only [need_dec hr, need_dec (show i * 7 + (cI y).length ≤ css.flatten.length from hle), need_ok (show (cI y).all cellOk = true from rfl), Res.bind_ok, hsp]
    · have := RepSl.put PInstr.fr (st := st) (st1 := s) (y := y) (cs := cI y) (is := []) h2 h3 h4 h5 h6 hfl hi rfl rfl ⟨rfl, rfl⟩ (by simp) fun j is' hj hjs id hid => by
        rw [hall is' (List.mem_of_getElem? hjs)] at hid; cases hid
      rw [hset] at this
      exact this

/-- What there is while the instructions are turned, in place. -/
structure LC (s1 s : St) (v : Value) (l : List Instr) (ids : List Nat) : Prop where
  nx : s1.next ≤ s.next
  ro : s.ro = s1.ro
  keep : ∀ id, id < s1.next → id ∉ ids → s.get id = s1.get id
  ls : RepSl 7 PInstr s v l ids
theorem LC.mono {s1 s s' : St} {v : Value} {l : List Instr} {ids : List Nat} (h : LC s1 s v l ids) (hE : Ext s s') (hid : ∀ id ∈ ids, id < s1.next) : LC s1 s' v l ids where
  nx := Nat.le_trans h.nx hE.next
  ro := hE.ro.trans h.ro
  keep := fun id a b => by rw [hE.get id (Nat.lt_of_lt_of_le a h.nx)]; exact h.keep id a b
  ls := h.ls.frame PInstr.fr fun id hi => hE.get id (Nat.lt_of_lt_of_le (hid id hi) h.nx)

def shOut (b : Block) : Block :=
  let f := shTo b.instrs b.instrs.length
  ⟨b.label, [], f.out.map fun x => x.turned (ofm f.same), if b.last.reads.2 = true then { b.last with a := ofm f.same b.last.reads.1 } else b.last⟩

variable {K : Ctx} (hF : Fix pgF K)
include hF

section
variable {J : JT (Value × St)} (hJ : IsJ K (retK share_Share_c.results) J) {Q : Value × St → Prop}
include hJ

theorem Sh_l3 {s1 : St} {sb m bid : Nat} {same : List (Int × Int)} {v v2 v41 v42 pv t1 t2 t3 : Value} {lab : Int} {mm : Last} {l : List Instr} {ids : List Nat} (hsb : s1.get sb = some (.cells [pv, t1, t2, t3, .map (some m)])) (hm : s1.get m = some (mPairs I same)) (hb : s1.get bid = some (.cells (cB lab (.slice none 0 0) v mm)))
    (hlt : sb < s1.next ∧ m < s1.next ∧ bid < s1.next) (hni : sb ∉ ids ∧ m ∉ ids ∧ bid ∉ ids) (hid : ∀ id ∈ ids, id < s1.next) (hri : ∀ id ∈ ids, s1.ro ≤ id) (hfl : Flat same) (hll : l.length < 1000)
    (hk : ∀ s, LC s1 s v (l.map fun x => x.turned (ofm same)) ids → Ok (share_Share_j9 J v2 (P sb 0) (P bid 0) v41 v42 s) Q) (d : Nat) : ∀ (i : Nat) (s : St), i + d = l.length → LC s1 s v ((l.take i).map (fun x => x.turned (ofm same)) ++ l.drop i) ids →
    Ok (share_Share_l3 J v2 (P sb 0) (P bid 0) v41 v42 v (I l.length) (I i) s) Q := by
  induction d with
  | zero =>
    intro i s hi h
    refine share_Share_l3_of hF hJ ?_
    rw [share_Share_l3_eq]
    have : i = l.length := by omega
    subst this
    rw [List.take_length, List.drop_length, List.append_nil] at h
    simp
    exact hk s h
  | succ d ih =>
    intro i s hi h
    refine share_Share_l3_of hF hJ ?_
    rw [share_Share_l3_eq]
    have hlt0 : i < l.length := by omega
    have hlt' : (i : Int) < l.length := by omega
    have hlc : i < ((l.take i).map (fun x => x.turned (ofm same)) ++ l.drop i).length := by simp; omega
    have hget : ((l.take i).map (fun x => x.turned (ofm same)) ++ l.drop i)[i] = l[i] := by
      rw [List.getElem_append_right (by simp; omega)]
      simp [Nat.min_eq_left (Nat.le_of_lt hlt0)]
    have hset : ((l.take i).map (fun x => x.turned (ofm same)) ++ l.drop i).set i (l[i].turned (ofm same)) = (l.take (i + 1)).map (fun x => x.turned (ofm same)) ++ l.drop (i + 1) := by
      have hil : ((l.take i).map fun x => x.turned (ofm same)).length = i := by simp; omega
      rw [List.set_append_right _ _ (by omega), hil, Nat.sub_self, List.drop_eq_getElem_cons hlt0, List.set_cons_zero, List.take_add_one, List.getElem?_eq_getElem hlt0, List.map_append, List.append_assoc]
      rfl
    obtain ⟨c, k1, k2, k3, k4⟩ := instr_put h.ls hlc (fun id hi => by rw [h.ro]; exact hri id hi)
    rw [hget] at k3
    have hv : ∀ x : Instr, Value.agg (cI x).toArray = vI x := fun x => rfl
    have hnc : ∀ (b o : Nat) s, sNilc (P b o) s = .ok (P b o, s) := fun b o s => rfl
    have hE0 : Ext s s.bump := by simp
    have h0 := h.mono hE0 hid
    simp [hlt', share_Share_j8_eq hJ, k1, k3 s rfl, hv]
    refine (TurnedOf_ok hF (by rw [h0.keep sb hlt.1 hni.1]; exact hsb) (Nat.lt_of_lt_of_le hlt.1 h0.nx) (by rw [h0.keep m hlt.2.1 hni.2.1]; exact hm) (Nat.lt_of_lt_of_le hlt.2.1 h0.nx) hfl l[i]).call fun s2 hE2 => ?_
    have h2 := h0.mono hE2 hid
    have lb : ∀ {s l}, LC s1 s v l ids → s.load1 bid 2 = .ok v := fun h => load1_eq (by rw [h.keep bid hlt.2.2 hni.2.2]; exact hb) rfl
    obtain ⟨st', q1, q2, q3, q4, q5⟩ := k4 (l[i].turned (ofm same)) s2 (fun id hi => (hE0.trans hE2).get id (Nat.lt_of_lt_of_le (hid id hi) h.nx)) (hE0.trans hE2).ro
    rw [hset] at q2
    have hsv : sameVal v v = true := by
      obtain ⟨a, n, c, rfl⟩ := h.ls.shape
      cases a <;> simp [sameVal, sameOne, sameCells, sameCell]
    have hst : ∀ (x : Instr) s, sStore 7 (P c (i * 7)) (vI x) s = s.storeN c (i * 7) (cI x) >>= fun s => .ok (nothing, s) := fun x s => by
      show sStore 7 (P c (i * 7)) (.agg (cI x).toArray) s = _
      simp [-storeN_def, cI, Res.need]
    have hsy : sStays [s.bump] s2.next (P bid 2) (fun s => s.load1 bid 2 >>= fun v => .ok (v, s)) v = true := by simp [sStays, lb h0, hsv]
    simp [-storeN_def, hnc, lb h2, hsy, k1, hst, q1, Res.need, share_Share_j11_eq hJ]
    rw [wrap_id (n := (i : Int) + 1) (by omega)]
    refine ih (i + 1) st' (by omega) ⟨by rw [q4]; exact h2.nx, by rw [q5]; exact h2.ro, fun id a b => ?_, q2⟩
    rw [q3 id fun e => b (e ▸ k2)]
    exact h2.keep id a b
end

theorem Share_ok {A : Nat → Prop} {st : St} {v : Value} {b : Block} (hA : ∀ id, A id → id < st.next) (hro : st.ro ≤ st.next) (hp : RProg A st v [b]) (hck : check [b] = 0) (hph : b.phis = []) (hl : b.last.labels = []) (hll : b.instrs.length < 1000) (hfl : ∀ k, Flat (shTo b.instrs k).same) :
    Ok (K.go (.call n_share_Share [.agg #[v]]) st) fun r => ∃ vq, r.1 = .agg #[vq] ∧ RProg (Bel r.2.next) r.2 vq [shOut b] ∧ Ext st r.2 := by
  generalize hQ : (fun r : Value × St => ∃ vq, r.1 = .agg #[vq] ∧ RProg (Bel r.2.next) r.2 vq [shOut b] ∧ Ext st r.2) = Q
  refine share_Share_of hF fun J hJ => ?_
  rw [share_Share_eq]
  have hfc : ∀ v s, sField (some 1) 0 (.agg #[v]) s = .ok (.agg #[v], s) := fun v s => rfl
  have hE0 : Ext st st.bump.bump := by simp
  have hA0 : ∀ s, Ext st s → ∀ id, A id → id < s.next := fun s hE id h => Nat.lt_of_lt_of_le (hA id h) hE.next
  have R : ∀ s, Ext st s → RProg A s v [b] := fun s hE => hp.mono (hE.agree hA)
  have hph' : ∀ x ∈ [b], ∀ f ∈ x.phis, f.frm.length < 2 ^ 40 ∧ f.args.length < 2 ^ 40 := fun x hx f hf => by
    rw [List.mem_singleton.1 hx, hph] at hf; cases hf
  simp [hfc]
  refine (Check_ok hF (hA0 _ hE0) (R _ hE0) (by simp [count, hph]; omega) (fun x hx g hg => by rw [List.mem_singleton.1 hx, hph] at hg; cases hg) (hE0.roOk hro)).call fun s1 hE1 => ?_
  have hE1 := hE0.trans hE1
  rw [hck]
  simp [share_Share_j0_eq hJ, hfc]
  refine (Clone_ok hF (hA0 _ hE1) (hE1.roOk hro) (R _ hE1) (by simp [count, hph]; omega) hph').thn fun ⟨r1, s2⟩ ⟨vc, ids, e1, e2, e3, e4, hE2⟩ => ?_
  simp only at e1 e2 e4 hE2 ⊢
  subst e1
  have hE2' := hE1.trans hE2
  have hn1 := hE1.next
  obtain ⟨bid, vph, vi, i1, i2, rfl, m0, g1, g2, g3, m1, m2⟩ := one_look e2
  have hbi := e4 bid m0
  rw [hph] at g2
  -- the same map, the sharer
  have hnm : sNewMap s2 = .ok (.map (some s2.next), s2.alloc (.map [])) := rfl
  generalize hs3 : s2.alloc (.map []) = s3 at hnm
  have x3 : s3.next = s2.next + 1 := by rw [← hs3]; rfl
  have gm3 : s3.get s2.next = some (mPairs I []) := by rw [← hs3, get_alloc, if_pos rfl]; rfl
  have E3 : Ext s2 s3 := by rw [← hs3]; simp
  clear hs3
  have hbu : ∀ s, sBuild [.slice none 0 0, .slice none 0 0, .slice none 0 0, .slice none 0 0, .map none] [(0, 1, .agg #[Sl bid 0 1 7]), (4, 1, .map (some s2.next))] s = .ok (.agg #[Sl bid 0 1 7, .slice none 0 0, .slice none 0 0, .slice none 0 0, .map (some s2.next)], s) := fun s => rfl
  have hbx : sBox (.agg #[Sl bid 0 1 7, .slice none 0 0, .slice none 0 0, .slice none 0 0, .map (some s2.next)]) s3 = .ok (P s3.next 0, s3.alloc (.cells [Sl bid 0 1 7, .slice none 0 0, .slice none 0 0, .slice none 0 0, .map (some s2.next)])) := rfl
  generalize hs4 : s3.alloc (.cells [Sl bid 0 1 7, .slice none 0 0, .slice none 0 0, .slice none 0 0, .map (some s2.next)]) = s4 at hbx
  have x4 : s4.next = s3.next + 1 := by rw [← hs4]; rfl
  have gs4 : s4.get s3.next = some (.cells [Sl bid 0 1 7, .slice none 0 0, .slice none 0 0, .slice none 0 0, .map (some s2.next)]) := by rw [← hs4, get_alloc, if_pos rfl]
  have E4 : Ext s3 s4 := by rw [← hs4]; simp
  clear hs4
  have hE4 := (hE2'.trans E3).trans E4
  simp [-sBox_agg, hnm, hbu, hbx, hfc]
  refine (GOf_ok hF (hA0 _ hE4) (hE4.roOk hro) (R _ hE4) hl).thn fun ⟨r1, s5⟩ ⟨bh, ah, f1, f2, E5⟩ => ?_
  simp only at f1 f2 E5 ⊢
  subst f1
  have hE5 := hE4.trans E5
  refine (DomOf_ok hF f2 (hE5.roOk hro)).thn fun ⟨r1, s6⟩ ⟨ub, lb, db, f3, f4, f5, E6⟩ => ?_
  simp only at f3 f4 f5 E6 ⊢
  subst f3
  have hE6 := hE5.trans E6
  have E46 := E5.trans E6
  have hnc : ∀ (b o : Nat) s, sNilc (P b o) s = .ok (P b o, s) := fun b o s => rfl
  have hr6 : s6.ro ≤ s3.next := by rw [hE6.ro]; have := hE2'.next; omega
  have gs6 : s6.get s3.next = some (.cells [Sl bid 0 1 7, .slice none 0 0, .slice none 0 0, .slice none 0 0, .map (some s2.next)]) := by rw [E46.get _ (by omega)]; exact gs4
  have hst : s6.storeN s3.next 1 [Sl ub 0 1 1, Sl lb 0 1 1, Sl db 0 1 1] = .ok (s6.put s3.next (.cells [Sl bid 0 1 7, Sl ub 0 1 1, Sl lb 0 1 1, Sl db 0 1 1, .map (some s2.next)])) := by
    rw [storeN_def, gs6]; simp [hr6, Res.need, splice]
  generalize hs7 : s6.put s3.next (.cells [Sl bid 0 1 7, Sl ub 0 1 1, Sl lb 0 1 1, Sl db 0 1 1, .map (some s2.next)]) = s7 at hst
  have x7 : s7.next = s6.next := by rw [← hs7]; rfl
  have r7 : s7.ro = s6.ro := by rw [← hs7]; rfl
  have gs7 : s7.get s3.next = some (.cells [Sl bid 0 1 7, Sl ub 0 1 1, Sl lb 0 1 1, Sl db 0 1 1, .map (some s2.next)]) := by rw [← hs7, get_put, if_pos rfl]
  have k7 : ∀ id, id ≠ s3.next → s7.get id = s6.get id := fun id hi => by rw [← hs7, get_put, if_neg hi]
  clear hs7
  have hlen : ∀ s, sLen .slice v s = .ok (I 1, s) := RSl.len hp
  simp [-sLen_slice, -storeN_def, hnc, hst, hlen, Res.need]
  -- the block
  have n2 := hE2.next; have n46 := E46.next; have n5 := E5.next
  have E26 : Ext s2 s6 := (E3.trans E4).trans E46
  have k27 : ∀ id, id < s2.next → s7.get id = s2.get id := fun id hi => by rw [k7 _ (by omega), E26.get _ hi]
  have gb7 : s7.get bid = some (.cells (cB b.label vph vi b.last)) := by rw [k27 _ hbi.2]; exact g1
  have gm7 : s7.get s2.next = some (mPairs I []) := by rw [k7 _ (by omega), (E4.trans E46).get _ (by omega)]; exact gm3
  have hlbne : lb ≠ s3.next := fun e => by rw [e, gs6] at f4; cases f4
  have hlbm : lb ≠ s2.next := fun e => by rw [e, (E4.trans E46).get _ (by omega), gm3] at f4; cases f4
  have hlbb : lb ≠ bid := fun e => by
    rw [e, E26.get _ hbi.2, g1] at f4
    simp [cB] at f4
  have hl7 : RSl (fun id => id ∈ i2) s7 7 RInstr vi b.instrs := (g3.rsl (R' := RInstr) fun cs x is _ _ h => h.1).mono (fun _ h => h) (fun id hi => k27 id (e4 id (m2 id hi)).2) fun _ _ _ h => h
  have hro7 : s7.ro = st.ro := by rw [r7, hE6.ro]
  refine (SBlock_ok hF (sb := s3.next) (m := s2.next) (bid := bid) gs7 gm7 gb7 g2.len hl7 hll (fun id hi => by have := e4 id (m2 id hi); exact ⟨by omega, by omega⟩) ⟨by omega, by omega, by omega⟩ ⟨by omega, by omega, by omega⟩ (by rw [hro7]; have := hE6.next; omega) (by rw [hro7]; have := hE2'.next; omega) (by rw [hro7]; have := hE1.next; omega) rfl (by rw [k7 _ hlbne]; exact f4) ⟨by omega, hlbm, hlbb⟩ hfl).thn fun ⟨r1, s8⟩ ⟨p1, vo, io, p2, p3, p4, p5, p6, p7, p8, p9⟩ => ?_
  simp only at p1 p2 p3 p5 p6 p7 p8 p9 ⊢
  subst p1
  have gs8 : s8.get s3.next = some (.cells [Sl bid 0 1 7, Sl ub 0 1 1, Sl lb 0 1 1, Sl db 0 1 1, .map (some s2.next)]) := by rw [p9 _ (by omega) (by omega) (by omega)]; exact gs7
  have l0 : ∀ s : St, s.get s3.next = s8.get s3.next → s.load1 s3.next 0 = .ok (Sl bid 0 1 7) := fun s h => load1_eq (h.trans gs8) rfl
  have hl1 : ∀ s, sLen .slice (Sl bid 0 1 7) s = .ok (I 1, s) := fun s => rfl
  have hix : ∀ s, sIxA 7 none (Sl bid 0 1 7) (I 0) s = .ok (P bid 0, s) := fun s => by simp [sIxA, index, Res.need]
  have lb1 : s8.load1 bid 1 = .ok (.slice none 0 0) := load1_eq p2 rfl
  have lb2 : s8.load1 bid 2 = .ok vo := load1_eq p2 rfl
  have hln : ∀ s, sLen .slice (.slice none 0 0) s = .ok (I 0, s) := fun s => rfl
  simp [-sLen_slice, share_Share_j1_eq hJ, hnc, l0 s8 rfl, hl1]
  refine share_Share_l0_of hF hJ ?_
  rw [share_Share_l0_eq]
  simp [-sLen_slice, share_Share_j2_eq hJ, hnc, l0 s8 rfl, hix, lb1, hln]
  refine share_Share_l1_of hF hJ ?_
  rw [share_Share_l1_eq]
  simp [-sLen_slice, share_Share_j5_eq hJ, hnc, lb2, p3.len]
  have hol := shTo_len b.instrs b.instrs.length
  generalize hf : shTo b.instrs b.instrs.length = f at *
  have hfb : Flat f.same := by rw [← hf]; exact hfl _
  have hio : ∀ id ∈ io, s7.next ≤ id ∧ id < s8.next := p5
  have hso : shOut b = ⟨b.label, [], f.out.map fun x => x.turned (ofm f.same), if b.last.reads.2 = true then { b.last with a := ofm f.same b.last.reads.1 } else b.last⟩ := by unfold shOut; rw [hf]
  refine Sh_l3 hF hJ (s1 := s8) (same := f.same) (ids := io) gs8 p6 p2 ⟨by omega, by omega, by omega⟩ ⟨fun h => by have := hio _ h; omega, fun h => by have := hio _ h; omega, fun h => by have := hio _ h; omega⟩ (fun id h => (hio id h).2) (fun id h => by have := hio _ h; rw [p8, hro7]; have := hE6.next; omega) hfb (by omega) (fun s hL => ?_) f.out.length 0 s8 (by omega) ⟨Nat.le_refl _, rfl, fun _ _ _ => rfl, by simpa using p3⟩
  have hbo : bid ∉ io := fun h => by have := hio _ h; omega
  have hmo : s2.next ∉ io := fun h => by have := hio _ h; omega
  have hso' : s3.next ∉ io := fun h => by have := hio _ h; omega
  have gb9 : s.get bid = some (.cells (cB b.label (.slice none 0 0) vo b.last)) := by rw [hL.keep bid (by omega) hbo]; exact p2
  have hLn := hL.nx
  -- the program as it stands behind the end
  have hfin : ∀ (s' : St) (l' : Last), s.next ≤ s'.next → s'.ro = s.ro → (∀ id, id < s.next → id ≠ bid → s'.get id = s.get id) → s'.get bid = some (.cells (cB b.label (.slice none 0 0) vo l')) → l' = (if b.last.reads.2 = true then { b.last with a := ofm f.same b.last.reads.1 } else b.last) → Q (.agg #[Sl bid 0 1 7], s') := fun s' l' a1 a2 a3 a4 a5 => by
    rw [← hQ]
    refine ⟨Sl bid 0 1 7, rfl, .inr ⟨bid, 0, _, rfl, by show bid < s'.next; omega, a4, by simp [cB], fun i x hx => ?_⟩, ⟨by have := hE6.next; show st.next ≤ s'.next; omega, ?_, fun id hi => ?_⟩⟩
    · cases i with
      | succ i => simp at hx
      | zero =>
        simp at hx
        subst hx
        rw [hso, ← a5]
        refine ⟨.slice none 0 0, vo, rfl, .nil _ _ _ _ _, ?_⟩
        have hls := hL.ls.frame (st' := s') PInstr.fr fun id hi => a3 id (by have := hio id hi; omega) fun e => hbo (e ▸ hi)
        exact (hls.rsl (R' := RInstr) fun cs x is _ _ h => h.1).in fun id hi => by have := hio id hi; show id < s'.next; omega
    · show s'.ro = st.ro
      rw [a2, hL.ro, p8, hro7]
    · have := hE1.next; have := hE6.next; have := hE2'.next
      show s'.get id = st.get id
      rw [a3 id (by omega) (by omega), hL.keep id (by omega) (fun h => by have := hio _ h; omega), p9 id (by omega) (by omega) (by omega), k7 id (by omega), hE6.get id hi]
  -- the end of the loop over the blocks
  have hend : ∀ s' : St, s'.get s3.next = s8.get s3.next → Q (.agg #[Sl bid 0 1 7], s') → Ok (share_Share_j12 J (.agg #[.slice none 0 0]) (P s3.next 0) (I 1) (I 0) s') Q := fun s' h1 h2 => by
    rw [share_Share_j12_eq hJ]
    simp
    rw [wrap_id (n := 1) (by omega)]
    refine share_Share_l0_of hF hJ ?_
    rw [share_Share_l0_eq]
    have lN : s'.loadN s3.next 0 1 = .ok [Sl bid 0 1 7] := by rw [loadN_def, h1, gs8]; rfl
    have hu1 : ∀ s, sUpd 1 0 (.agg #[.slice none 0 0]) (.agg #[Sl bid 0 1 7]) s = .ok (.agg #[Sl bid 0 1 7], s) := fun s => by simp [Res.need]
    simp [share_Share_j3_eq hJ, hnc, lN, hu1, hfc, oneOf]
    exact h2
  have lN4 : s.loadN bid 3 4 = .ok [U b.last.kind, I b.last.a, I b.last.yes, I b.last.no] := by rw [loadN_def, gb9]; rfl
  have hvl : Value.agg #[U b.last.kind, I b.last.a, I b.last.yes, I b.last.no] = vL b.last := rfl
  simp [share_Share_j9_eq hJ, hnc, lN4, hvl]
  refine (LReads_ok hF b.last s).call fun s9 hE9 => ?_
  have h9 := hE9.next
  have L9 : s9.get s3.next = s8.get s3.next := by rw [hE9.get _ (by omega), hL.keep _ (by omega) hso']
  cases hrd : b.last.reads.2 with
  | false =>
    simp [Res.of]
    refine hend s9 L9 (hfin s9 b.last h9 hE9.ro (fun id hi _ => hE9.get id hi) (by rw [hE9.get _ (by omega)]; exact gb9) ?_)
    rw [if_neg (by rw [hrd]; decide)]
  | true =>
    have gs9 := L9.trans gs8
    have gm9 : s9.get s2.next = some (mPairs I f.same) := by rw [hE9.get _ (by omega), hL.keep _ (by omega) hmo]; exact p6
    have ho := Of_eq hF (sb := s3.next) (load1_eq gs9 rfl) gm9 (hfb.of b.last.reads.1)
    have hr9 : s9.ro ≤ bid := by rw [hE9.ro, hL.ro, p8, hro7]; omega
    have t9 : s9.storeN bid 4 [I (ofm f.same b.last.reads.1)] = .ok (s9.put bid (.cells (cB b.label (.slice none 0 0) vo { b.last with a := ofm f.same b.last.reads.1 }))) := by
      rw [storeN_def, hE9.get _ (by omega), gb9]
      simp only [need_dec hr9, need_dec (show 4 + [I (ofm f.same b.last.reads.1)].length ≤ (cB b.label (.slice none 0 0) vo b.last).length by simp [cB])]
      simp [splice, cB, Res.need]
    simp [-storeN_def, Res.of, ho, hnc, t9, Res.need]
    refine hend _ (by rw [get_put, if_neg (by omega)]; exact L9) (hfin _ { b.last with a := ofm f.same b.last.reads.1 } h9 hE9.ro (fun id hi hn => by rw [get_put, if_neg hn]; exact hE9.get id hi) (by rw [get_put, if_pos rfl]) ?_)
    rw [if_pos hrd]
end Go.Proofs.Ytenfblnmmmppbaa.Sh

