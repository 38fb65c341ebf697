/-
  The last of one's own blocks is turned.
-/
import Derived.Test.YtfknooeebmdfoaaIrPlain
set_option linter.unusedVariables false
set_option linter.unusedSimpArgs false
set_option linter.unusedSectionVars false
set_option maxRecDepth 100000
namespace Go.Proofs.Ytfknooeebmdfoaa.Sh
open Go Go.AM Go.Proofs

@[simp] theorem sNilc_P (b o : Nat) (st : St) : sNilc (P b o) st = .ok (P b o, st) := rfl

theorem RPhi.in {A A' : Nat → Prop} {st : St} {cs : List Value} {f : Phi} (h : RPhi A st cs f) (hA : ∀ id, A id → A' id) : RPhi A' st cs f := by
  obtain ⟨vf, va, h1, h2, h3⟩ := h
  exact ⟨vf, va, h1, h2.in hA, h3.in hA⟩
theorem RBlock.in {A A' : Nat → Prop} {st : St} {cs : List Value} {b : Block} (h : RBlock A st cs b) (hA : ∀ id, A id → A' id) : RBlock A' st cs b := by
  obtain ⟨vp, vi, h1, h2, h3⟩ := h
  exact ⟨vp, vi, h1, h2.mono hA (Agree.refl _ _) fun _ _ _ h => h.in hA, h3.in hA⟩
theorem RProg.in {A A' : Nat → Prop} {st : St} {v : Value} {p : Prog} (h : RProg A st v p) (hA : ∀ id, A id → A' id) : RProg A' st v p := RSl.mono h hA (Agree.refl _ _) fun _ _ _ h => h.in hA

/-- What stands where: the blocks ahead, the last. -/
theorem last_view {st : St} {vp : Value} {q : Prog} {b : Block} {ids : List Nat} (h : PProg st vp (q ++ [b]) ids) : ∃ (bid : Nat) (ids' : List Nat) (pre : List Value) (vph vi : Value) (i1 i2 : List Nat),
    vp = Sl bid 0 (q.length + 1) 7 ∧ ids = bid :: ids' ∧ pre.length = q.length * 7 ∧ st.get bid = some (.cells (pre ++ cB b.label vph vi b.last)) ∧ RepSl 3 PPhi st vph b.phis i1 ∧ RepSl 7 PInstr st vi b.instrs i2 ∧ (∀ id ∈ i1, id ∈ ids') ∧ (∀ id ∈ i2, id ∈ ids') ∧
    ∀ (A : Nat → Prop) (st' : St) (c : Nat) (bs : List Block) (cs2 : List (List Value)), (∀ id ∈ ids', A id) → A c → (∀ id ∈ ids', st'.get id = st.get id) → st'.get c = some (.cells (pre ++ cs2.flatten)) → cs2.length = bs.length → (∀ cs ∈ cs2, cs.length = 7) → (∀ (i : Nat) x cs, bs[i]? = some x → cs2[i]? = some cs → RBlock A st' cs x) → RProg A st' (Sl c 0 (q.length + bs.length) 7) (q ++ bs) := by
  rcases h with ⟨h, _⟩ | ⟨bid, css, idss, rfl, h2, h3, h4, h5, h6, rfl⟩
  · simp at h
  rw [List.length_append, List.length_singleton] at h3 h4
  have hlt : q.length < css.length := by omega
  have hlt' : q.length < idss.length := by omega
  have hs : css = css.take q.length ++ [css[q.length]] := by
    have h := (List.take_append_drop q.length css).symm
    rw [List.drop_eq_getElem_cons hlt, List.drop_eq_nil_of_le (by omega)] at h
    exact h
  obtain ⟨vph, vi, i1, i2, e1, e2, e3, e4⟩ := h6 q.length b css[q.length] idss[q.length] (by simp) (List.getElem?_eq_getElem hlt) (List.getElem?_eq_getElem hlt')
  have hin : ∀ id ∈ idss[q.length], id ∈ idss.flatten := fun id hi => List.mem_flatten.2 ⟨_, List.getElem_mem hlt', hi⟩
  have hpl : (css.take q.length).flatten.length = q.length * 7 := by
    rw [flat_len fun cs hc => (h5 cs (List.mem_of_mem_take hc)).1, List.length_take]
    congr 1; omega
  refine ⟨bid, idss.flatten, (css.take q.length).flatten, vph, vi, i1, i2, by rw [List.length_append, List.length_singleton], rfl, hpl, ?_, e2, e3, fun id hi => hin id (e4 ▸ List.mem_append_left _ hi), fun id hi => hin id (e4 ▸ List.mem_append_right _ hi), fun A st' c bs cs2 hA hAb hE hg hl2 hc2 hR => ?_⟩
  · rw [h2, ← e1]
    conv => lhs; rw [hs, List.flatten_append]
    simp
  · have hcl : ∀ cs ∈ css.take q.length ++ cs2, cs.length = 7 := fun cs hc => by
      rcases List.mem_append.1 hc with hc | hc
      · exact (h5 cs (List.mem_of_mem_take hc)).1
      · exact hc2 cs hc
    have hfl : (css.take q.length).flatten ++ cs2.flatten = (css.take q.length ++ cs2).flatten := by simp
    have htl : (css.take q.length).length = q.length := by rw [List.length_take]; omega
    refine .inr ⟨c, 0, _, by rw [List.length_append], hAb, hg, by simp only [List.length_append, hpl, flat_len hc2, hl2]; omega, fun i x hx => ?_⟩
    rw [Nat.zero_add, hfl]
    by_cases hi : i < q.length
    · have hc : css[i]? = some css[i] := List.getElem?_eq_getElem (by omega)
      have his : idss[i]? = some idss[i] := List.getElem?_eq_getElem (by omega)
      rw [flat_at hcl (cs := css[i]) (by rw [List.getElem?_append_left (by omega), List.getElem?_take, if_pos hi]; exact hc)]
      rw [List.getElem?_append_left hi] at hx
      have hb := h6 i x _ _ (by rw [List.getElem?_append_left hi]; exact hx) hc his
      have hsub : ∀ id ∈ idss[i], id ∈ idss.flatten := fun id hi => List.mem_flatten.2 ⟨_, List.mem_of_getElem? his, hi⟩
      exact ((PBlock.fr.fr hb fun id hid => hE id (hsub id hid)).read (js := idss.flatten) hsub).in hA
    · rw [List.getElem?_append_right (by omega)] at hx
      have hil : i - q.length < cs2.length := by have := (List.getElem?_eq_some_iff.1 hx).1; omega
      have hc : cs2[i - q.length]? = some cs2[i - q.length] := List.getElem?_eq_getElem hil
      rw [flat_at hcl (cs := cs2[i - q.length]) (by rw [List.getElem?_append_right (by omega), htl]; exact hc)]
      exact hR _ x _ hx hc

theorem append_one {t : St} {bid a m : Nat} {xs cs : List Value} (hg : t.get bid = some (.cells xs)) (hx : xs.length = m * 7) (ha : t.get a = some (.cells cs)) (hc : cs.length = 7) (hck : cs.all cellOk = true) (hro : t.ro ≤ bid) (hm : m < 1000) :
    sAppend 7 88 (Sl bid 0 m 7) (Sl a 0 1 7) t = .ok (Sl t.next 0 (m + 1) 7, (t.put bid .dead).alloc (.cells (xs ++ cs))) := by
  have hneed : ∀ {b : Bool} {s : String}, b = true → Res.need b s = .ok () := fun h => by subst h; rfl
  have hf : firstL t 7 1 (Sl a 0 1 7) = .ok cs := by
    simp only [firstL, hneed (decide_eq_true (rfl : 7 = 7)), Res.bind_ok, St.loadN, cells_eq ha, hneed (decide_eq_true (show 0 + 1 * 7 ≤ cs.length by omega))]
    rw [List.drop_zero, List.take_of_length_le (by omega)]
    rfl
  have hbb : (m + 1) * 88 ≤ mostBytes := by unfold mostBytes; omega
  simp only [sAppend, aappend, lenL, hf, Res.bind_ok, hneed (decide_eq_true (show cs.length = 1 * 7 by omega)), if_neg (show ¬ 1 = 0 by decide), hneed (decide_eq_true hbb), hneed hck, hneed (decide_eq_true (rfl : 7 = 7)), cells_eq hg, hneed (decide_eq_true hro), if_neg (show ¬ 0 + (m + 1) * 7 ≤ xs.length by rw [hx]; omega), hneed (decide_eq_true (show 0 + m * 7 = xs.length by omega)), List.drop_zero]
  rfl

theorem store_at {t : St} {bid : Nat} {pre cs vs : List Value} (hg : t.get bid = some (.cells (pre ++ cs))) (hro : t.ro ≤ bid) {k : Nat} (hk : k + vs.length ≤ cs.length) (hck : vs.all cellOk = true) :
    t.storeN bid (pre.length + k) vs = .ok (t.put bid (.cells (pre ++ splice cs k vs))) := by
  rw [storeN_def, hg]
  have h1 : pre.length + k + vs.length ≤ (pre ++ cs).length := by rw [List.length_append]; omega
  have h2 : splice (pre ++ cs) (pre.length + k) vs = pre ++ splice cs k vs := by
    unfold splice
    rw [List.take_length_add_append, Nat.add_assoc, List.drop_length_add_append, List.append_assoc]
  simp only [need_dec hro, need_dec h1, hck, h2]
  rfl
theorem load_at {t : St} {bid : Nat} {pre cs : List Value} (hg : t.get bid = some (.cells (pre ++ cs))) {k : Nat} {v : Value} (hv : cs[k]? = some v) : t.load1 bid (pre.length + k) = .ok v := by
  rw [load1_def, hg]
  simp only [List.getElem?_append_right (Nat.le_add_right _ _), Nat.add_sub_cancel_left, hv]
  rfl

theorem rsl_zeros {α : Type} {A : Nat → Prop} {st : St} {s : Nat} {R : List Value → α → Prop} {z : List Value} {x : α} {b : Nat} (n : Nat) (hz : R z x) (hs : z.length = s) (hg : st.get b = some (.cells (zerosL z n))) (hA : A b) : RSl A st s R (Sl b 0 n s) (List.replicate n x) := by
  have he : zerosL z n = (List.replicate n z).flatten := by
    clear hg
    induction n with
    | zero => rfl
    | succ n ih => rw [zerosL, List.replicate_succ, List.flatten_cons, ih]
  have hcl : ∀ cs ∈ List.replicate n z, cs.length = s := fun cs hc => by rw [List.eq_of_mem_replicate hc]; exact hs
  refine .inr ⟨b, 0, _, by rw [List.length_replicate], hA, hg, by rw [he, flat_len hcl]; simp, fun i y hy => ?_⟩
  have hi : i < n := by have := (List.getElem?_eq_some_iff.1 hy).1; simpa using this
  have : y = x := List.eq_of_mem_replicate (List.mem_of_getElem? hy)
  subst this
  rw [Nat.zero_add, he, flat_at hcl (cs := z) (by simp [hi])]
  exact hz

theorem flat_instr {st : St} {css : List (List Value)} {idss : List (List Nat)} : ∀ {l : List Instr}, css.length = l.length → idss.length = l.length → (∀ (i : Nat) x cs is, l[i]? = some x → css[i]? = some cs → idss[i]? = some is → PInstr st cs x is) → css = l.map cI := by
  induction css generalizing idss with
  | nil => intro l h _ _; cases l with
    | nil => rfl
    | cons => simp at h
  | cons c css ih =>
    intro l h h' hp
    cases l with
    | nil => simp at h
    | cons x l =>
      cases idss with
      | nil => simp at h'
      | cons is idss =>
        rw [List.map_cons, (hp 0 x c is rfl rfl rfl).1, ih (by simpa using h) (by simpa using h') fun i x cs is h1 h2 h3 => hp (i + 1) x cs is h1 h2 h3]

theorem rsl_instrs {A : Nat → Prop} {t : St} {c : Nat} (l : List Instr) (hg : t.get c = some (.cells (l.map cI).flatten)) (hA : A c) : RSl A t 7 RInstr (Sl c 0 l.length 7) l := by
  have hcl : ∀ cs ∈ l.map cI, cs.length = 7 := fun cs hc => by
    obtain ⟨x, _, rfl⟩ := List.mem_map.1 hc
    rfl
  refine .inr ⟨c, 0, _, rfl, hA, hg, by rw [flat_len hcl]; simp, fun i x hx => ?_⟩
  rw [Nat.zero_add, flat_at hcl (cs := cI x) (by simp [hx])]
  rfl

/-- One more ahead of them. -/
theorem cons_instr {t : St} {vi : Value} {l : List Instr} {i2 : List Nat} {a : Nat} (h : RepSl 7 PInstr t vi l i2) (x : Instr) (ha : t.get a = some (.cells (cI x))) (hlt : a < t.next) (hro : t.ro ≤ a) (hai : a ∉ i2) (hl : l.length < 1000) :
    ∃ (c : Nat) (t' : St), sAppend 7 48 (Sl a 0 1 7) vi t = .ok (Sl c 0 (l.length + 1) 7, t') ∧ (∀ A : Nat → Prop, A c → RSl A t' 7 RInstr (Sl c 0 (l.length + 1) 7) (x :: l)) ∧ (∀ id, id ≠ a → id < t.next → t'.get id = t.get id) ∧ t.next ≤ t'.next ∧ t'.ro = t.ro ∧ c < t'.next ∧ (c = a ∨ t.next ≤ c) := by
  have hneed : ∀ {b : Bool} {s : String}, b = true → Res.need b s = .ok () := fun h => by subst h; rfl
  have hone : ∀ A : Nat → Prop, A a → RSl A t 7 RInstr (Sl a 0 1 7) [x] := fun A hA => rsl_instrs [x] (by simpa using ha) hA
  rcases h with ⟨rfl, rfl, c, rfl⟩ | ⟨b, css, idss, rfl, h2, h3, h4, h5, h6, rfl⟩
  · exact ⟨a, t, rfl, hone, fun _ _ _ => rfl, Nat.le_refl _, rfl, hlt, .inl rfl⟩
  · have he := flat_instr h3 h4 h6
    subst he
    have hfl : (l.map cI).flatten.length = l.length * 7 := by
      rw [flat_len (s := 7) fun cs hc => (h5 cs hc).1, List.length_map]
    have hf : firstL t 7 l.length (Sl b 0 l.length 7) = .ok (l.map cI).flatten := by
      simp only [firstL, hneed (decide_eq_true (rfl : 7 = 7)), Res.bind_ok, St.loadN, cells_eq h2, hneed (decide_eq_true (show 0 + l.length * 7 ≤ (l.map cI).flatten.length by omega))]
      rw [List.drop_zero, List.take_of_length_le (by omega)]
      rfl
    by_cases h0 : l = []
    · subst h0
      exact ⟨a, t, by simp only [sAppend, aappend, lenL, hf, Res.bind_ok]; rfl, hone, fun _ _ _ => rfl, Nat.le_refl _, rfl, hlt, .inl rfl⟩
    have hpos : 0 < l.length := List.length_pos_iff.2 h0
    refine ⟨t.next, (t.put a .dead).alloc (.cells (cI x ++ (l.map cI).flatten)), ?_, ?_, fun id h1 h2 => ?_, Nat.le_succ _, rfl, Nat.lt_succ_self _, .inr (Nat.le_refl _)⟩
    · have hck : (l.map cI).flatten.all cellOk = true := by
        rw [List.all_flatten, List.all_eq_true]
        exact fun cs hc => (h5 cs hc).2
      have hbb : (1 + l.length) * 48 ≤ mostBytes := by unfold mostBytes; omega
      have hx7 : (cI x).length = 7 := rfl
      simp only [sAppend, aappend, lenL, hf, Res.bind_ok, hneed (decide_eq_true hfl), if_neg (show ¬ l.length = 0 by omega), hneed (decide_eq_true hbb), hneed hck, hneed (decide_eq_true (rfl : 7 = 7)), cells_eq ha, hneed (decide_eq_true hro), if_neg (show ¬ 0 + (1 + l.length) * 7 ≤ (cI x).length by rw [hx7]; omega), hneed (decide_eq_true (show 0 + 1 * 7 = (cI x).length from rfl)), List.drop_zero]
      rw [Nat.add_comm 1 l.length]
      rfl
    · exact fun A hA => rsl_instrs (x :: l) (by rw [get_alloc, if_pos (by rfl)]; rfl) hA
    · rw [get_alloc, if_neg (by show id ≠ t.next; omega), get_put, if_neg h1]

section
variable {K : Ctx} (hF : Fix pgF K)
include hF

theorem Out_eq {st : St} {c : Nat} {n : Int} (lo hi : Int) (h : st.get c = some (.cells [I n])) : K.go (.call n_refinerylaw03_IrChecks_1 [I lo, I hi, P c 0]) st = .ok (I (if n < lo ∨ hi < n then 2 else 0), st) := by
  refine Ok.eq (refinerylaw03_IrChecks_1_of hF fun J hJ => ?_)
  rw [refinerylaw03_IrChecks_1_eq]
  by_cases h1 : n < lo
  · simp [load1_def, h, h1, Res.of]
  · by_cases h2 : hi < n <;> simp [load1_def, h, h1, h2, Res.of, refinerylaw03_IrChecks_1_j0_eq hJ]

theorem Add_ok {t : St} {bid qb : Nat} {pre : List Value} {n : Int} {vph vi : Value} {m : Last} {l : List Instr} {i2 : List Nat} (hg : t.get bid = some (.cells (pre ++ cB n vph vi m))) (hq : t.get qb = some (.cells [P bid pre.length])) (hv : RepSl 7 PInstr t vi l i2) (hl : l.length < 1000)
    (hlt : bid < t.next) (hqlt : qb < t.next) (hro : t.ro ≤ bid) (hb : bid ∉ i2) (hqb : qb ≠ bid) (h2 : ∀ id ∈ i2, id < t.next) (x : Instr) {Q : Value × St → Prop}
    (hQ : ∀ (v : Value) (s : St) (vi' : Value), s.get bid = some (.cells (pre ++ cB n vph vi' m)) → RSl (Bel s.next) s 7 RInstr vi' (x :: l) → (∀ id, id ≠ bid → id < t.next → s.get id = t.get id) → t.next ≤ s.next → s.ro = t.ro → Q (v, s)) :
    Ok (K.go (.call n_refinerylaw03_IrChecks_2 [vI x, P qb 0]) t) Q := by
  refine refinerylaw03_IrChecks_2_of hF fun J hJ => ?_
  rw [refinerylaw03_IrChecks_2_eq]
  have hlb : sLbox (vI x) t = .ok (vI x, t.bump) := rfl
  have hfi : ∀ s, sField (some 7) 0 (vI x) s = .ok (vI x, s) := fun s => rfl
  generalize ht1 : (t.bump).alloc (.cells (cI x)) = t1
  have n1 : t1.next = t.next + 2 := by rw [← ht1]; rfl
  have hE : Ext t t1 := by rw [← ht1]; simp
  have ga : t1.get (t.next + 1) = some (.cells (cI x)) := by rw [← ht1]; simp
  have gb : t1.get bid = some (.cells (pre ++ cB n vph vi m)) := by rw [hE.get _ hlt]; exact hg
  have gq : t1.get qb = some (.cells [P bid pre.length]) := by rw [hE.get _ hqlt]; exact hq
  obtain ⟨c, t2, e1, e2, e3, e4, e5, e6, e7⟩ := cons_instr (hv.frame PInstr.fr fun id hi => hE.get id (h2 id hi)) x ga (by omega) (by rw [hE.ro]; omega) (fun hm => by have := h2 _ hm; omega) hl
  have gb2 : t2.get bid = some (.cells (pre ++ cB n vph vi m)) := by rw [e3 bid (by omega) (by omega)]; exact gb
  have gq2 : t2.get qb = some (.cells [P bid pre.length]) := by rw [e3 qb (by omega) (by omega)]; exact gq
  have hst : t2.storeN bid (pre.length + 2) [Sl c 0 (l.length + 1) 7] = .ok (t2.put bid (.cells (pre ++ cB n vph (Sl c 0 (l.length + 1) 7) m))) := store_at gb2 (by rw [e5, hE.ro]; exact hro) (k := 2) (vs := [Sl c 0 (l.length + 1) 7]) (by simp [cB]) rfl
  have hld : ∀ s : St, s.get bid = some (.cells (pre ++ cB n vph vi m)) → s.load1 bid (pre.length + 2) = .ok vi := fun s h => load_at h rfl
  have hlq : ∀ s : St, s.get qb = some (.cells [P bid pre.length]) → s.load1 qb 0 = .ok (P bid pre.length) := fun s h => load1_eq h rfl
  have hs1 : sLit 7 1 [U 0, U 0, I 0, I 0, I 0, I 0, I 0] [(0, 7, vI x)] t.bump = .ok (Sl (t.next + 1) 0 1 7, t1) := by rw [sLit_vI, ht1]; rfl
  have hsy : sStays [t1] t2.next (P qb 0) (fun s => s.load1 qb 0 >>= fun v => .ok (v, s)) (P bid pre.length) = true := by simp [sStays, hlq _ gq]
  clear ht1
  simp [-storeN_def, hlb, hfi, hs1, hlq _ gq, hlq _ gq2, hld _ gb, e1, hst, hsy, Res.need]
  refine hQ _ (t2.put bid (.cells (pre ++ cB n vph (Sl c 0 (l.length + 1) 7) m))) (Sl c 0 (l.length + 1) 7) (by rw [get_put, if_pos rfl]) ?_ (fun id h1 h3 => ?_) (Nat.le_trans hE.next e4) (e5.trans hE.ro)
  · refine (e2 (fun id => id = c) rfl).mono (fun id h => ?_) (fun id hid => ?_) fun _ _ _ h => h
    · subst h; exact e6
    · subst hid; rw [get_put, if_neg (by omega)]
  · rw [get_put, if_neg h1, e3 id (by omega) (by omega), hE.get id h3]
end
end Go.Proofs.Ytfknooeebmdfoaa.Sh

