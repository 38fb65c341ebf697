/-
  IrChecks: whatever it is given, the law's function answers true.
-/
import Derived.Test.YtfknooeebmdfoaaIrChecks0
import Derived.Test.YtfknooeebmdfoaaShL5
import Derived.Test.YtfknooeebmdfoaaIrSmallArgs
set_option linter.unusedVariables false
set_option linter.unusedSimpArgs false
set_option linter.unusedSectionVars false
set_option maxRecDepth 100000
namespace Go.Proofs.Ytfknooeebmdfoaa.Sh
open Go Go.AM Go.Proofs
theorem sCall_1 (K : Ctx) (f : FuncId) (x : Value) (args : List Value) (st : St) : sCall K (.func (.func f) #[] #[x]) args st = K.go (.call f (args ++ [x])) st := by
  simp [sCall, taskOf]
theorem prog_phis (s : Small) {c : Block} (h : c ∈ s.prog) : c.phis = [] := by
  unfold Small.prog at h
  obtain ⟨i, _, rfl⟩ := List.mem_map.1 h
  rfl
theorem chk_dst (n : Int) : (Instr.mk 0 0 n 0 0 0 0).check = if n < 0 ∨ 99999 < n then 2 else 0 := by
  simp [Instr.check, Instr.only, Instr.sets, Instr.reads, isReg]
  by_cases h : 0 ≤ n ∧ n < 100000
  · rw [if_neg (by omega), if_neg (by omega)]
  · rw [if_pos (by omega), if_pos (by omega)]
theorem chk_a (n : Int) : (Instr.mk 4 0 0 n 0 0 0).check = if n < 0 ∨ 99999 < n then 2 else 0 := by
  simp [Instr.check, Instr.only, Instr.sets, Instr.reads, isReg]
  by_cases h : 0 ≤ n ∧ n < 100000
  · rw [if_neg (by omega), if_neg (by omega)]
  · rw [if_pos (by omega), if_pos (by omega)]
theorem chk_slot (n : Int) : (Instr.mk 6 0 0 0 0 0 n).check = if n < 0 ∨ 15 < n then 2 else 0 := by
  simp [Instr.check, Instr.only, Instr.sets, Instr.reads, isReg]
  by_cases h : n < 0 ∨ 16 ≤ n
  · rw [if_pos (by omega), if_pos (by omega)]
  · rw [if_neg (by omega), if_neg (by omega)]

theorem one_phi {A : Nat → Prop} {st : St} {c : Nat} {f : Phi} {vf va : Value} (hg : st.get c = some (.cells [I f.dst, vf, va])) (hA : A c) (hf : RSl A st 1 RInt vf f.frm) (ha : RSl A st 1 RInt va f.args) : RSl A st 3 (RPhi A st) (Sl c 0 1 3) [f] :=
  .inr ⟨c, 0, _, rfl, hA, hg, by simp, fun i x hx => by
    cases i with
    | zero => simp at hx; subst hx; exact ⟨vf, va, rfl, hf, ha⟩
    | succ i => simp at hx⟩

variable {K : Ctx} (hF : Fix pgF K)
include hF

theorem Checks_j2 {J} (hJ : IsJ K (retK refinerylaw03_IrChecks_c.results) J) {t : St} {v : Value} {p : Prog} {w : Int} (hp : RProg (Bel t.next) t v p) (hs : count p < 2 ^ 62) (hb : ∀ b ∈ p, ∀ f ∈ b.phis, f.frm.length < 2 ^ 62) (hro : t.ro ≤ t.next) (hw : check p = w) :
    Ok (refinerylaw03_IrChecks_j2 J (.agg #[v]) (I w) t) fun r => r.1 = B true := by
  rw [refinerylaw03_IrChecks_j2_eq hJ]
  simp [Res.need]
  refine (Check_ok hF (fun _ h => h) hp hs hb hro).call fun s hE => ?_
  simp [hw]

section
variable {J : JT (Value × St)} (hJ : IsJ K (retK refinerylaw03_IrChecks_c.results) J) {st1 t : St} {q : Prog} {b : Block} {bid qb nb : Nat} {ids' : List Nat} {pre : List Value} {vph vi : Value} {i1 i2 : List Nat} {what n : Int}
  (sp : Split q b) (hqp : ∀ c ∈ q, c.phis = []) (hpre : pre.length = q.length * 7) (hg : t.get bid = some (.cells (pre ++ cB b.label vph vi b.last))) (hph : RepSl 3 PPhi t vph b.phis i1) (hvi : RepSl 7 PInstr t vi b.instrs i2) (hi1 : ∀ id ∈ i1, id ∈ ids') (hi2 : ∀ id ∈ i2, id ∈ ids')
  (re : ∀ (A : Nat → Prop) (st' : St) (c : Nat) (bs : List Block) (cs2 : List (List Value)), (∀ id ∈ ids', A id) → A c → (∀ id ∈ ids', st'.get id = t.get id) → st'.get c = some (.cells (pre ++ cs2.flatten)) → cs2.length = bs.length → (∀ cs ∈ cs2, cs.length = 7) → (∀ (i : Nat) x cs, bs[i]? = some x → cs2[i]? = some cs → RBlock A st' cs x) → RProg A st' (Sl c 0 (q.length + bs.length) 7) (q ++ bs))
  (hq : t.get qb = some (.cells [P bid pre.length])) (hn : t.get nb = some (.cells [I n]))
  (lb : bid < t.next) (lq : qb < t.next) (ln : nb < t.next) (hro : t.ro ≤ t.next) (hrb : t.ro ≤ bid) (nqb : qb ≠ bid) (nnb : nb ≠ bid) (hids : ∀ id ∈ ids', id < t.next ∧ id ≠ bid)
include hF hJ sp hqp hpre hg hph hvi hi1 hi2 re hq hn lb lq ln hro hrb nqb nnb hids

omit hF hJ hqp hpre hg hq hn hvi re lb lq ln hro hrb nqb nnb sp hi2 in
theorem CK_phis {t' : St} (hnx : t.next ≤ t'.next) (hE : ∀ id ∈ ids', t'.get id = t.get id) : RSl (Bel t'.next) t' 3 (RPhi (Bel t'.next) t') vph b.phis :=
  ((hph.frame PPhi.fr fun id hi => hE id (hi1 id hi)).rsl fun cs x is _ h1 h => (h.read (js := ids') fun id hid => hi1 id (h1 id hid)).in fun id hid => Nat.lt_of_lt_of_le (hids id hid).1 hnx).in fun id hid => Nat.lt_of_lt_of_le (hids id (hi1 id hid)).1 hnx
omit hF hJ hqp hpre hg hq hn hph re lb lq ln hro hrb nqb nnb sp hi1 in
theorem CK_ins {t' : St} (hnx : t.next ≤ t'.next) (hE : ∀ id ∈ ids', t'.get id = t.get id) : RSl (Bel t'.next) t' 7 RInstr vi b.instrs :=
  ((hvi.frame PInstr.fr fun id hi => hE id (hi2 id hi)).rsl (R' := RInstr) fun cs x is _ h1 h => h.1).in fun id hid => Nat.lt_of_lt_of_le (hids id (hi2 id hid)).1 hnx

omit hg hph hvi hi1 hi2 hq hn lq ln hrb nqb nnb in
/-- The last block is another one: what Check says of that. -/
theorem CK_end {t' : St} {b' : Block} {vph' vi' : Value} {w : Int} (hnx : t.next ≤ t'.next) (hE : ∀ id ∈ ids', t'.get id = t.get id) (hr : t'.ro = t.ro) (hg' : t'.get bid = some (.cells (pre ++ cB b'.label vph' vi' b'.last))) (hph' : RSl (Bel t'.next) t' 3 (RPhi (Bel t'.next) t') vph' b'.phis) (hvi' : RSl (Bel t'.next) t' 7 RInstr vi' b'.instrs)
    (hc : count [b'] ≤ 5000) (hf : ∀ f ∈ b'.phis, f.frm.length < 2 ^ 62) (hw : check (q ++ [b']) = w) : Ok (refinerylaw03_IrChecks_j2 J (.agg #[Sl bid 0 (q.length + 1) 7]) (I w) t') fun r => r.1 = B true := by
  have := sp.cnt
  refine Checks_j2 hF hJ (p := q ++ [b']) (re (Bel t'.next) t' bid [b'] [cB b'.label vph' vi' b'.last] (fun id hid => Nat.lt_of_lt_of_le (hids id hid).1 hnx) (Nat.lt_of_lt_of_le lb hnx) hE (by simpa using hg') rfl (fun cs hc => by rw [List.mem_singleton.1 hc]; rfl) fun i x cs hx hc => ?_) (by rw [count_append]; omega) (fun c hc => ?_) (by rw [hr]; exact Nat.le_trans hro hnx) hw
  · cases i with
    | zero => simp at hx hc; subst hx; subst hc; exact ⟨vph', vi', rfl, hph', hvi'⟩
    | succ i => simp at hx
  · rcases List.mem_append.1 hc with hc | hc
    · rw [hqp c hc]; simp
    · rw [List.mem_singleton.1 hc]; exact hf

omit hF hJ hqp hpre hq hn re hph hvi hi1 hi2 lq ln hro nqb nnb sp lb hids in
theorem CK_put {t' : St} (hE : Ext t t') (k : Nat) (vs : List Value) (hl : bid < t.next) (hk : k + vs.length ≤ 7) (hck : vs.all cellOk = true) : t'.storeN bid (pre.length + k) vs = .ok (t'.put bid (.cells (pre ++ splice (cB b.label vph vi b.last) k vs))) :=
  store_at (by rw [hE.get _ hl]; exact hg) (by rw [hE.ro]; exact hrb) (by simpa [cB] using hk) hck

theorem CK_add (x : Instr) : Ok (K.go (.call n_refinerylaw03_IrChecks_2 [vI x, P qb 0]) t) fun r => r.2.get nb = some (.cells [I n]) ∧ ∀ w, x.check = w → Ok (refinerylaw03_IrChecks_j2 J (.agg #[Sl bid 0 (q.length + 1) 7]) (I w) r.2) fun r => r.1 = B true := by
  have hil := sp.ilen
  refine Add_ok hF hg hq hvi (by omega) lb lq hrb (fun hm => (hids _ (hi2 _ hm)).2 rfl) nqb (fun id hid => (hids _ (hi2 _ hid)).1) x fun v s vi' g1 g2 g3 g4 g5 => ?_
  have hE : ∀ id ∈ ids', s.get id = t.get id := fun id hid => g3 id (hids id hid).2 (hids id hid).1
  refine ⟨by rw [g3 nb nnb ln]; exact hn, fun w hw => ?_⟩
  refine CK_end hF hJ sp hqp hpre re lb hro hids (b' := { b with instrs := x :: b.instrs }) g4 hE g5 g1 (CK_phis hph hi1 hids g4 hE) g2 (by simp [count, sp.phis]; omega) (by rw [sp.phis]; simp) ?_
  rw [sp.add, hw]
end

theorem Checks_j1 {J} (hJ : IsJ K (retK refinerylaw03_IrChecks_c.results) J) {A : Nat → Prop} {st : St} (hro : st.ro ≤ st.next) {s : Small} (hs : s.Ok) (hl : s.light = true) {v : Value} (hA : ∀ id, A id → id < st.next) (hv : RSmall A st v s) {what n : Int} (hw : 0 ≤ what ∧ what ≤ 255) {nb : Nat} (hnb : nb < st.next) (hn : st.get nb = some (.cells [I n])) :
    Ok (refinerylaw03_IrChecks_j1 J (U what) v (P nb 0) st) fun r => r.1 = B true := by
  have hf : ∀ s, sField (some 3) 0 v s = .ok (v, s) := by
    obtain ⟨vb, rfl, _⟩ := hv
    intro s; rfl
  rw [refinerylaw03_IrChecks_j1_eq hJ]
  simp [hf]
  refine (Program_ok hF hro hs hl hA hv).thn fun ⟨r1, st1⟩ ⟨vp, ids, h1, h2, h3, h4, hE⟩ => ?_
  simp only at h1 h2 h4 hE ⊢
  subst h1
  obtain ⟨q, b, hp, sp⟩ := small_split hs hl
  rw [hp] at h2
  have hqp : ∀ c ∈ q, c.phis = [] := fun c hc => prog_phis s (by rw [hp]; exact List.mem_append_left _ hc)
  obtain ⟨bid, ids', pre, vph, vi, i1, i2, rfl, rfl, hpre, hg, hph, hvi, hi1, hi2, re⟩ := last_view h2
  have hsub : ∀ s, sBin .sub (goInt ((q.length : Int) + 1)) (I 1) s = .ok (I q.length, s) := fun s => by
    have := sp.qlen
    show sBin .sub (I _) (I 1) s = _
    rw [sSub, wrap_id (by omega), Int.add_sub_cancel]
  have hix : ∀ s, sIxA 7 none (Sl bid 0 (q.length + 1) 7) (I q.length) s = .ok (P bid pre.length, s) := fun s => by simp [sIxA, index, Res.need, hpre, show (q.length : Int) < q.length + 1 by omega]
  have hbl : bid < st1.next := (h4 bid (by simp)).2
  have hbs : st.next ≤ bid := (h4 bid (by simp)).1
  have hnd : bid ∉ ids' := (List.nodup_cons.1 h3).1
  have hidl : ∀ id ∈ ids', id < st1.next := fun id hi => (h4 id (by simp [hi])).2
  have hn1 : st1.get nb = some (.cells [I n]) := by rw [hE.get nb hnb]; exact hn
  have hnx := hE.next
  have hr1 := hE.ro
  have hle : st1.ro ≤ st1.next + 1 := by omega
  have hup : ∀ (a b : Nat) (s : St) (x : Value), sUpd 1 0 (.agg #[x]) (.agg #[Sl a 0 b 7]) s = .ok (.agg #[Sl a 0 b 7], s) := fun a b s x => by simp [Res.need]
  have hup' : ∀ (a b : Nat) (s : St) (x : Value), sUpd 1 0 (.agg #[x]) (Sl a 0 b 7) s = .ok (.agg #[Sl a 0 b 7], s) := fun a b s x => by simp [Res.need]
  simp [hup, hup', hsub, hix, Res.need, hle]
  generalize ht : (St.alloc st1.bump (.cells [Value.pointer none])).put (st1.next + 1) (.cells [P bid pre.length]) = t
  have tE : Ext st1 t := by rw [← ht]; exact Ext.put (by simp) (by omega) _
  have tn : t.next = st1.next + 2 := by rw [← ht]; rfl
  have tq : t.get (st1.next + 1) = some (.cells [P bid pre.length]) := by rw [← ht]; simp
  have tb : t.get bid = some (.cells (pre ++ cB b.label vph vi b.last)) := by rw [tE.get _ hbl]; exact hg
  have tnb : t.get nb = some (.cells [I n]) := by rw [tE.get _ (by omega)]; exact hn1
  have tro : t.ro ≤ t.next := by rw [tE.ro]; omega
  have trb : t.ro ≤ bid := by rw [tE.ro]; omega
  clear ht
  generalize hqb : st1.next + 1 = qb at *
  have lq : qb < t.next := by omega
  have tph := hph.frame (st' := t) PPhi.fr fun id hi => tE.get id (hidl id (hi1 id hi))
  have tvi := hvi.frame (st' := t) PInstr.fr fun id hi => tE.get id (hidl id (hi2 id hi))
  have tre : ∀ (A : Nat → Prop) (st' : St) (c : Nat) (bs : List Block) (cs2 : List (List Value)), (∀ id ∈ ids', A id) → A c → (∀ id ∈ ids', st'.get id = t.get id) → st'.get c = some (.cells (pre ++ cs2.flatten)) → cs2.length = bs.length → (∀ cs ∈ cs2, cs.length = 7) → (∀ (i : Nat) x cs, bs[i]? = some x → cs2[i]? = some cs → RBlock A st' cs x) → RProg A st' (Sl c 0 (q.length + bs.length) 7) (q ++ bs) :=
    fun A st' c bs cs2 g1 g2 g3 => re A st' c bs cs2 g1 g2 fun id hid => (g3 id hid).trans (tE.get id (hidl id hid))
  have hids : ∀ id ∈ ids', id < t.next ∧ id ≠ bid := fun id hid => ⟨by have := hidl id hid; omega, fun e => hnd (e ▸ hid)⟩
  have lb : bid < t.next := by omega
  have ln : nb < t.next := by omega
  have nqb : qb ≠ bid := by omega
  have nnb : nb ≠ bid := by omega
  clear re tE hvi hph hg hn1 h2 h3 h4
  have cend := @CK_end K hF J hJ t q b bid ids' pre sp hqp hpre tre lb tro hids
  have cadd := fun x => CK_add hF hJ sp hqp hpre tb tph tvi hi1 hi2 tre tq tnb lb lq ln tro trb nqb nnb hids x
  have cput := fun (t' : St) (hE : Ext t t') (k : Nat) (vs : List Value) => CK_put tb trb hE k vs lb
  have cphi := fun (t' : St) => CK_phis (t' := t') tph hi1 hids
  have cins := fun (t' : St) => CK_ins (t' := t') tvi hi2 hids
  have hk : what.tmod 14 = 0 ∨ what.tmod 14 = 1 ∨ what.tmod 14 = 2 ∨ what.tmod 14 = 3 ∨ what.tmod 14 = 4 ∨ what.tmod 14 = 5 ∨ what.tmod 14 = 6 ∨ what.tmod 14 = 7 ∨ what.tmod 14 = 8 ∨ what.tmod 14 = 9 ∨ what.tmod 14 = 10 ∨ what.tmod 14 = 11 ∨ what.tmod 14 = 12 ∨ what.tmod 14 = 13 := by
    rw [Int.tmod_eq_emod_of_nonneg hw.1]; omega
  have ldq : ∀ t' : St, Ext t t' → t'.load1 qb 0 = .ok (P bid pre.length) := fun t' hE => load1_eq (by rw [hE.get _ lq]; exact tq) rfl
  have ldn : ∀ t' : St, Ext t t' → t'.load1 nb 0 = .ok (I n) := fun t' hE => load1_eq (by rw [hE.get _ ln]; exact tnb) rfl
  have ldl : ∀ t' : St, Ext t t' → t'.load1 bid pre.length = .ok (I b.label) := fun t' hE => load_at (k := 0) (by rw [hE.get _ lb]; exact tb) rfl
  have hcb : count [b] ≤ 100 := by
    have := sp.ilen
    simp [count, sp.phis]; omega
  have frm : ∀ (t' : St), Ext t t' → ∀ (x : List Value) (id : Nat), id ∈ ids' → (t'.put bid (.cells x)).get id = t.get id := fun t' hE x id hid => by
    rw [get_put, if_neg (hids id hid).2, hE.get _ (hids id hid).1]
  rcases hk with hk | hk | hk | hk | hk | hk | hk | hk | hk | hk | hk | hk | hk | hk
  · simp [hk, sMkSlice, hup', Res.need, mostBytes]
    exact Checks_j2 hF hJ (p := List.replicate 401 ⟨0, [], [], ⟨0, 0, 0, 0⟩⟩) (rsl_zeros 401 (z := cB 0 (.slice none 0 0) (.slice none 0 0) ⟨0, 0, 0, 0⟩) ⟨.slice none 0 0, .slice none 0 0, rfl, .nil _ _ _ _ _, .nil _ _ _ _ _⟩ rfl (by rw [get_alloc, if_pos rfl]; rfl) (Nat.lt_succ_self _)) (by simp [count]) (by simp) (Nat.le_succ_of_le tro) (by simp [check])
  · simp [-storeN_def, hk, sMkSlice, Res.need, mostBytes, ldq]
    rw [cput _ (by simp) 2 _ (by simp) rfl, thn_ok]
    exact cend (b' := { b with instrs := List.replicate 4000 ⟨0, 0, 0, 0, 0, 0, 0⟩ }) (vph' := vph) (vi' := Sl t.next 0 4000 7) (Nat.le_succ _) (frm _ (by simp) _) rfl (by rw [get_put]; exact if_pos rfl) (cphi _ (Nat.le_succ _) (frm _ (by simp) _)) (rsl_zeros 4000 (z := cI ⟨0, 0, 0, 0, 0, 0, 0⟩) rfl rfl (by rw [get_put, if_neg (by omega), get_alloc]; exact if_pos rfl) (Nat.lt_succ_self _)) (by simp [count, sp.phis]) (by simp [sp.phis]) (sp.many _ (by simp))
  · simp [-storeN_def, hk, sCall_1]
    rw [Out_eq hF 0 99999 tnb]
    by_cases hn' : n < 0 ∨ 99999 < n
    · simp [-storeN_def, hn', refinerylaw03_IrChecks_j3_eq hJ, ldq, ldn, Res.need]
      have c0 := cput t (Ext.refl _) 0 [I n] (by simp) rfl
      rw [Nat.add_zero] at c0
      rw [c0, thn_ok]
      exact cend (b' := { b with label := n }) (vph' := vph) (vi' := vi) (Nat.le_refl _) (frm _ (Ext.refl _) _) rfl (by rw [get_put]; exact if_pos rfl) (cphi _ (Nat.le_refl _) (frm _ (Ext.refl _) _)) (cins _ (Nat.le_refl _) (frm _ (Ext.refl _) _)) (by simp [count] at hcb ⊢; omega) (by simp [sp.phis]) (sp.label n hn')
    · simp [hn']
  · have hl7 : t.loadN bid pre.length 7 = .ok (cB b.label vph vi b.last) := by
      rw [loadN_def, tb]; simp [cB, Res.need]
    have hvb : Value.agg (cB b.label vph vi b.last).toArray = vB b.label vph vi b.last := rfl
    have hap := append_one (t := t.alloc (.cells (cB b.label vph vi b.last))) (bid := bid) (a := t.next) (m := q.length + 1) (xs := pre ++ cB b.label vph vi b.last) (cs := cB b.label vph vi b.last) (by rw [get_alloc, if_neg (by omega)]; exact tb) (by simp [cB, hpre]; omega) (by rw [get_alloc, if_pos rfl]) rfl (by simp [cB, tph.cell, tvi.cell]) trb (by have := sp.qlen; omega)
    simp [-storeN_def, hk, ldq, hl7, hvb, hap, hup']
    have hid' : ∀ id ∈ ids', (((t.alloc (.cells (cB b.label vph vi b.last))).put bid .dead).alloc (.cells (pre ++ (cB b.label vph vi b.last ++ cB b.label vph vi b.last)))).get id = t.get id := fun id hid => by
      have := hids id hid
      rw [get_alloc, if_neg (by show id ≠ t.next + 1; omega), get_put, if_neg this.2, get_alloc, if_neg (by omega)]
    have hb2 : RBlock (Bel (t.next + 2)) (((t.alloc (.cells (cB b.label vph vi b.last))).put bid .dead).alloc (.cells (pre ++ (cB b.label vph vi b.last ++ cB b.label vph vi b.last)))) (cB b.label vph vi b.last) b :=
      ⟨vph, vi, rfl, cphi _ (by show t.next ≤ t.next + 2; omega) hid', cins _ (by show t.next ≤ t.next + 2; omega) hid'⟩
    have hcn := sp.lens.2
    refine Checks_j2 hF hJ (p := q ++ [b, b]) (tre (Bel (t.next + 2)) _ (t.next + 1) [b, b] [cB b.label vph vi b.last, cB b.label vph vi b.last] (fun id hid => Nat.lt_of_lt_of_le (hids id hid).1 (by omega)) (Nat.lt_succ_self _) hid' (by rw [get_alloc, if_pos (by rfl)]; simp) rfl (fun cs hc => by simp at hc; subst hc; rfl) fun i x cs hx hc => ?_) ?_ (fun c hc => ?_) (by show t.ro ≤ t.next + 2; omega) (by have := sp.twice; simpa using this)
    · match i, hx, hc with
      | 0, hx, hc => simp at hx hc; subst hx; subst hc; exact hb2
      | 1, hx, hc => simp at hx hc; subst hx; subst hc; exact hb2
      | i + 2, hx, hc => simp at hx
    · have h5 := count_append q [b]
      have h6 := count_append q [b, b]
      have h7 : count [b, b] = count [b] + count [b] := count_append [b] [b]
      have h8 := count_nonneg q
      omega
    · rcases List.mem_append.1 hc with hc | hc
      · rw [hqp c hc]; simp
      · have : c = b := by simpa using hc
        rw [this, sp.phis]; simp
  · simp [-storeN_def, hk, ldn, sCall_1, Res.need, sBuild, fillL]
    refine (cadd ⟨0, 0, n, 0, 0, 0, 0⟩).thn fun ⟨r1, t2⟩ ⟨g1, g2⟩ => ?_
    simp only at g1 g2 ⊢
    rw [Out_eq hF 0 99999 g1, thn_ok]
    exact g2 _ (chk_dst n)
  · simp [-storeN_def, hk, ldn, sCall_1, Res.need, sBuild, fillL]
    refine (cadd ⟨4, 0, 0, n, 0, 0, 0⟩).thn fun ⟨r1, t2⟩ ⟨g1, g2⟩ => ?_
    simp only at g1 g2 ⊢
    rw [Out_eq hF 0 99999 g1, thn_ok]
    exact g2 _ (chk_a n)
  · simp [-storeN_def, hk, ldn, sCall_1, Res.need, sBuild, fillL]
    refine (cadd ⟨6, 0, 0, 0, 0, 0, n⟩).thn fun ⟨r1, t2⟩ ⟨g1, g2⟩ => ?_
    simp only at g1 g2 ⊢
    rw [Out_eq hF 0 15 g1, thn_ok]
    exact g2 _ (chk_slot n)
  · simp [-storeN_def, hk, ldn, sCall_1, Res.need, sBuild, fillL]
    refine (cadd ⟨9, 0, 0, 0, 0, 0, 0⟩).thn fun ⟨r1, t2⟩ ⟨g1, g2⟩ => ?_
    exact g2 _ (by decide)
  · simp [-storeN_def, hk, ldn, sCall_1, Res.need, sBuild, fillL]
    refine (cadd ⟨2, 12, 0, 0, 0, 0, 0⟩).thn fun ⟨r1, t2⟩ ⟨g1, g2⟩ => ?_
    exact g2 _ (by decide)
  · simp [-storeN_def, hk, ldn, sCall_1, Res.need, sBuild, fillL]
    refine (cadd ⟨3, 0, 0, 1, 0, 0, 0⟩).thn fun ⟨r1, t2⟩ ⟨g1, g2⟩ => ?_
    exact g2 _ (by decide)
  · simp [-storeN_def, hk, ldq, sBuild, fillL, Res.need]
    rw [cput t (Ext.refl _) 3 _ (by simp) rfl, thn_ok]
    exact cend (b' := { b with last := ⟨4, 0, 0, 0⟩ }) (vph' := vph) (vi' := vi) (Nat.le_refl _) (frm _ (Ext.refl _) _) rfl (by rw [get_put]; exact if_pos rfl) (cphi _ (Nat.le_refl _) (frm _ (Ext.refl _) _)) (cins _ (Nat.le_refl _) (frm _ (Ext.refl _) _)) (by simp [count] at hcb ⊢; omega) (by simp [sp.phis]) (by rw [sp.last]; exact rfl)
  · simp [-storeN_def, hk, ldq, sBuild, fillL, Res.need]
    rw [cput t (Ext.refl _) 3 _ (by simp) rfl, thn_ok]
    exact cend (b' := { b with last := ⟨0, 0, 77777, 0⟩ }) (vph' := vph) (vi' := vi) (Nat.le_refl _) (frm _ (Ext.refl _) _) rfl (by rw [get_put]; exact if_pos rfl) (cphi _ (Nat.le_refl _) (frm _ (Ext.refl _) _)) (cins _ (Nat.le_refl _) (frm _ (Ext.refl _) _)) (by simp [count] at hcb ⊢; omega) (by simp [sp.phis]) (by rw [sp.last]; exact sp.far)
  · simp [-storeN_def, hk, ldq, ldl, sBuild, fillL, sLit, Res.need]
    rw [cput _ (by simp) 1 _ (by simp) rfl, thn_ok]
    have h5 : (Phi.mk 0 [b.label] []).check ((q ++ [b]).map (·.label)) = 5 := rfl
    exact cend (b' := { b with phis := [⟨0, [b.label], []⟩] }) (vph' := Sl (t.next + 1) 0 1 3) (vi' := vi) (by show t.next ≤ t.next + 2; omega) (frm _ (by simp) _) rfl (by rw [get_put]; exact if_pos rfl)
      (one_phi (by rw [get_put, if_neg (by omega), get_alloc]; exact if_pos rfl) (by show t.next + 1 < t.next + 2; omega) (rsl_ints [b.label] [] (by rw [get_put, if_neg (by omega), get_alloc, if_neg (by show t.next ≠ t.next + 1; omega), get_alloc]; exact if_pos rfl) (by show t.next < t.next + 2; omega)) (.nil _ _ _ _ _))
      (cins _ (by show t.next ≤ t.next + 2; omega) (frm _ (by simp) _)) (by have := sp.ilen; simp [count]; omega) (by simp) (by rw [sp.phi _ (by rw [h5]; decide), h5])
  · simp [-storeN_def, hk, ldq, ldl, sBuild, fillL, sLit, Res.need]
    rw [cput _ (by simp) 1 _ (by simp) rfl, thn_ok]
    exact cend (b' := { b with phis := [⟨0, [b.label, b.label], [0, 0]⟩] }) (vph' := Sl (t.next + 2) 0 1 3) (vi' := vi) (by show t.next ≤ t.next + 3; omega) (frm _ (by simp) _) rfl (by rw [get_put]; exact if_pos rfl)
      (one_phi (by rw [get_put, if_neg (by omega), get_alloc]; exact if_pos rfl) (by show t.next + 2 < t.next + 3; omega) (rsl_ints [b.label, b.label] [] (by rw [get_put, if_neg (by omega), get_alloc, if_neg (by show t.next ≠ t.next + 2; omega), get_alloc, if_neg (by show t.next ≠ t.next + 1; omega), get_alloc]; exact if_pos rfl) (by show t.next < t.next + 3; omega)) (rsl_ints [0, 0] [] (by rw [get_put, if_neg (by omega), get_alloc, if_neg (by show t.next + 1 ≠ t.next + 2; omega), get_alloc]; exact if_pos rfl) (by show t.next + 1 < t.next + 3; omega)))
      (cins _ (by show t.next ≤ t.next + 3; omega) (frm _ (by simp) _)) (by have := sp.ilen; simp [count]; omega) (by simp) (by rw [sp.phi _ (by rw [sp.two]; decide), sp.two])

theorem IrChecks_ok {A : Nat → Prop} {st : St} (hro : st.ro ≤ st.next) {s : Small} (hs : s.Ok) (hn : s.blocks.length < 2 ^ 62) {v : Value} (hA : ∀ id, A id → id < st.next) (hv : RSmall A st v s) {what n : Int} (hw : 0 ≤ what ∧ what ≤ 255) :
    Ok (K.go (.call n_refinerylaw03_IrChecks [v, U what, I n]) st) fun r => r.1 = B true := by
  refine refinerylaw03_IrChecks_of hF fun J hJ => ?_
  rw [refinerylaw03_IrChecks_eq]
  have hlb : sLbox v st = .ok (v, st.bump) := by
    obtain ⟨vb, rfl, _⟩ := hv
    rfl
  have hf : ∀ s, sField (some 3) 0 v s = .ok (v, s) := by
    obtain ⟨vb, rfl, _⟩ := hv
    intro s; rfl
  simp [hlb]
  refine (Awake3_ok hF _ (by simp; omega)).call fun s1 hE1 => ?_
  have hE : Ext st s1 := Ext.trans (by simp) hE1
  have hb : s1.get (st.next + 1) = some (.cells [I n]) := by rw [hE1.get _ (by simp)]; simp
  have hl : st.next + 1 < s1.next := by have := hE1.next; simp at this; omega
  simp [refinerylaw03_IrChecks_j0_eq hJ, hf]
  refine (Light_ok hF (fun id h => Nat.lt_of_lt_of_le (hA id h) hE.next) (hv.mono (hE.agree hA)) hn).call fun s2 hE2 => ?_
  cases hlt : s.light with
  | false => simp
  | true =>
    simp
    exact Checks_j1 hF hJ ((hE.trans hE2).roOk hro) hs hlt (fun id h => Nat.lt_of_lt_of_le (hA id h) (hE.trans hE2).next) (hv.mono ((hE.trans hE2).agree hA)) hw (Nat.lt_of_lt_of_le hl hE2.next) (by rw [hE2.get _ hl]; exact hb)

theorem IrChecks_args (st : St) (args : List Value) (hro : st.ro = st.next) (h : WVs pg st [42, 5, 3] args) : Ok (K.go (.call n_refinerylaw03_IrChecks args) st) fun r => r.1 = .bool true := by
  match args, h with
  | [v0, v1, v2], ⟨h0, h1, h2, _⟩ =>
    obtain ⟨s, hv, hs, hl⟩ := wv_Small h0
    obtain ⟨n1, rfl, w1⟩ := h1.int Try.underlying5
    obtain ⟨n2, rfl, w2⟩ := h2.int Try.underlying3
    exact IrChecks_ok hF (Nat.le_of_eq hro) hs hl (fun id h => h) hv (bounds_u8 w1)
end Go.Proofs.Ytfknooeebmdfoaa.Sh

