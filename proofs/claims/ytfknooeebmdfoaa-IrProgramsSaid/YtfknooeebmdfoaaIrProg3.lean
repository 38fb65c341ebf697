/-
  IrPrograms: the copy is turned; what is not.
-/
import Derived.Test.YtfknooeebmdfoaaIrProg2
set_option linter.unusedVariables false
set_option linter.unusedSimpArgs false
set_option linter.unusedSectionVars false
set_option maxRecDepth 100000
namespace Go.Proofs.Ytfknooeebmdfoaa.Sh
open Go Go.AM Go.Proofs

theorem only_phi {A : Nat → Prop} {st : St} {c : Nat} {f : Phi} {vf va : Value} (hg : st.get c = some (.cells [I f.dst, vf, va])) (hA : A c) (hf : RSl A st 1 RInt vf f.frm) (ha : RSl A st 1 RInt va f.args) : RSl A st 3 (RPhi A st) (Sl c 0 1 3) [f] :=
  .inr ⟨c, 0, _, rfl, hA, hg, by simp, fun i x hx => by
    cases i with
    | zero => simp at hx; subst hx; exact ⟨vf, va, rfl, hf, ha⟩
    | succ i => simp at hx⟩

variable {K : Ctx} (hF : Fix pgF K)
include hF
variable {J : JT (Value × St)} (hJ : IsJ K (retK refinerylaw03_IrPrograms_c.results) J)
include hJ

theorem Progs_j15 {Aq Ac : Nat → Prop} {t : St} {vq vc : Value} {b : Block} {tl c : Prog} {f : Phi} {d : Int} {qb rz : Nat} {r0 : Value} (hro : t.ro ≤ rz) (hgq : t.get qb = some (.cells [vq])) (hrz : t.get rz = some (.cells [r0])) (hAq : ∀ id, Aq id → id < t.next) (hAc : ∀ id, Ac id → id < t.next) (hrl : rz < t.next) (hql : qb < t.next)
    (hq : RProg Aq t vq (b :: tl)) (hc : RProg Ac t vc c) (hne : ¬ (b :: tl = c)) (hph : b.phis = [f]) (hd : 0 ≤ d ∧ d ≤ 255) (hfd : f.dst = d) (hl : (b :: tl).length < 2 ^ 62) (hs : ∀ x ∈ b :: tl, x.fits) :
    Ok (refinerylaw03_IrPrograms_j15 J (U d) (P rz 0) (P qb 0) (.agg #[vc]) t) fun r => r.1 = B true := by
  rw [refinerylaw03_IrPrograms_j15_eq hJ]
  have hldn : t.loadN qb 0 1 = .ok [vq] := by rw [loadN_def, hgq]; simp [Res.need]
  have hag : Value.agg [vq].toArray = .agg #[vq] := rfl
  have hfc : ∀ s, sField (some 1) 0 (.agg #[vc]) s = .ok (.agg #[vc], s) := fun s => rfl
  simp [hldn, hfc]
  refine (Same_ok hF hAq hAc hq hc hl hs).call fun s1 hE1 => ?_
  have hdec : decide (b :: tl = c) = false := decide_eq_false hne
  obtain ⟨db, dO, ds, d1, d2, ⟨vp, vi, rfl, p1, p2⟩, -, -, d3⟩ := RSl.at hq (i := 0) (x := b) rfl
  have d3 := d3 s1 1 vp (hE1.agree hAq) rfl
  rw [hph] at p1
  obtain ⟨eb, eo, es, e1, e2, ⟨vf, va, rfl, q1, q2⟩, -, -, e3⟩ := RSl.at p1 (i := 0) (x := f) rfl
  have e3 := e3 s1 0 (I f.dst) (hE1.agree hAq) rfl
  have hld : s1.load1 qb 0 = .ok vq := load1_eq (by rw [hE1.get _ hql]; exact hgq) rfl
  have d1' : ∀ s, sIxA 7 none vq (I 0) s = .ok (P db dO, s) := d1
  have e1' : ∀ s, sIxA 3 none vp (I 0) s = .ok (P eb eo, s) := e1
  have hw : IntKind.i64.wrap d = d := wrap_id (by omega)
  have hst : s1.storeN rz 0 [.bool true] = .ok (s1.put rz (.cells [.bool true])) := by
    have : s1.ro ≤ rz := by rw [hE1.ro]; exact hro
    simp [hE1.get _ hrl, hrz, this, Res.need]
  have hld2 : (s1.put rz (.cells [.bool true])).load1 rz 0 = .ok (.bool true) := load1_eq (by rw [get_put, if_pos rfl]) rfl
  rw [Nat.add_zero] at e3
  rw [hdec]
  simp [-storeN_def, hld, d1', d3, e1', e3, hfd, hw, hst, hld2, Res.need, oneOf]

theorem Progs_j14 {Aq : Nat → Prop} {t : St} {vq vc : Value} {b : Block} {tl : Prog} {f : Phi} {d : Int} {qb rz : Nat} {r0 : Value} {ids : List Nat} (hro : t.ro ≤ rz) (hgq : t.get qb = some (.cells [vq])) (hrz : t.get rz = some (.cells [r0])) (hAq : ∀ id, Aq id → id < t.next ∧ id ∉ ids) (hrl : rz < t.next) (hql : qb < t.next) (hqi : qb ∉ ids) (hri : rz ∉ ids)
    (hq : RProg Aq t vq (b :: tl)) (hc : PProg t vc (b :: tl) ids) (hnd : ids.Nodup) (hids : ∀ id ∈ ids, t.ro ≤ id ∧ id < t.next) (hph : b.phis = [f]) (hd : 0 ≤ d ∧ d ≤ 255) (hfd : f.dst = d) (hl : (b :: tl).length < 2 ^ 62) (hs : ∀ x ∈ b :: tl, x.fits) :
    Ok (refinerylaw03_IrPrograms_j14 J (U d) (P rz 0) (P qb 0) (.agg #[vc]) t) fun r => r.1 = B true := by
  rw [refinerylaw03_IrPrograms_j14_eq hJ]
  obtain ⟨bid, vph, vi, i1, i2, ir, rest, rfl, g1, g2, g3, ⟨m0, m1, m2, m3⟩, ⟨n1, n2, n3⟩, n4, n5, n6, n7, hmk⟩ := first_view hc hnd
  rw [hph] at g2
  obtain ⟨pb, vf, va, j1, j2, rfl, p1, p2, p3, p4, p5, p6⟩ := phi_view g2 n6
  have hix7 : ∀ (c n : Nat) s, sIxA 7 none (Sl c 0 (n + 1) 7) (I 0) s = .ok (P c 0, s) := fun c n s => by
    have : (0 : Int) < ((n + 1 : Nat) : Int) := by omega
    simp [sIxA, index, Res.need]
  have hix3 : ∀ (c : Nat) s, sIxA 3 none (Sl c 0 1 3) (I 0) s = .ok (P c 0, s) := fun c s => by simp [sIxA, index, Res.need]
  have l1 : t.load1 bid 1 = .ok (Sl pb 0 1 3) := load1_eq g1 rfl
  have l2 : t.load1 pb 0 = .ok (I f.dst) := load1_eq p1 rfl
  have hpi := hids pb (m1 _ p4)
  have hbi := hids bid m0
  have hcv := p2.cell
  have hca := p3.cell
  have w1 : IntKind.i64.wrap (f.dst + 1) = f.dst + 1 := wrap_id (by omega)
  have st1 : t.storeN pb 0 [I (f.dst + 1)] = .ok (t.put pb (.cells [I (f.dst + 1), vf, va])) := by
    simp [p1, hpi.1, Res.need]
  generalize ht1 : t.put pb (.cells [I (f.dst + 1), vf, va]) = t1 at st1
  have hbp : bid ≠ pb := fun e => n1 (e ▸ p4)
  have q1 : t1.get bid = some (.cells (cB b.label (Sl pb 0 1 3) vi b.last ++ rest)) := by rw [← ht1, get_put, if_neg hbp]; exact g1
  have q2 : t1.get pb = some (.cells [I (f.dst + 1), vf, va]) := by rw [← ht1, get_put, if_pos rfl]
  have q3 : t1.next = t.next ∧ t1.ro = t.ro := by rw [← ht1]; exact ⟨rfl, rfl⟩
  have q4 : ∀ id, id ≠ pb → t1.get id = t.get id := fun id h => by rw [← ht1, get_put, if_neg h]
  clear ht1
  have l3 : t1.load1 bid 2 = .ok vi := load1_eq q1 rfl
  -- what comes behind: q as it was, the copy turned
  have fin : ∀ (t2 : St) (b' : Block) (vi' : Value), t2.next = t.next → t2.ro = t.ro → (∀ id, id ≠ pb → id ∉ i2 → t2.get id = t.get id) → t2.get pb = some (.cells [I (f.dst + 1), vf, va]) → t2.get bid = some (.cells (cB b'.label (Sl pb 0 1 3) vi' b'.last ++ rest)) → b'.phis = [⟨f.dst + 1, f.frm, f.args⟩] → RSl (fun id => id ∈ ids) t2 7 RInstr vi' b'.instrs →
      Ok (refinerylaw03_IrPrograms_j15 J (U d) (P rz 0) (P qb 0) (.agg #[Sl bid 0 (tl.length + 1) 7]) t2) fun r => r.1 = B true := fun t2 b' vi' a1 a2 a3 a4 a5 a6 a7 => by
    have hkeep : ∀ id, id ∉ ids → t2.get id = t.get id := fun id h => a3 id (fun e => h (e ▸ m1 _ p4)) fun h' => h (m2 id h')
    have hin : RProg (fun id => id ∈ ids) t2 (Sl bid 0 (tl.length + 1) 7) (b' :: tl) := by
      refine hmk (fun id => id ∈ ids) t2 (Sl pb 0 1 3) vi' b' m0 m3 (fun id hi => a3 id (fun e => (n4 pb p4).2 (e ▸ hi)) fun h' => n5 id h' hi) a5 ?_ a7
      rw [a6]
      refine only_phi a4 (m1 _ p4) ?_ ?_
      · exact ((p2.frame (st' := t2) PInt.fr fun id hi => a3 id (p5 id hi).2 (n4 id (p5 id hi).1).1).rsl (R' := RInt) fun cs x is _ _ h => h.1).in fun id hi => m1 id (p5 id hi).1
      · exact ((p3.frame (st' := t2) PInt.fr fun id hi => a3 id (p6 id hi).2 (n4 id (p6 id hi).1).1).rsl (R' := RInt) fun cs x is _ _ h => h.1).in fun id hi => m1 id (p6 id hi).1
    refine Progs_j15 hF hJ (Aq := Aq) (Ac := fun id => id ∈ ids) (by rw [a2]; exact hro) (by rw [hkeep _ hqi]; exact hgq) (by rw [hkeep _ hri]; exact hrz) (fun id h => by rw [a1]; exact (hAq id h).1) (fun id h => by rw [a1]; exact (hids id h).2) (by rw [a1]; exact hrl) (by rw [a1]; exact hql) (hq.mono fun id h => hkeep id (hAq id h).2) hin (fun e => ?_) hph hd hfd hl hs
    have e1 : b.phis = b'.phis := by rw [(List.cons.inj e).1]
    rw [hph, a6] at e1
    have := congrArg Phi.dst (List.cons.inj e1).1
    simp only at this
    omega
  by_cases h0 : b.instrs = []
  · have hlen : ∀ s, sLen .slice vi s = .ok (I 0, s) := fun s => by
      have := g3.len s
      rw [h0] at this; exact this
    simp [-storeN_def, -sLen_slice, Res.of, hix7, hix3, l1, l2, w1, st1, l3, hlen, Res.need]
    exact fin t1 { b with phis := [⟨f.dst + 1, f.frm, f.args⟩] } vi q3.1 q3.2 (fun id h1 h2 => q4 id h1) q2 q1 rfl ((g3.frame (st' := t1) PInstr.fr fun id hi => q4 id fun e => (n4 pb p4).1 (e ▸ hi)).rsl (R' := RInstr) (fun cs x is _ _ h => h.1) |>.in fun id hi => m2 id hi)
  · obtain ⟨ib, rfl, k1, k2⟩ := ins_view g3 h0
    obtain ⟨x, li, hli⟩ : ∃ x li, b.instrs = x :: li := by
      cases hb : b.instrs with
      | nil => exact absurd hb h0
      | cons x li => exact ⟨x, li, rfl⟩
    have hipb : ib ≠ pb := fun e => (n4 pb p4).1 (e ▸ k1)
    have hib : bid ≠ ib := fun e => n2 (e ▸ k1)
    have k2' : t1.get ib = some (.cells (cI x ++ (li.map cI).flatten)) := by rw [q4 ib hipb, k2, hli]; rfl
    have l5 : t1.load1 ib 5 = .ok (I x.n) := load1_eq k2' rfl
    have hlen : ∀ s, sLen .slice (Sl ib 0 b.instrs.length 7) s = .ok (I (li.length + 1 : Nat), s) := fun s => by rw [hli]; rfl
    have hsl : Sl ib 0 b.instrs.length 7 = Sl ib 0 (li.length + 1) 7 := by rw [hli]; rfl
    rw [hsl] at l3 q1 hlen
    have hpos : (0 : Int) < ((li.length + 1 : Nat) : Int) := by omega
    have st2 : t1.storeN ib 5 [I (IntKind.i64.wrap (x.n + 1))] = .ok (t1.put ib (.cells (((({ x with n := IntKind.i64.wrap (x.n + 1) } : Instr) :: li).map cI).flatten))) := by
      have hr : t1.ro ≤ ib := by rw [q3.2]; exact (hids ib (m2 _ k1)).1
      rw [storeN_def, k2']
      have h1 : 5 + [I (IntKind.i64.wrap (x.n + 1))].length ≤ (cI x ++ (li.map cI).flatten).length := by simp [cI]
      simp only [need_dec hr, need_dec h1]
      simp [splice, cI, Res.need]
    push_cast at hpos hlen
    simp [-storeN_def, -sLen_slice, Res.of, hix7, hix3, l1, l2, w1, st1, l3, hlen, hpos, l5, st2, Res.need]
    have := fin (t1.put ib (.cells (((({ x with n := IntKind.i64.wrap (x.n + 1) } : Instr) :: li).map cI).flatten))) { b with phis := [⟨f.dst + 1, f.frm, f.args⟩], instrs := { x with n := IntKind.i64.wrap (x.n + 1) } :: li } (Sl ib 0 (li.length + 1) 7) q3.1 q3.2 (fun id h1 h2 => by rw [get_put, if_neg (fun e : id = ib => h2 (by rw [e]; exact k1))]; exact q4 id h1) (by rw [get_put, if_neg (fun e => hipb e.symm)]; exact q2) (by rw [get_put, if_neg hib]; exact q1) rfl
      (rsl_instrs ({ x with n := IntKind.i64.wrap (x.n + 1) } :: li) (by rw [get_put, if_pos rfl]) (m2 _ k1))
    exact this
end Go.Proofs.Ytfknooeebmdfoaa.Sh

