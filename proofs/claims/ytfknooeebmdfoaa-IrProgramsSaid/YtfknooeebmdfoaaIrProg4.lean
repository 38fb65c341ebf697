/-
  IrPrograms: copies are the same; how much there is.
-/
import Derived.Test.YtfknooeebmdfoaaIrProg3
set_option linter.unusedVariables false
set_option linter.unusedSimpArgs false
set_option linter.unusedSectionVars false
set_option maxRecDepth 100000
namespace Go.Proofs.Ytfknooeebmdfoaa.Sh
open Go Go.AM Go.Proofs

variable {K : Ctx} (hF : Fix pgF K)
include hF
variable {J : JT (Value × St)} (hJ : IsJ K (retK refinerylaw03_IrPrograms_c.results) J)
include hJ

theorem Progs_j13 {Ap Aq : Nat → Prop} {t : St} {vp vq vl : Value} {p tl : Prog} {b : Block} {f : Phi} {d : Int} {n : Nat} {rz qb rb lb kb : Nat} {r0 : Value} {so : Bool} (hro : t.ro ≤ t.next) (hrz : t.get rz = some (.cells [r0])) (hrro : t.ro ≤ rz) (hqb : t.get qb = some (.cells [vq])) (hrb : t.get rb = some (.cells [I (regs (b :: tl))])) (hlb : t.get lb = some (.cells [vl])) (hkb : t.get kb = some (.cells [I n]))
    (k1 : rz < t.next) (k2 : qb < t.next) (k3 : rb < t.next) (k4 : lb < t.next) (k5 : kb < t.next) (hvl : ∀ s, sLen .slice vl s = .ok (I n, s)) (hAp : ∀ id, Ap id → id < t.next) (hAq : ∀ id, Aq id → id < t.next) (hp : RProg Ap t vp p) (hq : RProg Aq t vq (b :: tl)) (hne : ¬ p = b :: tl) (hplen : p.length < 2 ^ 62) (hpf : ∀ x ∈ p, x.fits)
    (hc : count (b :: tl) < 2 ^ 32) (hsm : ∀ x ∈ b :: tl, ∀ g ∈ x.phis, g.frm.length < 2 ^ 40 ∧ g.args.length < 2 ^ 40) (hfit : ∀ x ∈ b :: tl, (∀ g ∈ x.phis, g.args.length < 2 ^ 62) ∧ ∀ r ∈ x.seen, fit r) (hs : ∀ x ∈ b :: tl, x.fits) (hl : (b :: tl).length < 2 ^ 62) (hph : b.phis = [f]) (hd : 0 ≤ d ∧ d ≤ 255) (hfd : f.dst = d) (hchk : decide (check (b :: tl) = 0) = so) :
    Ok (refinerylaw03_IrPrograms_j13 J (U d) (P rz 0) (.agg #[vp]) (B so) (P qb 0) (I (count (b :: tl))) (P rb 0) (P lb 0) (P kb 0) t) fun r => r.1 = B true := by
  rw [refinerylaw03_IrPrograms_j13_eq hJ]
  generalize hQq : b :: tl = q at *
  have hldn : ∀ s, Ext t s → s.loadN qb 0 1 = .ok [vq] := fun s hE => by rw [loadN_def, hE.get _ k2, hqb]; simp [Res.need]
  have hag : ∀ v : Value, Value.agg [v].toArray = .agg #[v] := fun v => rfl
  have hfc : ∀ v s, sField (some 1) 0 (.agg #[v]) s = .ok (.agg #[v], s) := fun v s => rfl
  have R : ∀ s, Ext t s → RProg Aq s vq q := fun s hE => hq.mono (hE.agree hAq)
  have RA : ∀ s, Ext t s → ∀ id, Aq id → id < s.next := fun s hE id h => Nat.lt_of_lt_of_le (hAq id h) hE.next
  have Rp : ∀ s, Ext t s → RProg Ap s vp p := fun s hE => hp.mono (hE.agree hAp)
  have RAp : ∀ s, Ext t s → ∀ id, Ap id → id < s.next := fun s hE id h => Nat.lt_of_lt_of_le (hAp id h) hE.next
  have hlrb : ∀ s, Ext t s → s.load1 rb 0 = .ok (I (regs q)) := fun s hE => load1_eq (by rw [hE.get _ k3]; exact hrb) rfl
  have hllb : ∀ s, Ext t s → s.load1 lb 0 = .ok vl := fun s hE => load1_eq (by rw [hE.get _ k4]; exact hlb) rfl
  have hlkb : ∀ s, Ext t s → s.load1 kb 0 = .ok (I n) := fun s hE => load1_eq (by rw [hE.get _ k5]; exact hkb) rfl
  have ht := Ext.refl t
  simp [hldn t ht]
  refine (Clone_ok hF hAq hro hq hc hsm).thn fun ⟨r1, s1⟩ ⟨vc, ids, e1, e2, e3, e4, hE1⟩ => ?_
  simp only at e1 e2 e3 e4 hE1 ⊢
  subst e1
  have hup : ∀ s, sUpd 1 0 (.agg #[.slice none 0 0]) (.agg #[vc]) s = .ok (.agg #[vc], s) := fun s => by simp [Res.need, e2.cell]
  have hE2 : Ext t s1.bump := hE1.bump
  simp [hup, hldn _ hE2, hfc]
  have rc : ∀ s, Ext s1 s → RProg (fun id => id ∈ ids) s vc q := fun s hE => (e2.frame fun id hi => hE.get id (e4 id hi).2).read
  have hcl : ∀ s, Ext s1 s → ∀ id, id ∈ ids → id < s.next := fun s hE id hi => Nat.lt_of_lt_of_le (e4 id hi).2 hE.next
  refine (Same_ok hF (RA _ hE2) (hcl _ (by simp)) (R _ hE2) (rc _ (by simp)) hl hs).call fun s3 hs13 => ?_
  have hE3 := hE2.trans hs13
  simp [hfc, hldn _ hE3]
  refine (Same_ok hF (RAp _ hE3) (RA _ hE3) (Rp _ hE3) (R _ hE3) hplen hpf).callB fun s4 hs34 => ?_
  have hE4 := hE3.trans hs34
  have hdec : decide (p = q) = false := decide_eq_false hne
  rw [hdec]
  simp [hldn _ hE4]
  refine (Count_ok hF (RA _ hE4) (R _ hE4) (by omega)).callB fun s5 hs45 => ?_
  have hE5 := hE4.trans hs45
  simp [hldn _ hE5]
  refine (Regs_ok hF (RA _ hE5) (hE5.roOk hro) (R _ hE5) (by omega) hfit).callB fun s6 hs56 => ?_
  have hE6 := hE5.trans hs56
  simp [-sLen_slice, hlrb _ hE6, hlrb _ hE5, sStays, Res.need, hlkb _ hE6, hllb _ hE6, hvl, hldn _ hE6]
  have hpl : ∀ x ∈ q, x.phis.length < 2 ^ 62 := fun x hx => (hs x hx).1
  refine (Plain_ok hF (RA _ hE6) (R _ hE6) hl hpl).callB fun s7 hs67 => ?_
  have hE7 := hE6.trans hs67
  have hnp : plain q = false := by rw [← hQq]; simp [plain, hph]
  rw [hnp]
  simp [hldn _ hE7]
  refine (Check_ok hF (RA _ hE7) (R _ hE7) (by omega) (fun x hx g hg => Nat.lt_trans (hsm x hx g hg).1 (by decide)) (hE7.roOk hro)).callB fun s8 hs78 => ?_
  have hE8 := hE7.trans hs78
  simp [hchk]
  subst hQq
  have hs18 : Ext s1 s8 := ⟨by
    have a1 : s1.next ≤ s1.bump.next := by rw [next_bump]; omega
    have a2 := hs13.next; have a3 := hs34.next; have a4 := hs45.next; have a5 := hs56.next; have a6 := hs67.next; have a7 := hs78.next
    omega, by rw [hE8.ro, hE1.ro], fun id hi => by
    have b0 : id < s1.bump.next := by rw [next_bump]; omega
    have b1 := Nat.lt_of_lt_of_le b0 hs13.next
    have b2 := Nat.lt_of_lt_of_le b1 hs34.next
    have b3 := Nat.lt_of_lt_of_le b2 hs45.next
    have b4 := Nat.lt_of_lt_of_le b3 hs56.next
    have b5 := Nat.lt_of_lt_of_le b4 hs67.next
    rw [hs78.get id b5, hs67.get id b4, hs56.get id b3, hs45.get id b2, hs34.get id b1, hs13.get id b0, get_bump, if_neg (by omega)]⟩
  have hro8 : s8.ro ≤ t.next := by rw [hE8.ro]; exact hro
  refine Progs_j14 hF hJ (Aq := Aq) (ids := ids) (by rw [hE8.ro]; exact hrro) (by rw [hE8.get _ k2]; exact hqb) (by rw [hE8.get _ k1]; exact hrz) (fun id h => ⟨RA _ hE8 id h, fun hm => by have := (e4 id hm).1; have := hAq id h; omega⟩) (Nat.lt_of_lt_of_le k1 hE8.next) (Nat.lt_of_lt_of_le k2 hE8.next) (fun hm => by have := (e4 _ hm).1; omega) (fun hm => by have := (e4 _ hm).1; omega)
    (R _ hE8) (e2.frame fun id hi => hs18.get id (e4 id hi).2) e3 (fun id hi => ⟨by have := (e4 id hi).1; omega, hcl _ hs18 id hi⟩) hph hd hfd hl hs
end Go.Proofs.Ytfknooeebmdfoaa.Sh

